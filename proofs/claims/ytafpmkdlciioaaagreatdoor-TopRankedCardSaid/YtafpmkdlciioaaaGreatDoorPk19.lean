import Derived.Test.YtafpmkdlciioaaaGreatDoorPk18
import Derived.Test.YtafpmkdlciioaaaGreatDoorPk09
import Derived.Test.YtafpmkdlciioaaaGreatDoorPk05
import Derived.Test.YtafpmkdlciioaaaGreatDoorPk06
import Derived.Test.YtafpmkdlciioaaaGreatDoorPk03
import Derived.Laws.BytesString
import Derived.Test.YtafpmkdlciioaaaGreatDoorPk01
import Derived.Maps.Views
import Derived.Maps.Own
import Derived.Maps.OwnOps
import Derived.Maps.OwnSet
set_option maxHeartbeats 8000000
set_option maxRecDepth 100000
namespace Go.Proofs.YtafpmkdlciioaaaGreatDoor
open Go.RowKit
attribute [local go_sem] Oper.semAt_some
def ruV:Value:=.agg #[.bool false,.slice none 0 0,.slice none 0 0,.int .i64 1,.int .i64 0]
def cuV:Value:=.agg #[.slice none 0 0,.slice none 0 0]
def IsR1 (w:World) (g:Nat):Prop:=Blk w g 62 #[.bool false,.slice none 0 0,.slice none 0 0,.int .i64 1,.int .i64 0]
theorem IsR1.below {w w':World} {g:Nat} (h:IsR1 w g) (hb:Below w.heap.size w w'):IsR1 w' g:=Blk.below h hb (Blk.lt h)
def IsQ1 (w:World) (g:Nat):Prop:=w.cell? ⟨g,0,none⟩=some (.slice none 0 0)∧w.cell? ⟨g,1,none⟩=some (.slice none 0 0)
theorem IsQ1.below {w w':World} {g:Nat} (h:IsQ1 w g) (hb:Below w.heap.size w w'):IsQ1 w' g:=⟨onB hb h.1,onB hb h.2⟩
theorem index_rall (cp:Value) (b:Bool) (g c:Nat) (w:World) (h:IsR1 w g)
  (hf:Calls Tryz.prog 171 #[ruV,cp] w fun e w'=>e=.returned (.bool b)∧Below w.heap.size w w') :
  Calls Tryz.prog 123 #[.slice (some ⟨g,0,none⟩) 1 c,.func (.func 171) #[] #[cp]] w fun e w'=>e=.returned (.int .i64 (if b then 0 else -1))∧Below w.heap.size w w':=by
 have q0:=Blk.cell h 0
 have q1:=Blk.cell h 1
 have q2:=Blk.cell h 2
 have q3:=Blk.cell h 3
 have q4:=Blk.cell h 4
 have HF:=hideC hf
 unfold ruV at HF
 clear hf
 go_enter Tryz.func123,Tryz.ntmps123
 go_wp2_with fail
 refine wp_loop_rounds 2 ?_
 rw [rounds_succ]
 go_wp2_with fail
 refine HF.out.mono ?_
 rintro e w1 ⟨rfl,hb⟩
 cases b with
 | true =>
  go_wp2_with fail
  go_ret
  exact ⟨rfl,hb⟩
 | false =>
  go_wp2_with fail
  rw [rounds_succ]
  go_wp2_with fail
  go_ret
  exact ⟨rfl,hb⟩
theorem index_rsat (cp:Value) (cq:Value) (b:Bool) (g c:Nat) (w:World) (h:IsR1 w g)
  (hf:Calls Tryz.prog 124 #[ruV,cp,cq] w fun e w'=>e=.returned (.bool b)∧Below w.heap.size w w') :
  Calls Tryz.prog 123 #[.slice (some ⟨g,0,none⟩) 1 c,.func (.func 124) #[] #[cp,cq]] w fun e w'=>e=.returned (.int .i64 (if b then 0 else -1))∧Below w.heap.size w w':=by
 have q0:=Blk.cell h 0
 have q1:=Blk.cell h 1
 have q2:=Blk.cell h 2
 have q3:=Blk.cell h 3
 have q4:=Blk.cell h 4
 have HF:=hideC hf
 unfold ruV at HF
 clear hf
 go_enter Tryz.func123,Tryz.ntmps123
 go_wp2_with fail
 refine wp_loop_rounds 2 ?_
 rw [rounds_succ]
 go_wp2_with fail
 refine HF.out.mono ?_
 rintro e w1 ⟨rfl,hb⟩
 cases b with
 | true =>
  go_wp2_with fail
  go_ret
  exact ⟨rfl,hb⟩
 | false =>
  go_wp2_with fail
  rw [rounds_succ]
  go_wp2_with fail
  go_ret
  exact ⟨rfl,hb⟩
theorem contains_rall (cp:Value) (b:Bool) (g c:Nat) (w:World) (h:IsR1 w g)
  (hf:Calls Tryz.prog 171 #[ruV,cp] w fun e w'=>e=.returned (.bool b)∧Below w.heap.size w w') :
  Calls Tryz.prog 170 #[.slice (some ⟨g,0,none⟩) 1 c,.func (.func 171) #[] #[cp]] w fun e w'=>e=.returned (.bool b)∧Below w.heap.size w w':=by
 have HI:=hideC (index_rall cp b g c w h hf)
 clear hf
 go_enter Tryz.func170,Tryz.ntmps170
 go_wp2_with fail
 refine HI.out.mono ?_
 rintro e w1 ⟨rfl,hb⟩
 cases b <;> (go_wp2_with fail;go_ret;exact ⟨rfl,hb⟩)
theorem index_qall (cp:Value) (b:Bool) (g c:Nat) (w:World) (h:IsQ1 w g)
  (hf:Calls Tryz.prog 200 #[cuV,cp] w fun e w'=>e=.returned (.bool b)∧Below w.heap.size w w') :
  Calls Tryz.prog 168 #[.slice (some ⟨g,0,none⟩) 1 c,.func (.func 200) #[] #[cp]] w fun e w'=>e=.returned (.int .i64 (if b then 0 else -1))∧Below w.heap.size w w':=by
 have q0:=h.1
 have q1:=h.2
 have HF:=hideC hf
 unfold cuV at HF
 clear hf
 go_enter Tryz.func168,Tryz.ntmps168
 go_wp2_with fail
 refine wp_loop_rounds 2 ?_
 rw [rounds_succ]
 go_wp2_with fail
 refine HF.out.mono ?_
 rintro e w1 ⟨rfl,hb⟩
 cases b with
 | true =>
  go_wp2_with fail
  go_ret
  exact ⟨rfl,hb⟩
 | false =>
  go_wp2_with fail
  rw [rounds_succ]
  go_wp2_with fail
  go_ret
  exact ⟨rfl,hb⟩
theorem index_qemp (b:Bool) (g c:Nat) (w:World) (h:IsQ1 w g)
  (hf:Calls Tryz.prog 119 #[cuV] w fun e w'=>e=.returned (.bool b)∧Below w.heap.size w w') :
  Calls Tryz.prog 168 #[.slice (some ⟨g,0,none⟩) 1 c,.func (.func 119) #[] #[]] w fun e w'=>e=.returned (.int .i64 (if b then 0 else -1))∧Below w.heap.size w w':=by
 have q0:=h.1
 have q1:=h.2
 have HF:=hideC hf
 unfold cuV at HF
 clear hf
 go_enter Tryz.func168,Tryz.ntmps168
 go_wp2_with fail
 refine wp_loop_rounds 2 ?_
 rw [rounds_succ]
 go_wp2_with fail
 refine HF.out.mono ?_
 rintro e w1 ⟨rfl,hb⟩
 cases b with
 | true =>
  go_wp2_with fail
  go_ret
  exact ⟨rfl,hb⟩
 | false =>
  go_wp2_with fail
  rw [rounds_succ]
  go_wp2_with fail
  go_ret
  exact ⟨rfl,hb⟩
theorem contains_qall (cp:Value) (b:Bool) (g c:Nat) (w:World) (h:IsQ1 w g)
  (hf:Calls Tryz.prog 200 #[cuV,cp] w fun e w'=>e=.returned (.bool b)∧Below w.heap.size w w') :
  Calls Tryz.prog 117 #[.slice (some ⟨g,0,none⟩) 1 c,.func (.func 200) #[] #[cp]] w fun e w'=>e=.returned (.bool b)∧Below w.heap.size w w':=by
 have HI:=hideC (index_qall cp b g c w h hf)
 clear hf
 go_enter Tryz.func117,Tryz.ntmps117
 go_wp2_with fail
 refine HI.out.mono ?_
 rintro e w1 ⟨rfl,hb⟩
 cases b <;> (go_wp2_with fail;go_ret;exact ⟨rfl,hb⟩)
theorem contains_qemp (b:Bool) (g c:Nat) (w:World) (h:IsQ1 w g)
  (hf:Calls Tryz.prog 119 #[cuV] w fun e w'=>e=.returned (.bool b)∧Below w.heap.size w w') :
  Calls Tryz.prog 117 #[.slice (some ⟨g,0,none⟩) 1 c,.func (.func 119) #[] #[]] w fun e w'=>e=.returned (.bool b)∧Below w.heap.size w w':=by
 have HI:=hideC (index_qemp  b g c w h hf)
 clear hf
 go_enter Tryz.func117,Tryz.ntmps117
 go_wp2_with fail
 refine HI.out.mono ?_
 rintro e w1 ⟨rfl,hb⟩
 cases b <;> (go_wp2_with fail;go_ret;exact ⟨rfl,hb⟩)
theorem contains_q0i (fv:Value) (a:Option Addr) (c:Nat) (w:World) :
  Calls Tryz.prog 168 #[.slice a 0 c,fv] w fun e w'=>e=.returned (.int .i64 (-1))∧w'=w:=by
 go_enter Tryz.func168,Tryz.ntmps168
 go_wp2_with fail
 refine wp_loop_rounds 1 ?_
 rw [rounds_succ]
 go_wp2_with fail
 go_ret
 exact ⟨rfl,rfl⟩
theorem contains_q0 (fv:Value) (a:Option Addr) (c:Nat) (w:World) :
  Calls Tryz.prog 117 #[.slice a 0 c,fv] w fun e w'=>e=.returned (.bool false)∧w'=w:=by
 have HI:=hideC (contains_q0i fv a c w)
 go_enter Tryz.func117,Tryz.ntmps117
 go_wp2_with fail
 refine HI.out.mono ?_
 rintro e w1 ⟨rfl,rfl⟩
 go_wp2_with fail
 go_ret
 exact ⟨rfl,rfl⟩
theorem contains_p0i (fv:Value) (a:Option Addr) (c:Nat) (w:World) :
  Calls Tryz.prog 133 #[.slice a 0 c,fv] w fun e w'=>e=.returned (.int .i64 (-1))∧w'=w:=by
 go_enter Tryz.func133,Tryz.ntmps133
 go_wp2_with fail
 refine wp_loop_rounds 1 ?_
 rw [rounds_succ]
 go_wp2_with fail
 go_ret
 exact ⟨rfl,rfl⟩
theorem contains_p0 (fv:Value) (a:Option Addr) (c:Nat) (w:World) :
  Calls Tryz.prog 88 #[.slice a 0 c,fv] w fun e w'=>e=.returned (.bool false)∧w'=w:=by
 have HI:=hideC (contains_p0i fv a c w)
 go_enter Tryz.func88,Tryz.ntmps88
 go_wp2_with fail
 refine HI.out.mono ?_
 rintro e w1 ⟨rfl,rfl⟩
 go_wp2_with fail
 go_ret
 exact ⟨rfl,rfl⟩
theorem not_k2 (cp:Value) (b:Bool) (k:Nat) (w:World) (hk:Blk w k 189 #[.func (.func 165) #[] #[cp]])
  (hf:∀ W,Below w.heap.size w W→Calls Tryz.prog 165 #[ruV,cp] W fun e w'=>e=.returned (.bool b)∧Below W.heap.size W w') :
  Calls Tryz.prog 171 #[ruV,.pointer (some ⟨k,0,none⟩)] w fun e w'=>e=.returned (.bool !b)∧Below w.heap.size w w':=by
 have HF:=Lib.hid hf
 clear hf
 unfold ruV at HF ⊢
 have qk:=hk.cell 0
 have lk:=hk.lt
 go_enter Tryz.func171,Tryz.ntmps171
 go_wp2_with fail
 refine absC1 fun W h2 hb hz=>?_
 have HG:=hideC (HF.out W hb)
 have kk:=hk.below hb hk.lt
 have q:=kk.cell 0
 have q0:=h2.cell 0
 have q1:=h2.cell 1
 have q2:=h2.cell 2
 have q3:=h2.cell 3
 have q4:=h2.cell 4
 clear hz HF hk qk lk
 go_wp2_with fail
 refine HG.out.mono ?_
 rintro e w1 ⟨rfl,hb1⟩
 cases b <;> (go_wp2_with fail;go_ret;exact ⟨rfl,hb.trans (hb1.mono hb.size)⟩)
theorem not_rv (b:Bool) (k:Nat) (w:World) (hk:Blk w k 189 #[.func (.func 115) #[] #[]])
  (hf:∀ W,Below w.heap.size w W→Calls Tryz.prog 115 #[ruV] W fun e w'=>e=.returned (.bool b)∧Below W.heap.size W w') :
  Calls Tryz.prog 171 #[ruV,.pointer (some ⟨k,0,none⟩)] w fun e w'=>e=.returned (.bool !b)∧Below w.heap.size w w':=by
 have HF:=Lib.hid hf
 clear hf
 unfold ruV at HF ⊢
 have qk:=hk.cell 0
 have lk:=hk.lt
 go_enter Tryz.func171,Tryz.ntmps171
 go_wp2_with fail
 refine absC1 fun W h2 hb hz=>?_
 have HG:=hideC (HF.out W hb)
 have kk:=hk.below hb hk.lt
 have q:=kk.cell 0
 have q0:=h2.cell 0
 have q1:=h2.cell 1
 have q2:=h2.cell 2
 have q3:=h2.cell 3
 have q4:=h2.cell 4
 clear hz HF hk qk lk
 go_wp2_with fail
 refine HG.out.mono ?_
 rintro e w1 ⟨rfl,hb1⟩
 cases b <;> (go_wp2_with fail;go_ret;exact ⟨rfl,hb.trans (hb1.mono hb.size)⟩)
theorem not_k3 (cp:Value) (b:Bool) (k:Nat) (w:World) (hk:Blk w k 192 #[.func (.func 167) #[] #[cp]])
  (hf:∀ W,Below w.heap.size w W→Calls Tryz.prog 167 #[cuV,cp] W fun e w'=>e=.returned (.bool b)∧Below W.heap.size W w') :
  Calls Tryz.prog 200 #[cuV,.pointer (some ⟨k,0,none⟩)] w fun e w'=>e=.returned (.bool !b)∧Below w.heap.size w w':=by
 have HF:=Lib.hid hf
 clear hf
 unfold cuV at HF ⊢
 have qk:=hk.cell 0
 have lk:=hk.lt
 go_enter Tryz.func200,Tryz.ntmps200
 go_wp2_with fail
 refine absC1 fun W h2 hb hz=>?_
 have HG:=hideC (HF.out W hb)
 have kk:=hk.below hb hk.lt
 have q:=kk.cell 0
 have q0:=h2.cell 0
 have q1:=h2.cell 1
 clear hz HF hk qk lk
 go_wp2_with fail
 refine HG.out.mono ?_
 rintro e w1 ⟨rfl,hb1⟩
 cases b <;> (go_wp2_with fail;go_ret;exact ⟨rfl,hb.trans (hb1.mono hb.size)⟩)
theorem all_k2 (cp:Value) (b:Bool) (g c:Nat) (w:World) (h:IsR1 w g)
  (hf:∀ W,Below w.heap.size w W→Calls Tryz.prog 165 #[ruV,cp] W fun e w'=>e=.returned (.bool b)∧Below W.heap.size W w') :
  Calls Tryz.prog 120 #[.slice (some ⟨g,0,none⟩) 1 c,.func (.func 165) #[] #[cp]] w fun e w'=>e=.returned (.bool b)∧Below w.heap.size w w':=by
 have HF:=Lib.hid hf
 clear hf
 go_enter Tryz.func120,Tryz.ntmps120
 go_wp2_with fail
 refine absC1 fun W h2 hb hz=>?_
 have HG:=hideC (contains_rall (.pointer (some ⟨w.heap.size,0,none⟩)) (!b) g c W (h.below hb) (not_k2 cp b w.heap.size W h2 fun V hV=>HF.out V (hb.trans (hV.mono hb.size))))
 clear hz HF
 refine HG.out.mono ?_
 rintro e w1 ⟨rfl,hb1⟩
 cases b <;> (go_wp2_with fail;go_ret;exact ⟨rfl,hb.trans (hb1.mono hb.size)⟩)
theorem all_rv (b:Bool) (g c:Nat) (w:World) (h:IsR1 w g)
  (hf:∀ W,Below w.heap.size w W→Calls Tryz.prog 115 #[ruV] W fun e w'=>e=.returned (.bool b)∧Below W.heap.size W w') :
  Calls Tryz.prog 120 #[.slice (some ⟨g,0,none⟩) 1 c,.func (.func 115) #[] #[]] w fun e w'=>e=.returned (.bool b)∧Below w.heap.size w w':=by
 have HF:=Lib.hid hf
 clear hf
 go_enter Tryz.func120,Tryz.ntmps120
 go_wp2_with fail
 refine absC1 fun W h2 hb hz=>?_
 have HG:=hideC (contains_rall (.pointer (some ⟨w.heap.size,0,none⟩)) (!b) g c W (h.below hb) (not_rv  b w.heap.size W h2 fun V hV=>HF.out V (hb.trans (hV.mono hb.size))))
 clear hz HF
 refine HG.out.mono ?_
 rintro e w1 ⟨rfl,hb1⟩
 cases b <;> (go_wp2_with fail;go_ret;exact ⟨rfl,hb.trans (hb1.mono hb.size)⟩)
theorem all_k3 (cp:Value) (b:Bool) (g c:Nat) (w:World) (h:IsQ1 w g)
  (hf:∀ W,Below w.heap.size w W→Calls Tryz.prog 167 #[cuV,cp] W fun e w'=>e=.returned (.bool b)∧Below W.heap.size W w') :
  Calls Tryz.prog 166 #[.slice (some ⟨g,0,none⟩) 1 c,.func (.func 167) #[] #[cp]] w fun e w'=>e=.returned (.bool b)∧Below w.heap.size w w':=by
 have HF:=Lib.hid hf
 clear hf
 go_enter Tryz.func166,Tryz.ntmps166
 go_wp2_with fail
 refine absC1 fun W h2 hb hz=>?_
 have HG:=hideC (contains_qall (.pointer (some ⟨w.heap.size,0,none⟩)) (!b) g c W (h.below hb) (not_k3 cp b w.heap.size W h2 fun V hV=>HF.out V (hb.trans (hV.mono hb.size))))
 clear hz HF
 refine HG.out.mono ?_
 rintro e w1 ⟨rfl,hb1⟩
 cases b <;> (go_wp2_with fail;go_ret;exact ⟨rfl,hb.trans (hb1.mono hb.size)⟩)
theorem all_p0 (F:Fn) (x y:Array Value) (a:Option Addr) (c:Nat) (w:World) :
  Calls Tryz.prog 162 #[.slice a 0 c,.func F x y] w fun e w'=>e=.returned (.bool true)∧Below w.heap.size w w':=by
 go_enter Tryz.func162,Tryz.ntmps162
 go_wp2_with fail
 refine absC1 fun W h2 hb hz=>?_
 clear hz
 refine (contains_p0 _ a c W).mono ?_
 rintro e w1 ⟨rfl,rfl⟩
 go_wp2_with fail
 go_ret
 exact ⟨rfl,hb⟩
theorem known2_any (k:Nat) (v:Value) (w:World) (hk:Blk w k 58 #[v]) (hv:IsSet w v 2) :
  Calls Tryz.prog 165 #[ruV,ptr k] w fun e w'=>e=.returned (.bool true)∧Below w.heap.size w w':=by
 have qk:=hk.cell 0
 have lk:=hk.lt
 obtain ⟨A,c,rfl,_⟩:=id hv
 unfold ruV
 go_enter Tryz.func165,Tryz.ntmps165
 go_wp2_with fail
 refine absC1 fun W h2 hb hz=>?_
 have HH:=hideC (has_any _ 2 1 W (hv.below hb))
 clear hz
 go_wp2_with fail
 refine HH.out.mono ?_
 rintro e w1 ⟨rfl,hb1⟩
 rw [show hasB 2 1=true by decide]
 go_wp2_with fail
 go_ret
 exact ⟨rfl,hb.trans (hb1.mono hb.size)⟩
theorem revokes_any (w:World) :
  Calls Tryz.prog 115 #[ruV] w fun e w'=>e=.returned (.bool true)∧Below w.heap.size w w':=by
 unfold ruV
 go_enter Tryz.func115,Tryz.ntmps115
 go_wp2_with fail
 go_ret
 exact ⟨rfl,(Below.refl _ _).alloc (Nat.le_refl _) _⟩
theorem known3_any (k:Nat) (v:Value) (w:World) (hk:Blk w k 58 #[v]) (hv:IsSet w v 2) :
  Calls Tryz.prog 167 #[cuV,ptr k] w fun e w'=>e=.returned (.bool true)∧Below w.heap.size w w':=by
 have qk:=hk.cell 0
 have lk:=hk.lt
 obtain ⟨A,c,rfl,_⟩:=id hv
 unfold cuV
 go_enter Tryz.func167,Tryz.ntmps167
 go_wp2_with fail
 refine abs1 fun V0 h2 hb hz=>?_
 have q0:V0.cell? ⟨w.heap.size,0,none⟩=some (.slice none 0 0):=h2.cell 0
 have q1:V0.cell? ⟨w.heap.size,1,none⟩=some (.slice none 0 0):=h2.cell 1
 clear hz
 have qk':V0.cell? ⟨k,0,none⟩=some (.slice A (nw 2) c):=(hk.below hb lk).cell 0
 go_wp2_with fail
 refine wp_spine (fun W=>Below V0.heap.size V0 W) [0,1,2,3,5] [4,6,7] (by kernel_rfl) (by kernel_rfl) ?_
 iterate 5 (refine wpE_op (v:=?_) rfl rfl (fun W hW=>?_) ?_;rotate_left;(have z0:=onB hW q0;have z1:=onB hW q1;have zk:=onB hW qk';go_simp;first | done | with_reducible rfl);simp only [pt1,pt3,pt4,pt5])
 have hd:Below V0.heap.size V0 V0.drew:=(Below.refl _ _).drew
 refine wpE_nil ⟨fun h=>(by cases h),wpSp_op rfl hd ?_⟩
 have HO:=hideC (or_any (.slice none 0 0) (.slice none 0 0) 0 0 V0.drew (IsSet.empty _) (IsSet.empty _))
 go_wp2_with fail
 refine HO.out.mono ?_
 rintro e w1 ⟨r,rfl,hr,hb1⟩
 obtain ⟨A1,c1,rfl,_⟩:=id hr
 have b1:=hd.trans hb1
 have HW:=hideC (within_any _ _ _ _ w1 hr (hv.below (hb.trans (b1.mono hb.size))))
 go_wp2_with fail
 refine nxt_op rfl b1 ?_
 go_wp2_with fail
 refine HW.out.mono ?_
 rintro e w2 ⟨rfl,hb2⟩
 have b2:=b1.trans (hb2.mono b1.size)
 go_wp2_with fail
 refine nxt_op rfl b2 ?_
 go_wp2_with fail
 refine nxt_nil ?_
 go_wp2_with fail
 go_ret
 exact ⟨ret_bool (by decide),hb.trans (b2.mono hb.size)⟩
theorem meets_nil (A:Option Addr) (n c:Nat) (w:World) (hn:n≤64) :
  Calls Tryz.prog 169 #[.agg #[.slice none 0 0],.agg #[.slice A n c]] w fun e w'=>e=.returned (.bool false)∧Below w.heap.size w w':=by
 have hm:min (0:Int) (n:Int)=0:=by omega
 go_enter Tryz.func169,Tryz.ntmps169
 go_wp2_with fail
 refine wp_loop_rounds 1 ?_
 rw [rounds_succ]
 go_wp2_with fail
 go_ret
 exact ⟨rfl,((Below.refl _ _).alloc (Nat.le_refl _) _).alloc (by simp) _⟩
theorem emptyq_any (w:World) :
  Calls Tryz.prog 119 #[cuV] w fun e w'=>e=.returned (.bool false)∧Below w.heap.size w w':=by
 unfold cuV
 go_enter Tryz.func119,Tryz.ntmps119
 go_wp2_with fail
 refine absC1 fun W h2 hb hz=>?_
 refine (meets_nil none 0 0 W (by decide)).mono ?_
 rintro e w1 ⟨rfl,hb1⟩
 go_wp2_with fail
 go_ret
 exact ⟨rfl,hb.trans (hb1.mono hb.size)⟩
theorem holdsq_any (v:Value) (N:Nat) (w:World) (hv:IsSet w v N) :
  Calls Tryz.prog 194 #[cuV,.agg #[v]] w fun e w'=>e=.returned (.bool true)∧Below w.heap.size w w':=by
 unfold cuV
 obtain ⟨A,c,rfl,hN,_⟩:=id hv
 go_enter Tryz.func194,Tryz.ntmps194
 go_wp2_with fail
 refine absC2 fun W h2 h3 hb hz=>?_
 have HW:=hideC (within_any (.slice none 0 0) _ 0 N W (IsSet.empty _) (hv.below hb))
 rw [show decide (0&&&N=0)=true by simp] at HW
 clear hz
 refine HW.out.mono ?_
 rintro e w1 ⟨rfl,hb1⟩
 have h21:=h2.below hb1 h2.lt
 have h31:=h3.below hb1 h3.lt
 have q1:=h21.cell 1
 have q0:=h31.cell 0
 go_wp2_with fail
 refine (meets_nil A (nw N) c w1 hN).mono ?_
 rintro e w2 ⟨rfl,hb2⟩
 go_wp2_with fail
 go_ret
 exact ⟨rfl,hb.trans ((hb1.trans (hb2.mono hb1.size)).mono hb.size)⟩
def pV (lk g:Nat):Value:=.agg #[.int .i64 1,ptr lk,.slice none 0 0,.slice (some ⟨g,0,none⟩) 1 1,.slice none 0 0,.slice none 0 0]
theorem pV_eq (lk g:Nat):pV lk g=.agg #[.int .i64 1,ptr lk,.slice none 0 0,.slice (some ⟨g,0,none⟩) 1 1,.slice none 0 0,.slice none 0 0]:=rfl
theorem absD4 {P:Program} {c:Code} {Q:Exit→Act→World→Prop} {a:Act} {w:World} {c1 c2 c3 c4:Array Value} {t1 t2 t3 t4:TypeId}
  (h:∀ W,Blk W w.heap.size t1 c1→Blk W (w.heap.size+1) t2 c2→Blk W (w.heap.size+2) t3 c3→Blk W (w.heap.size+3) t4 c4→Below w.heap.size w W→W.heap.size=w.heap.size+4→c.wp P Q a W) :
  c.wp P Q a ((((w.alloc (.cells c1 t1)).alloc (.cells c2 t2)).alloc (.cells c3 t3)).alloc (.cells c4 t4)).drew :=
 h _ ((((Blk.new _ _ _).alloc _).alloc _).alloc _) (((Blk.new_ (by simp) _ _).alloc _).alloc _) ((Blk.new_ (by simp) _ _).alloc _) (Blk.new_ (by simp) _ _) (((((Below.refl _ _).alloc (Nat.le_refl _) _).alloc (by simp) _).alloc (by simp;omega) _).alloc (by simp;omega) _).drew (by simp)
theorem cubes_any (lk g:Nat) (w:World) (hr:IsR1 w g) :
  Calls Tryz.prog 118 #[pV lk g] w fun e w'=>∃ g' c,e=.returned (.slice (some ⟨g',0,none⟩) 1 c)∧IsQ1 w' g'∧Below w.heap.size w w':=by
 unfold pV
 have q0:=Blk.cell hr 0
 have q1:=Blk.cell hr 1
 have q2:=Blk.cell hr 2
 have q3:=Blk.cell hr 3
 have q4:=Blk.cell hr 4
 have lr:=Blk.lt hr
 go_enter Tryz.func118,Tryz.ntmps118
 go_wp2_with fail
 refine wp_loop_rounds 2 ?_
 rw [rounds_succ]
 go_wp2_with fail
 rw [rounds_succ]
 go_wp2_with fail
 refine absD4 fun V0 h1 h5 h6 h7 hb hz=>?_
 clear hz
 have hcp:1≤(Question.appendCap 1 0 60).cut (w.tape w.drawn (Question.appendCap 1 0 60)):=by simp only [Question.cut];omega
 generalize (Question.appendCap 1 0 60).cut (w.tape w.drawn (Question.appendCap 1 0 60))=cp at h7 hcp ⊢
 have x4:V0.cell? ⟨w.heap.size,4,none⟩=some (.slice none 0 0):=h1.cell 4
 have x5:V0.cell? ⟨w.heap.size,5,none⟩=some (.slice none 0 0):=h1.cell 5
 have k0:V0.cell? ⟨w.heap.size+3,0,none⟩=some (.slice none 0 0):=by rw [h7.cell 0,Array.getElem?_append_left (by decide)];rfl
 have k1:V0.cell? ⟨w.heap.size+3,1,none⟩=some (.slice none 0 0):=by rw [h7.cell 1,Array.getElem?_append_left (by decide)];rfl
 refine wp_spine (fun W=>Below V0.heap.size V0 W) [0,1,2,4,5] [3,6,7] (by kernel_rfl) (by kernel_rfl) ?_
 iterate 5 (refine wpE_op (v:=?_) rfl rfl (fun W hW=>?_) ?_;rotate_left;(have z4:=onB hW x4;have z5:=onB hW x5;go_simp;first | done | with_reducible rfl);simp only [pt1,pt3,pt4,pt5])
 have hd:Below V0.heap.size V0 V0.drew:=(Below.refl _ _).drew
 refine wpE_nil ⟨fun h=>(by cases h),wpSp_op rfl hd ?_⟩
 go_wp2_with fail
 refine nxt_op rfl hd ?_
 go_wp2_with fail
 refine nxt_op rfl hd ?_
 go_wp2_with fail
 refine nxt_nil ?_
 go_wp2_with fail
 go_ret
 exact ⟨_,_,rfl,⟨onB hd k0,onB hd k1⟩,hb.trans (hd.mono hb.size)⟩
theorem clone_p0 (pb:Nat) (w:World) :
  Calls Tryz.prog 52 #[.slice (some ⟨pb,0,none⟩) 0 0] w fun e w'=>(∃ a c,e=.returned (.slice a 0 c))∧Below w.heap.size w w':=by
 refine (cloneP_any (some ⟨pb,0,none⟩) 0 0 [] w ⟨Row.empty _ _,Nat.le_refl _,by simp⟩ rfl (by simp) (by decide)).mono ?_
 rintro e w1 ⟨v,rfl,ho,hb⟩
 obtain ⟨A,c,rfl,-⟩:=RowN.of_own ho
 exact ⟨⟨_,_,rfl⟩,hb⟩
theorem pairs_p0 (o pb:Nat) (b c d f:Value) (w:World) (h:Blk w o 183 #[b,.slice (some ⟨pb,0,none⟩) 0 0,c,d,f]) :
  Calls Tryz.prog 199 #[ptr o] w fun e w'=>(∃ a c,e=.returned (.slice a 0 c))∧Below w.heap.size w w':=by
 have q1:=h.cell 1
 go_enter Tryz.func199,Tryz.ntmps199
 go_wp2_with fail
 refine (clone_p0 pb w).mono ?_
 rintro e w1 ⟨⟨a,c,rfl⟩,hb⟩
 go_wp2_with fail
 go_ret
 exact ⟨⟨_,_,rfl⟩,hb⟩
theorem links_h (lk:Nat) (w:World) (h:IsH w lk) :
  Calls Tryz.prog 163 #[ptr lk] w fun e w'=>(∃ a c,e=.returned (.slice a 0 c))∧Below w.heap.size w w':=by
 obtain ⟨o,pb,gb,ab,sr,a1,a2,a3⟩:=h
 have q0:=a1.cell 0
 go_enter Tryz.func163,Tryz.ntmps163
 go_wp2_with fail
 refine (pairs_p0 o pb _ _ _ _ w a2).mono ?_
 rintro e w1 ⟨⟨a,c,rfl⟩,hb⟩
 go_wp2_with fail
 go_ret
 exact ⟨⟨_,_,rfl⟩,hb⟩
theorem some_q0 (v:Value) (a:Option Addr) (c:Nat) (w:World) :
  Calls Tryz.prog 172 #[.slice a 0 c,.agg #[v]] w fun e w'=>e=.returned (.bool false)∧Below w.heap.size w w':=by
 go_enter Tryz.func172,Tryz.ntmps172
 go_wp2_with fail
 refine absC1 fun W h2 hb hz=>?_
 clear hz
 refine (contains_q0 _ a c W).mono ?_
 rintro e w1 ⟨rfl,rfl⟩
 go_wp2_with fail
 go_ret
 exact ⟨rfl,hb⟩
theorem known_any (lk g:Nat) (w:World) (hH:IsH w lk) (hr:IsR1 w g) :
  Calls Tryz.prog 116 #[pV lk g] w fun e w'=>e=.returned (.bool true)∧Below w.heap.size w w':=by
 unfold pV
 go_enter Tryz.func116,Tryz.ntmps116
 go_wp2_with fail
 refine absC1 fun W h1 hb hz=>?_
 refine (below_any 2 W).mono ?_
 rintro e w2 ⟨r2,rfl,s2,hb2⟩
 rw [show lowN (clamp 2)=3 by decide] at s2
 have b2:=hb.trans (hb2.mono hb.size)
 have h12:=h1.below hb2 h1.lt
 have HW:=hideC (without_any r2 3 0 w2 s2)
 clear h1 hb hb2 hz
 go_wp2_with fail
 refine HW.out.mono ?_
 rintro e w3 ⟨r3,rfl,s3,hb3⟩
 have b3:=b2.trans (hb3.mono b2.size)
 have h13:=h12.below hb3 h12.lt
 rw [show withoutB 3 0=2 by decide] at s3
 obtain ⟨A3,c3,rfl,_⟩:=id s3
 clear s2 HW h12 hb3 b2
 have q2:w3.cell? ⟨w.heap.size,2,none⟩=some (.slice none 0 0):=h13.cell 2
 have l2:=h13.lt
 go_wp2_with fail
 refine absC1 fun W4 h34 hb hz=>?_
 have b4:=b3.trans (hb.mono b3.size)
 have h14:=h13.below hb h13.lt
 have s4:=s3.below hb
 have HI:=hideC (within_any (.slice none 0 0) _ 0 2 W4 (IsSet.empty _) s4)
 rw [show decide (0&&&2=0)=true by decide] at HI
 obtain ⟨g3,hg3⟩:∃ x,x=w3.heap.size:=⟨_,rfl⟩
 rw [← hg3] at h34 ⊢
 clear hg3 hz hb b3 h13 s3
 refine HI.out.mono ?_
 rintro e w5 ⟨rfl,hb⟩
 have b5:=b4.trans (hb.mono b4.size)
 have h15:=h14.below hb h14.lt
 have h35:=h34.below hb h34.lt
 have s5:=s4.below hb
 have q1:=h15.cell 1
 have HL:=hideC (links_h lk w5 (hH.below b5))
 clear HI hb b4 h14 h34 s4
 go_wp2_with fail
 refine HL.out.mono ?_
 rintro e w6 ⟨⟨a6,c6,rfl⟩,hb⟩
 have b6:=b5.trans (hb.mono b5.size)
 have h16:=h15.below hb h15.lt
 have h36:=h35.below hb h35.lt
 have s6:=s5.below hb
 clear HL hb b5 h15 h35 s5 q1
 go_wp2_with fail
 refine (all_p0 _ _ _ a6 c6 w6).mono ?_
 rintro e w7 ⟨rfl,hb⟩
 have b7:=b6.trans (hb.mono b6.size)
 have h17:=h16.below hb h16.lt
 have h37:=h36.below hb h36.lt
 have s7:=s6.below hb
 have q3:=h17.cell 3
 clear hb b6 h16 h36 s6
 have HA:=hideC (all_k2 (ptr g3) true g 1 w7 (hr.below b7) fun V hV=>known2_any g3 _ V (h37.below hV h37.lt) (s7.below hV))
 go_wp2_with fail
 refine HA.out.mono ?_
 rintro e w8 ⟨rfl,hb⟩
 have b8:=b7.trans (hb.mono b7.size)
 have h18:=h17.below hb h17.lt
 have h38:=h37.below hb h37.lt
 have s8:=s7.below hb
 have p0:=h18.cell 0
 have p1:=h18.cell 1
 have p2:=h18.cell 2
 have p3:=h18.cell 3
 have p4:=h18.cell 4
 have p5:=h18.cell 5
 have HC:=hideC (cubes_any lk g w8 (hr.below b8))
 rw [pV_eq] at HC
 clear hb b7 h17 h37 s7 q3 HA
 go_wp2_with fail
 refine HC.out.mono ?_
 rintro e w9 ⟨g9,c9,rfl,hq9,hb⟩
 have b9:=b8.trans (hb.mono b8.size)
 have h39:=h38.below hb h38.lt
 have s9:=s8.below hb
 have HA:=hideC (all_k3 (ptr g3) true g9 c9 w9 hq9 fun V hV=>known3_any g3 _ V (h39.below hV h39.lt) (s9.below hV))
 clear hb b8 h18 h38 s8 p0 p1 p2 p3 p4 p5 HC
 go_wp2_with fail
 refine HA.out.mono ?_
 rintro e w10 ⟨rfl,hb⟩
 go_wp2_with fail
 go_ret
 exact ⟨rfl,b9.trans (hb.mono b9.size)⟩
theorem good_h (lk g:Nat) (v:Value) (S:Nat) (w:World) (hT:Tab w) (hH:IsH w lk) (hs:IsSet w v S) (hS:∀ x,S.testBit x=true→1≤x∧x≤63) :
  Calls Tryz.prog 121 #[pV lk g,.agg #[v]] w fun e w'=>e=.returned (.bool true)∧Below w.heap.size w w':=by
 unfold pV
 go_enter Tryz.func121,Tryz.ntmps121
 go_wp2_with fail
 refine abs2 fun V0 h2 h3 hb hz=>?_
 have x1:V0.cell? ⟨w.heap.size,1,none⟩=some (ptr lk):=h2.cell 1
 have x4:V0.cell? ⟨w.heap.size,4,none⟩=some (.slice none 0 0):=h2.cell 4
 have x0:V0.cell? ⟨w.heap.size+1,0,none⟩=some v:=h3.cell 0
 obtain ⟨A,c,rfl,_⟩:=id hs
 clear hz
 have hd:Below V0.heap.size V0 V0.drew:=(Below.refl _ _).drew
 have HC:=hideC (closure_h lk _ S V0.drew ((hT.below hb).below hd) ((hH.below hb).below hd) ((hs.below hb).below hd) hS)
 refine wp_spine (fun W=>Below V0.heap.size V0 W) [0,1,2,3,4,5,6,7,8] [9,10,11,12,13] (by kernel_rfl) (by kernel_rfl) ?_
 iterate 4 (refine wpE_op (v:=?_) rfl rfl (fun W hW=>?_) ?_;rotate_left;(have z1:=onB hW x1;go_simp;first | done | with_reducible rfl);simp only [pt1,pt3,pt4,pt5])
 iterate 5 (refine wpE_yes (v:=?_) rfl (by rfl) (fun W hW=>?_) ?_;rotate_left;(have z1:=onB hW x1;have z4:=onB hW x4;have z0:=onB hW x0;go_simp;first | done | with_reducible rfl);simp only [pt1,pt3,pt4,pt5])
 refine wpE_nil ⟨fun h=>(by cases h),wpSp_op rfl hd ?_⟩
 go_wp2_with fail
 refine HC.out.mono ?_
 rintro e w1 ⟨r,rfl,hr,hb1⟩
 obtain ⟨A1,c1,rfl,_⟩:=id hr
 have b1:=hd.trans hb1
 go_wp2_with fail
 refine nxt_op rfl b1 ?_
 go_wp2_with fail
 refine (some_q0 _ none 0 w1).mono ?_
 rintro e w2 ⟨rfl,hb2⟩
 have b2:=b1.trans (hb2.mono b1.size)
 go_wp2_with fail
 refine nxt_op rfl b2 ?_
 go_wp2_with fail
 refine nxt_op rfl b2 ?_
 go_wp2_with fail
 refine nxt_op rfl b2 ?_
 go_wp2_with fail
 refine nxt_nil ?_
 go_wp2_with fail
 go_ret
 exact ⟨rfl,hb.trans (b2.mono hb.size)⟩
theorem no_bits (x:Nat) (h:(0:Nat).testBit x=true):1≤x∧x≤63:=by simp at h
theorem one_bit (x:Nat) (h:(2:Nat).testBit x=true):1≤x∧x≤63:=by
 rw [show (2:Nat)=2 ^ 1 from rfl,Nat.testBit_two_pow] at h
 simp at h;omega
theorem check_h (lk g:Nat) (w:World) (hT:Tab w) (hH:IsH w lk) (hr:IsR1 w g) :
  Calls Tryz.prog 71 #[pV lk g] w fun e w'=>e=.returned (.int .i64 0)∧Below w.heap.size w w':=by
 unfold pV
 go_enter Tryz.func71,Tryz.ntmps71
 go_wp2_with fail
 refine absC1 fun W h1 hb hz=>?_
 have HK:=hideC (known_any lk g W (hH.below hb) (hr.below hb))
 rw [pV_eq] at HK
 clear hz
 refine HK.out.mono ?_
 rintro e w2 ⟨rfl,hb2⟩
 have b2:=hb.trans (hb2.mono hb.size)
 have h12:=h1.below hb2 h1.lt
 have p0:=h12.cell 0
 have p1:=h12.cell 1
 have p2:=h12.cell 2
 have p3:=h12.cell 3
 have p4:=h12.cell 4
 have p5:=h12.cell 5
 have HC:=hideC (cubes_any lk g w2 (hr.below b2))
 rw [pV_eq] at HC
 clear h1 hb hb2 HK
 go_wp2_with fail
 refine HC.out.mono ?_
 rintro e w3 ⟨g3,c3,rfl,hq3,hb⟩
 have b3:=b2.trans (hb.mono b2.size)
 have h13:=h12.below hb h12.lt
 have HE:=hideC (contains_qemp false g3 c3 w3 hq3 (emptyq_any w3))
 clear p0 p1 p2 p3 p4 p5 b2 h12 hb HC
 go_wp2_with fail
 refine HE.out.mono ?_
 rintro e w4 ⟨rfl,hb⟩
 have b4:=b3.trans (hb.mono b3.size)
 have h14:=h13.below hb h13.lt
 have q3:=h14.cell 3
 have HA:=hideC (all_rv true g 1 w4 (hr.below b4) fun V _=>revokes_any V)
 clear b3 h13 hb HE
 go_wp2_with fail
 refine HA.out.mono ?_
 rintro e w5 ⟨rfl,hb⟩
 have b5:=b4.trans (hb.mono b4.size)
 have h15:=h14.below hb h14.lt
 have p0:=h15.cell 0
 have p1:=h15.cell 1
 have p2:=h15.cell 2
 have p3:=h15.cell 3
 have p4:=h15.cell 4
 have p5:=h15.cell 5
 have HG:=hideC (good_h lk g (.slice none 0 0) 0 w5 (hT.below b5) (hH.below b5) (IsSet.empty _) no_bits)
 rw [pV_eq] at HG
 clear b4 h14 hb HA q3
 go_wp2_with fail
 refine HG.out.mono ?_
 rintro e w6 ⟨rfl,hb⟩
 go_wp2_with fail
 go_ret
 exact ⟨rfl,b5.trans (hb.mono b5.size)⟩
theorem ans1 {P:Program} {f:FuncId} {args:Array Value} {w:World} {a b:Bool} (h:a=b) (hc:Calls P f args w fun e w'=>e=.returned (.bool a)∧Below w.heap.size w w') :
  Calls P f args w fun e w'=>e=.returned (.bool b)∧Below w.heap.size w w':=h▸hc
namespace Mix2
theorem step_yes (lk g:Nat) (v:Value) (w:World) (hT:Tab w) (hH:IsH w lk) (hR1:IsR1 w g) (hs:IsSet w v 0) :
  Calls Tryz.prog 153 #[pV lk g,.agg #[v],.int .i64 0] w fun e w'=>∃ A n c,e=.returned (.tuple #[.agg #[.slice A n c],.bool true])∧IsSet w' (.slice A n c) 2∧Below w.heap.size w w':=by
 have b:=Below.refl w.heap.size w
 obtain ⟨A,c,rfl,_⟩:=id hs
 unfold pV
 go_enter Tryz.func153,Tryz.ntmps153
 go_upto_region 1 with fail
 refine abs3 fun u1 B3 B4 B6 hb hz=>?_
 clear hz
 replace hT:=hT.below hb;replace hH:=hH.below hb;replace hR1:=hR1.below hb;replace b:=b.trans (hb.mono b.size);replace hs:=hs.below hb
 clear hb
 have x1:=B3.cell 1
 have x3:=B3.cell 3
 have y0:=B4.cell 0
 have l3:=B3.lt;have l4:=B4.lt
 have q0:=Blk.cell hR1 0
 have q1:=Blk.cell hR1 1
 have q2:=Blk.cell hR1 2
 have q3:=Blk.cell hR1 3
 have q4:=Blk.cell hR1 4
 have lr:=Blk.lt hR1
 go_wp2_with fail
 refine absC1 fun u2 B8 hb hz=>?_
 clear hz
 replace hT:=hT.below hb;replace hH:=hH.below hb;replace hR1:=hR1.below hb;replace b:=b.trans (hb.mono b.size);replace hs:=hs.below hb;replace B3:=B3.below hb B3.lt;replace B4:=B4.below hb B4.lt;replace B6:=B6.below hb B6.lt
 clear hb
 clear q0 q1 q2 q3 q4 lr x1 x3 y0 l3 l4
 refine (res3 ((show withB 0 1=2 by decide)) (with_any _ 0 1 u2 hs)).mono ?_
 rintro e u3 ⟨As9,ns9,cs9,rfl,s9,hb⟩
 replace hT:=hT.below hb;replace hH:=hH.below hb;replace hR1:=hR1.below hb;replace b:=b.trans (hb.mono b.size);replace hs:=hs.below hb;replace B3:=B3.below hb B3.lt;replace B4:=B4.below hb B4.lt;replace B6:=B6.below hb B6.lt;replace B8:=B8.below hb B8.lt
 clear hb
 have r0:=B8.cell 0
 have lr:=B8.lt
 go_wp2_with fail
 refine abs1 fun u4 B9 hb hz=>?_
 clear hz r0 lr
 replace hT:=hT.below hb;replace hH:=hH.below hb;replace hR1:=hR1.below hb;replace b:=b.trans (hb.mono b.size);replace hs:=hs.below hb;replace B3:=B3.below hb B3.lt;replace B4:=B4.below hb B4.lt;replace B6:=B6.below hb B6.lt;replace B8:=B8.below hb B8.lt;replace s9:=s9.below hb
 clear hb
 refine wp_mix (fun V=>Below u4.heap.size u4 V) 28 (by kernel_rfl) (by kernel_rfl) (Below.refl _ _).drew ?_
 have hr:Below u4.heap.size u4 u4.drew:=(Below.refl _ _).drew
 obtain ⟨u5,hw⟩:∃ V,V=u4.drew:=⟨_,rfl⟩
 rw [← hw] at hr ⊢;clear hw
 have hb:=hr
 have k4:=B4.cell 0
 have k9:=B9.cell 0
 have r0:=B8.cell 0
 have r1:=B8.cell 1
 have r2:=B8.cell 2
 have r3:=B8.cell 3
 have p0:=B3.cell 0
 have p1:=B3.cell 1
 have p2:=B3.cell 2
 have p3:=B3.cell 3
 have p4:=B3.cell 4
 have p5:=B3.cell 5
 replace hT:=hT.below hb;replace hH:=hH.below hb;replace hR1:=hR1.below hb;replace b:=b.trans (hb.mono b.size);replace hs:=hs.below hb;replace B3:=B3.below hb B3.lt;replace B4:=B4.below hb B4.lt;replace B6:=B6.below hb B6.lt;replace B8:=B8.below hb B8.lt;replace s9:=s9.below hb;replace B9:=B9.below hb B9.lt
 clear hb
 (refine m_q 0 (v:=?_) (by kernel_rfl) rfl rfl (fun W hW=>?_) ?_;rotate_left;(have zk4:=onB hW k4;go_simp;first | done | with_reducible rfl);simp only [pt1,pt3,pt4,pt5])
 (refine m_q 1 (v:=?_) (by kernel_rfl) rfl rfl (fun W hW=>?_) ?_;rotate_left;(go_simp;first | done | with_reducible rfl);simp only [pt1,pt3,pt4,pt5])
 (refine m_q 2 (v:=?_) (by kernel_rfl) rfl rfl (fun W hW=>?_) ?_;rotate_left;(have zr3:=onB hW r3;go_simp;first | done | with_reducible rfl);simp only [pt1,pt3,pt4,pt5])
 (refine m_q 4 (v:=?_) (by kernel_rfl) rfl rfl (fun W hW=>?_) ?_;rotate_left;(go_simp;first | done | with_reducible rfl);simp only [pt1,pt3,pt4,pt5])
 (refine m_q 5 (v:=?_) (by kernel_rfl) rfl rfl (fun W hW=>?_) ?_;rotate_left;(have zr0:=onB hW r0;go_simp;first | done | with_reducible rfl);simp only [pt1,pt3,pt4,pt5])
 refine m_s1 3 (by kernel_rfl) rfl ?_
 go_wp2_with fail
 refine (ans1 (show hasB 0 1=false by decide) (has_any _ 0 1 u5 hs)).mono ?_
 rintro e u6 ⟨rfl,hb⟩
 replace hT:=hT.below hb;replace hH:=hH.below hb;replace hR1:=hR1.below hb;replace b:=b.trans (hb.mono b.size);replace hs:=hs.below hb;replace B3:=B3.below hb B3.lt;replace B4:=B4.below hb B4.lt;replace B6:=B6.below hb B6.lt;replace B8:=B8.below hb B8.lt;replace s9:=s9.below hb;replace B9:=B9.below hb B9.lt;replace hr:=hr.trans (hb.mono hr.size)
 clear hb
 go_wp2_with fail
 refine m_keep hr ?_
 (refine m_q 6 (v:=?_) (by kernel_rfl) rfl rfl (fun W hW=>?_) ?_;rotate_left;(go_simp;first | done | with_reducible rfl);simp only [pt1,pt3,pt4,pt5]);(refine m_q 7 (v:=?_) (by kernel_rfl) rfl rfl (fun W hW=>?_) ?_;rotate_left;(go_simp;first | done | with_reducible rfl);simp only [pt1,pt3,pt4,pt5])
 (refine m_yes 8 (v:=?_) (by kernel_rfl) rfl (by rfl) (fun W hW=>?_) ?_;rotate_left;(go_simp;first | done | with_reducible rfl);simp only [pt1,pt3,pt4,pt5])
 (refine m_yes 9 (v:=?_) (by kernel_rfl) rfl (by rfl) (fun W hW=>?_) ?_;rotate_left;(have zr0:=onB hW r0;go_simp;first | done | with_reducible rfl);simp only [pt1,pt3,pt4,pt5])
 (refine m_yes 10 (v:=?_) (by kernel_rfl) rfl (by rfl) (fun W hW=>?_) ?_;rotate_left;(go_simp;first | done | with_reducible rfl);simp only [pt1,pt3,pt4,pt5]);(refine m_yes 11 (v:=?_) (by kernel_rfl) rfl (by rfl) (fun W hW=>?_) ?_;rotate_left;(go_simp;first | done | with_reducible rfl);simp only [pt1,pt3,pt4,pt5]);(refine m_yes 12 (v:=?_) (by kernel_rfl) rfl (by rfl) (fun W hW=>?_) ?_;rotate_left;(go_simp;first | done | with_reducible rfl);simp only [pt1,pt3,pt4,pt5])
 (refine m_yes 13 (v:=?_) (by kernel_rfl) rfl (by rfl) (fun W hW=>?_) ?_;rotate_left;(have zr1:=onB hW r1;have zr2:=onB hW r2;go_simp;first | done | with_reducible rfl);simp only [pt1,pt3,pt4,pt5])
 (refine m_yes 14 (v:=?_) (by kernel_rfl) rfl (by rfl) (fun W hW=>?_) ?_;rotate_left;(go_simp;first | done | with_reducible rfl);simp only [pt1,pt3,pt4,pt5])
 (refine m_yes 15 (v:=?_) (by kernel_rfl) rfl (by rfl) (fun W hW=>?_) ?_;rotate_left;(have zp1:=onB hW p1;go_simp;first | done | with_reducible rfl);simp only [pt1,pt3,pt4,pt5])
 (refine m_yes 16 (v:=?_) (by kernel_rfl) rfl (by rfl) (fun W hW=>?_) ?_;rotate_left;(have zk4:=onB hW k4;go_simp;first | done | with_reducible rfl);simp only [pt1,pt3,pt4,pt5])
 refine m_s1 17 (by kernel_rfl) rfl ?_
 go_wp2_with fail
 refine (res3 rfl (closure_h lk _ 0 u6 hT hH hs no_bits)).mono ?_
 rintro e u7 ⟨A7,n7,c7,rfl,s7,hb⟩
 replace hT:=hT.below hb;replace hH:=hH.below hb;replace hR1:=hR1.below hb;replace b:=b.trans (hb.mono b.size);replace hs:=hs.below hb;replace B3:=B3.below hb B3.lt;replace B4:=B4.below hb B4.lt;replace B6:=B6.below hb B6.lt;replace B8:=B8.below hb B8.lt;replace s9:=s9.below hb;replace B9:=B9.below hb B9.lt;replace hr:=hr.trans (hb.mono hr.size)
 clear hb
 go_wp2_with fail
 refine m_keep hr ?_
 refine m_s1 18 (by kernel_rfl) rfl ?_
 go_wp2_with fail
 refine (holdsq_any _ _ u7 s7).mono ?_
 rintro e u8 ⟨rfl,hb⟩
 replace hT:=hT.below hb;replace hH:=hH.below hb;replace hR1:=hR1.below hb;replace b:=b.trans (hb.mono b.size);replace hs:=hs.below hb;replace B3:=B3.below hb B3.lt;replace B4:=B4.below hb B4.lt;replace B6:=B6.below hb B6.lt;replace B8:=B8.below hb B8.lt;replace s9:=s9.below hb;replace B9:=B9.below hb B9.lt;replace hr:=hr.trans (hb.mono hr.size);replace s7:=s7.below hb
 clear hb
 go_wp2_with fail
 refine m_keep hr ?_
 (refine m_yes 19 (v:=?_) (by kernel_rfl) rfl (by rfl) (fun W hW=>?_) ?_;rotate_left;(go_simp;first | done | with_reducible rfl);simp only [pt1,pt3,pt4,pt5]);(refine m_yes 20 (v:=?_) (by kernel_rfl) rfl (by rfl) (fun W hW=>?_) ?_;rotate_left;(go_simp;first | done | with_reducible rfl);simp only [pt1,pt3,pt4,pt5])
 (refine m_q 21 (v:=?_) (by kernel_rfl) rfl rfl (fun W hW=>?_) ?_;rotate_left;(go_simp;first | done | with_reducible rfl);simp only [pt1,pt3,pt4,pt5]);(refine m_q 22 (v:=?_) (by kernel_rfl) rfl rfl (fun W hW=>?_) ?_;rotate_left;(go_simp;first | done | with_reducible rfl);simp only [pt1,pt3,pt4,pt5])
 (refine m_yes 23 (v:=?_) (by kernel_rfl) rfl (by rfl) (fun W hW=>?_) ?_;rotate_left;(have zp0:=onB hW p0;have zp1:=onB hW p1;have zp2:=onB hW p2;have zp3:=onB hW p3;have zp4:=onB hW p4;have zp5:=onB hW p5;go_simp;first | done | with_reducible rfl);simp only [pt1,pt3,pt4,pt5])
 (refine m_yes 24 (v:=?_) (by kernel_rfl) rfl (by rfl) (fun W hW=>?_) ?_;rotate_left;(have zk9:=onB hW k9;go_simp;first | done | with_reducible rfl);simp only [pt1,pt3,pt4,pt5])
 refine m_s1 25 (by kernel_rfl) rfl ?_
 go_wp2_with fail
 refine (good_h lk g _ 2 u8 hT hH s9 one_bit).mono ?_
 rintro e u9 ⟨rfl,hb⟩
 replace hT:=hT.below hb;replace hH:=hH.below hb;replace hR1:=hR1.below hb;replace b:=b.trans (hb.mono b.size);replace hs:=hs.below hb;replace B3:=B3.below hb B3.lt;replace B4:=B4.below hb B4.lt;replace B6:=B6.below hb B6.lt;replace B8:=B8.below hb B8.lt;replace s9:=s9.below hb;replace B9:=B9.below hb B9.lt;replace hr:=hr.trans (hb.mono hr.size);replace s7:=s7.below hb
 clear hb
 go_wp2_with fail
 refine m_keep hr ?_
 (refine m_yes 26 (v:=?_) (by kernel_rfl) rfl (by rfl) (fun W hW=>?_) ?_;rotate_left;(go_simp;first | done | with_reducible rfl);simp only [pt1,pt3,pt4,pt5])
 (refine m_q 27 (v:=?_) (by kernel_rfl) rfl rfl (fun W hW=>?_) ?_;rotate_left;(go_simp;first | done | with_reducible rfl);simp only [pt1,pt3,pt4,pt5])
 refine m_end (by kernel_rfl) ?_
 clear k4 k9 r0 r1 r2 r3 p0 p1 p2 p3 p4 p5
 have k9:=B9.cell 0;have k6:=B6.cell 0;have f6:=B6.frozen 0;have l6:=B6.lt
 go_wp2_with fail
 have j6:=(B6.set_ 0 (.slice As9 ns9 cs9)).cell 0
 refine bodyPost_ret (v:=.tuple #[.agg #[.slice As9 ns9 cs9],.bool true]) (by simp [results,Tryz.results153,go_sem,j6]) rfl ⟨_,_,_,rfl,?_,?_⟩
 ·exact s9.keep (KeepW.setCell (p:=⟨w.heap.size+1+1,0,none⟩) B6 (by decide) _)
 ·exact b.setCell (by simp;omega) _
theorem step_no (lk g:Nat) (v:Value) (w:World) (hT:Tab w) (hH:IsH w lk) (hR1:IsR1 w g) (hs:IsSet w v 2) :
  Calls Tryz.prog 153 #[pV lk g,.agg #[v],.int .i64 0] w fun e w'=>∃ A n c,e=.returned (.tuple #[.agg #[.slice A n c],.bool false])∧IsSet w' (.slice A n c) 0∧Below w.heap.size w w':=by
 have b:=Below.refl w.heap.size w
 obtain ⟨A,c,rfl,_⟩:=id hs
 unfold pV
 go_enter Tryz.func153,Tryz.ntmps153
 go_upto_region 1 with fail
 refine abs3 fun u1 B3 B4 B6 hb hz=>?_
 clear hz
 replace hT:=hT.below hb;replace hH:=hH.below hb;replace hR1:=hR1.below hb;replace b:=b.trans (hb.mono b.size);replace hs:=hs.below hb
 clear hb
 have x1:=B3.cell 1
 have x3:=B3.cell 3
 have y0:=B4.cell 0
 have l3:=B3.lt;have l4:=B4.lt
 have q0:=Blk.cell hR1 0
 have q1:=Blk.cell hR1 1
 have q2:=Blk.cell hR1 2
 have q3:=Blk.cell hR1 3
 have q4:=Blk.cell hR1 4
 have lr:=Blk.lt hR1
 go_wp2_with fail
 refine absC1 fun u2 B8 hb hz=>?_
 clear hz
 replace hT:=hT.below hb;replace hH:=hH.below hb;replace hR1:=hR1.below hb;replace b:=b.trans (hb.mono b.size);replace hs:=hs.below hb;replace B3:=B3.below hb B3.lt;replace B4:=B4.below hb B4.lt;replace B6:=B6.below hb B6.lt
 clear hb
 clear q0 q1 q2 q3 q4 lr x1 x3 y0 l3 l4
 refine (res3 ((show withB 2 1=2 by decide)) (with_any _ 2 1 u2 hs)).mono ?_
 rintro e u3 ⟨As9,ns9,cs9,rfl,s9,hb⟩
 replace hT:=hT.below hb;replace hH:=hH.below hb;replace hR1:=hR1.below hb;replace b:=b.trans (hb.mono b.size);replace hs:=hs.below hb;replace B3:=B3.below hb B3.lt;replace B4:=B4.below hb B4.lt;replace B6:=B6.below hb B6.lt;replace B8:=B8.below hb B8.lt
 clear hb
 have r0:=B8.cell 0
 have lr:=B8.lt
 go_wp2_with fail
 refine abs1 fun u4 B9 hb hz=>?_
 clear hz r0 lr
 replace hT:=hT.below hb;replace hH:=hH.below hb;replace hR1:=hR1.below hb;replace b:=b.trans (hb.mono b.size);replace hs:=hs.below hb;replace B3:=B3.below hb B3.lt;replace B4:=B4.below hb B4.lt;replace B6:=B6.below hb B6.lt;replace B8:=B8.below hb B8.lt;replace s9:=s9.below hb
 clear hb
 refine wp_mix (fun V=>Below u4.heap.size u4 V) 28 (by kernel_rfl) (by kernel_rfl) (Below.refl _ _).drew ?_
 have hr:Below u4.heap.size u4 u4.drew:=(Below.refl _ _).drew
 obtain ⟨u5,hw⟩:∃ V,V=u4.drew:=⟨_,rfl⟩
 rw [← hw] at hr ⊢;clear hw
 have hb:=hr
 have k4:=B4.cell 0
 have k9:=B9.cell 0
 have r0:=B8.cell 0
 have r1:=B8.cell 1
 have r2:=B8.cell 2
 have r3:=B8.cell 3
 have p0:=B3.cell 0
 have p1:=B3.cell 1
 have p2:=B3.cell 2
 have p3:=B3.cell 3
 have p4:=B3.cell 4
 have p5:=B3.cell 5
 replace hT:=hT.below hb;replace hH:=hH.below hb;replace hR1:=hR1.below hb;replace b:=b.trans (hb.mono b.size);replace hs:=hs.below hb;replace B3:=B3.below hb B3.lt;replace B4:=B4.below hb B4.lt;replace B6:=B6.below hb B6.lt;replace B8:=B8.below hb B8.lt;replace s9:=s9.below hb;replace B9:=B9.below hb B9.lt
 clear hb
 (refine m_q 0 (v:=?_) (by kernel_rfl) rfl rfl (fun W hW=>?_) ?_;rotate_left;(have zk4:=onB hW k4;go_simp;first | done | with_reducible rfl);simp only [pt1,pt3,pt4,pt5])
 (refine m_q 1 (v:=?_) (by kernel_rfl) rfl rfl (fun W hW=>?_) ?_;rotate_left;(go_simp;first | done | with_reducible rfl);simp only [pt1,pt3,pt4,pt5])
 (refine m_q 2 (v:=?_) (by kernel_rfl) rfl rfl (fun W hW=>?_) ?_;rotate_left;(have zr3:=onB hW r3;go_simp;first | done | with_reducible rfl);simp only [pt1,pt3,pt4,pt5])
 (refine m_q 4 (v:=?_) (by kernel_rfl) rfl rfl (fun W hW=>?_) ?_;rotate_left;(go_simp;first | done | with_reducible rfl);simp only [pt1,pt3,pt4,pt5])
 (refine m_q 5 (v:=?_) (by kernel_rfl) rfl rfl (fun W hW=>?_) ?_;rotate_left;(have zr0:=onB hW r0;go_simp;first | done | with_reducible rfl);simp only [pt1,pt3,pt4,pt5])
 refine m_s1 3 (by kernel_rfl) rfl ?_
 go_wp2_with fail
 refine (ans1 (show hasB 2 1=true by decide) (has_any _ 2 1 u5 hs)).mono ?_
 rintro e u6 ⟨rfl,hb⟩
 replace hT:=hT.below hb;replace hH:=hH.below hb;replace hR1:=hR1.below hb;replace b:=b.trans (hb.mono b.size);replace hs:=hs.below hb;replace B3:=B3.below hb B3.lt;replace B4:=B4.below hb B4.lt;replace B6:=B6.below hb B6.lt;replace B8:=B8.below hb B8.lt;replace s9:=s9.below hb;replace B9:=B9.below hb B9.lt;replace hr:=hr.trans (hb.mono hr.size)
 clear hb
 go_wp2_with fail
 refine m_keep hr ?_
 (refine m_q 6 (v:=?_) (by kernel_rfl) rfl rfl (fun W hW=>?_) ?_;rotate_left;(go_simp;first | done | with_reducible rfl);simp only [pt1,pt3,pt4,pt5]);(refine m_q 7 (v:=?_) (by kernel_rfl) rfl rfl (fun W hW=>?_) ?_;rotate_left;(go_simp;first | done | with_reducible rfl);simp only [pt1,pt3,pt4,pt5])
 (refine m_no 8 (by kernel_rfl) rfl (by rfl) ?_;simp only [pt1,pt3,pt4,pt5]);(refine m_no 9 (by kernel_rfl) rfl (by rfl) ?_;simp only [pt1,pt3,pt4,pt5]);(refine m_no 10 (by kernel_rfl) rfl (by rfl) ?_;simp only [pt1,pt3,pt4,pt5]);(refine m_no 11 (by kernel_rfl) rfl (by rfl) ?_;simp only [pt1,pt3,pt4,pt5]);(refine m_no 12 (by kernel_rfl) rfl (by rfl) ?_;simp only [pt1,pt3,pt4,pt5]);(refine m_no 13 (by kernel_rfl) rfl (by rfl) ?_;simp only [pt1,pt3,pt4,pt5]);(refine m_no 14 (by kernel_rfl) rfl (by rfl) ?_;simp only [pt1,pt3,pt4,pt5]);(refine m_no 15 (by kernel_rfl) rfl (by rfl) ?_;simp only [pt1,pt3,pt4,pt5]);(refine m_no 16 (by kernel_rfl) rfl (by rfl) ?_;simp only [pt1,pt3,pt4,pt5]);(refine m_no 17 (by kernel_rfl) rfl (by rfl) ?_;simp only [pt1,pt3,pt4,pt5]);(refine m_no 18 (by kernel_rfl) rfl (by rfl) ?_;simp only [pt1,pt3,pt4,pt5]);(refine m_no 19 (by kernel_rfl) rfl (by rfl) ?_;simp only [pt1,pt3,pt4,pt5]);(refine m_no 20 (by kernel_rfl) rfl (by rfl) ?_;simp only [pt1,pt3,pt4,pt5])
 (refine m_q 21 (v:=?_) (by kernel_rfl) rfl rfl (fun W hW=>?_) ?_;rotate_left;(go_simp;first | done | with_reducible rfl);simp only [pt1,pt3,pt4,pt5]);(refine m_q 22 (v:=?_) (by kernel_rfl) rfl rfl (fun W hW=>?_) ?_;rotate_left;(go_simp;first | done | with_reducible rfl);simp only [pt1,pt3,pt4,pt5])
 (refine m_no 23 (by kernel_rfl) rfl (by rfl) ?_;simp only [pt1,pt3,pt4,pt5]);(refine m_no 24 (by kernel_rfl) rfl (by rfl) ?_;simp only [pt1,pt3,pt4,pt5]);(refine m_no 25 (by kernel_rfl) rfl (by rfl) ?_;simp only [pt1,pt3,pt4,pt5]);(refine m_no 26 (by kernel_rfl) rfl (by rfl) ?_;simp only [pt1,pt3,pt4,pt5])
 (refine m_q 27 (v:=?_) (by kernel_rfl) rfl rfl (fun W hW=>?_) ?_;rotate_left;(go_simp;first | done | with_reducible rfl);simp only [pt1,pt3,pt4,pt5])
 refine m_end (by kernel_rfl) ?_
 clear k4 k9 r0 r1 r2 r3 p0 p1 p2 p3 p4 p5
 have k9:=B9.cell 0;have k6:=B6.cell 0;have f6:=B6.frozen 0;have l6:=B6.lt
 go_wp2_with fail
 have j6:=(B6.set_ 0 (.slice none 0 0)).cell 0
 refine bodyPost_ret (v:=.tuple #[.agg #[.slice none 0 0],.bool false]) (by simp [results,Tryz.results153,go_sem,j6]) rfl ⟨_,_,_,rfl,?_,?_⟩
 ·exact (IsSet.empty _).keep (KeepW.setCell (p:=⟨w.heap.size+1+1,0,none⟩) B6 (by decide) _)
 ·exact b.setCell (by simp;omega) _
end Mix2
theorem bytes_0 (v:Value) (w:World) (hs:IsSet w v 0) :
  Calls Tryz.prog 110 #[.agg #[v]] w fun e w'=>e=.returned (.slice none 0 0)∧Below w.heap.size w w':=by
 obtain ⟨A,c,rfl,_⟩:=id hs
 go_enter Tryz.func110,Tryz.ntmps110
 go_wp2_with fail
 refine absC1 fun W h1 hb hz=>?_
 refine (greatest_no _ W (hs.below hb)).mono ?_
 rintro e w1 ⟨rfl,hb1⟩
 go_wp2_with fail
 go_ret
 exact ⟨rfl,hb.trans (hb1.mono hb.size)⟩
theorem info_u8:(Tryz.prog.info? 5).map (fun i=>(i.zero,i.size,i.bytes))=some (some (.int .u8 0),1,1):=by kernel_rfl
theorem make_u8 (n:Nat) (hn:n≤65536) (w:World) :
  (Instr.makeSlice 22 (.int .i64 (n:Int)) (.int .i64 (n:Int))).run Tryz.prog w=.ok (.slice (some ⟨w.heap.size,0,none⟩) n n) (w.alloc (.cells (zeros (.int .u8 0) n) 5)) :=
 make_run 22 5 _ 1 Tryz.underlying22 info_u8 rfl n (by omega) hn w
theorem bytes_2 (v:Value) (w:World) (hs:IsSet w v 2) :
  Calls Tryz.prog 110 #[.agg #[v]] w fun e w'=>∃ g,e=.returned (.slice (some ⟨g,0,none⟩) 1 1)∧w'.cell? ⟨g,0,none⟩=some (.int .u8 2)∧Below w.heap.size w w':=by
 obtain ⟨A,c,rfl,_,_,_,hA⟩:=id hs
 obtain ⟨g,cs,rfl,hg,hcs⟩:=hA (by decide)
 have hc0:=hcs 0 (by decide)
 rw [show wd 2 0=2 by decide] at hc0
 rw [show nw 2=1 by decide] at *
 clear hcs hA
 have hq:w.cell? ⟨g,0,none⟩=some (u64 2):=by rw [hg.cell 0];exact hc0
 go_enter Tryz.func110,Tryz.ntmps110
 go_wp2_with fail
 refine absC1 fun W h1 hb hz=>?_
 have HG:=hideC (greatest_yes _ 2 W (hs.below hb) (by decide))
 rw [show Nat.log2 2=1 by decide] at HG
 refine HG.out.mono ?_
 rintro e w1 ⟨rfl,hb1⟩
 have b1:=hb.trans (hb1.mono hb.size)
 have h11:=h1.below hb1 h1.lt
 have q0:=h11.cell 0
 have l1:=h11.lt
 have q1:=onB b1 hq
 have l2:=cell_lt q1
 clear hq hb hb1 h1 hz HG
 have hmk:(Instr.makeSlice 22 (.int .i64 1) (.int .i64 1)).run Tryz.prog w1=_:=make_u8 1 (by decide) w1
 go_wp2_with fail
 clear hmk
 refine wp_loop_rounds 2 ?_
 rw [rounds_succ]
 go_wp2_with fail
 rw [rounds_succ]
 go_wp2_with fail
 go_ret
 refine ⟨w1.heap.size,rfl,?_,?_⟩
 ·rw [(Blk.new w1 _ _).cell 0]
  rfl
 ·exact b1.alloc b1.size _
theorem conv_0 (W:World):(convert 22 9 (.slice none 0 0)).run Tryz.prog W=.ok (.string ⟨#[]⟩) W:=by
 rw [run_convert_bytes_string W _ _ _ none _ 0 Tryz.underlying22 Tryz.underlying5 Tryz.underlying9]
 simp [Conv.bytesToString]
 rfl
theorem conv_2 (g:Nat) (W:World) (h:W.cell? ⟨g,0,none⟩=some (.int .u8 2)):(convert 22 9 (.slice (some ⟨g,0,none⟩) 1 1)).run Tryz.prog W=.ok (.string ⟨#[2]⟩) W:=by
 refine run_convert_bytes_back (P:=Tryz.prog) W 22 9 5 ⟨g,0,none⟩ 1 [2] Tryz.underlying22 Tryz.underlying5 Tryz.underlying9 fun j hj=>?_
 obtain rfl:j=0:=by simpa using hj
 have e:(⟨g,0,none⟩:Addr).add 0=⟨g,0,none⟩:=by unfold Addr.add;split <;> simp_all
 rw [e,h]
 rfl
end Go.Proofs.YtafpmkdlciioaaaGreatDoor
namespace Go.Proofs.YtafpmkdlciioaaaGreatDoor
open Go.RowKit Go.Maps
theorem plainElem_bool_inv {P:Program} {e:TypeId} (he:P.underlying e=some .bool) {v:Value} {z:DataW Unit×List MemPlace} (h:plainElem P e v=some z):∃ b,v=.bool b∧z=(.lit (.bool b),[]):=by
 unfold plainElem at h
 rw [he] at h
 cases v <;> simp at h
 exact ⟨_,rfl,h.symm⟩
end Go.Proofs.YtafpmkdlciioaaaGreatDoor
namespace Go.Proofs.YtafpmkdlciioaaaGreatDoor
open Go.RowKit Go.Maps
attribute [local go_sem] Oper.semAt_some
def d0M:DataW Unit:=(DataW.map []:DataW Unit).put (.string []) (.lit (.bool true))
theorem ownsMapT_below {W W':World} {k:TypeId} {Rr:Value→Option (DataW Unit×List MemPlace)} {b n:Nat} {Dd:DataW Unit} (h:W.ownsMap Tryz.prog k Rr b n Dd) (hb:Below W.heap.size W W'):W'.ownsMap Tryz.prog k Rr b n Dd:=by
 obtain ⟨es,clock,h1,h2,h3,h4⟩:=h
 exact ⟨es,clock,(hb.block b (Array.getElem?_eq_some_iff.1 h1).1).trans h1,h2,h3,h4⟩
theorem zero_boolT (W:World):(zeroValue 4).run Tryz.prog W=.ok (.bool false) W:=by kernel_rfl
theorem key_0:keyOf Tryz.prog 9 (.string ⟨#[]⟩)=some (.string []):=by kernel_rfl
theorem key_2:keyOf Tryz.prog 9 (.string ⟨#[2]⟩)=some (.string [2]):=by kernel_rfl
def IsS1 (n0:Nat) (w:World) (s lk g:Nat):Prop :=
 ∃ gl m ge,Blk w s 139 #[.int .i64 1,ptr lk,.slice none 0 0,.slice (some ⟨g,0,none⟩) 1 1,.slice none 0 0,.slice none 0 0,.int .i64 10,.slice (some ⟨gl,0,none⟩) 1 1,.map (some m),.slice (some ⟨ge,0,none⟩) 1 1] ∧
  Blk w gl 141 #[.slice none 0 0,.int .i64 (-1),.int .i64 (-1)]∧Blk w ge 3 #[.int .i64 1]∧w.ownsMap Tryz.prog 9 (plainElem Tryz.prog 4) m 1 d0M∧s≠m∧n0≤s∧n0≤m
theorem begin_h (lk g:Nat) (w:World) (hT:Tab w) (hH:IsH w lk) (hR1:IsR1 w g) :
  Calls Tryz.prog 63 #[pV lk g,.int .i64 10] w fun e w'=>∃ s,e=pair (ptr s) 0∧IsS1 w.heap.size w' s lk g∧Below w.heap.size w w':=by
 have hmm:=@run_makeMap Tryz.prog
 unfold pV
 go_enter Tryz.func63,Tryz.ntmps63
 go_wp2_with fail
 refine absC1 fun u1 B2 hb hz=>?_
 have HC:=hideC (check_h lk g u1 (hT.below hb) (hH.below hb) (hR1.below hb))
 rw [pV_eq] at HC
 clear hz
 refine HC.out.mono ?_
 rintro e u2 ⟨rfl,hb2⟩
 have b2:=hb.trans (hb2.mono hb.size)
 have B22:=B2.below hb2 B2.lt
 have p0:=B22.cell 0
 have p1:=B22.cell 1
 have p2:=B22.cell 2
 have p3:=B22.cell 3
 have p4:=B22.cell 4
 have p5:=B22.cell 5
 have l2:=B22.lt
 clear HC hb hb2 B2
 go_upto_region 7 with fail
 refine abs3 fun u3 BL BE BS hb hz3=>?_
 have b3:=b2.trans (hb.mono b2.size)
 have B23:=B22.below hb B22.lt
 have q2:(u3.alloc (.map #[] 0)).cell? ⟨w.heap.size,2,none⟩=some (.slice none 0 0):=onB ((Below.refl _ _).alloc (Nat.le_refl _) _) (B23.cell 2)
 have q2f:(u3.alloc (.map #[] 0)).frozen? ⟨w.heap.size,2,none⟩=false:=onFrozen ((Below.refl _ _).alloc (Nat.le_refl _) _) (B23.cell 2) (B23.frozen 2)
 have HSZ:=Lib.hid (show u3.heap.size=u2.heap.size+3 from hz3)
 clear p0 p1 p2 p3 p4 p5 hb hz3 B22
 go_wp2_with fail
 clear hmm
 obtain ⟨u4,hu4⟩:∃ V,V=u3.alloc (.map #[] 0):=⟨_,rfl⟩
 have hM:u4.ownsMap Tryz.prog 9 (plainElem Tryz.prog 4) u3.heap.size 0 (DataW.map []:DataW Unit):=by
  rw [hu4]
  exact World.ownsMap_made (H:=Unit) u3 Tryz.prog 9 (plainElem Tryz.prog 4)
 have hb:Below u3.heap.size u3 u4:=by rw [hu4];exact (Below.refl _ _).alloc (Nat.le_refl _) _
 rw [← hu4]
 clear hu4
 have b4:=b3.trans (hb.mono b3.size)
 have BL4:=BL.below hb BL.lt
 have BE4:=BE.below hb BE.lt
 have BS4:=BS.below hb BS.lt
 clear hb BL BE BS q2 q2f B23
 refine (bytes_0 _ u4 (IsSet.empty _)).mono ?_
 rintro e u5 ⟨rfl,hb⟩
 have b5:=b4.trans (hb.mono b4.size)
 have BL5:=BL4.below hb BL4.lt
 have BE5:=BE4.below hb BE4.lt
 have BS5:=BS4.below hb BS4.lt
 have hM5:u5.ownsMap Tryz.prog 9 (plainElem Tryz.prog 4) u3.heap.size 0 (DataW.map []:DataW Unit):=ownsMapT_below hM hb
 obtain ⟨u6,hrun,hM6,hg⟩:=hM5.update (string_keyed Tryz.underlying9) Tryz.underlying137 (by unfold maxLen;omega) key_0 (plainElem_bool Tryz.underlying4 true)
 have hcv:=conv_0 u5
 have hsz:=HSZ.out
 have BL6:=BL5.grown hg (by simp;omega)
 have BE6:=BE5.grown hg (by simp;omega)
 have BS6:=BS5.grown hg (by simp;omega)
 have c8:=BS6.cell 8
 have f8:=BS6.frozen 8
 have l6:=BS6.lt
 have b6:=b5.grown hg b5.size (fun q hq=>by cases hq;have:=b3.size;omega)
 clear hsz BL4 BE4 BS4 BL5 BE5 BS5 hM hM5 hb b4 hg
 go_wp2_with fail
 go_ret2
 have hs2:=b2.size
 have hsz:=HSZ.out
 refine ⟨_,rfl,⟨u2.heap.size,u3.heap.size,u2.heap.size+1,BS6.set_ 8 (.map (some u3.heap.size)),BL6.far (by first | (simp;done) | (simp;omega)) _,BE6.far (by first | (simp;done) | (simp;omega)) _,?_,by omega,by omega,by omega⟩,b6.setCell (by first | (simp;done) | (simp;omega)) _⟩
 exact hM6.setCell (by first | (simp;done) | (simp;omega)) _
end Go.Proofs.YtafpmkdlciioaaaGreatDoor
