/-
  The contract of args.takes: does a function take a register?
-/
import Derived.Test.YtgjjhadbjmcnpaaGreatDoorJArgB
set_option maxRecDepth 100000
set_option maxHeartbeats 16000000
namespace Go.Proofs.YtgjjhadbjmcnpaaGreatDoor
open Go.RowKit Go.Shelf Go.Sort
attribute [local go_sem] Oper.semAt_some

theorem own_const {B:Nat} {P:Nat→Prop}:OwnFrom B (fun i (_:World)=>P i):=fun _ _ _ _ hs _ _=>hs
theorem own_at1 {B b o:Nat} (hb:b<B) (v:Value):OwnFrom B (fun (_:Nat) W=>W.cell? ⟨b,o,none⟩=some v):=fun _ W W' _ hs hg hr=>
 (World.cell?_of_block (a:=⟨b,o,none⟩) (hg.block b (q9 hs) (fun e=>by have:=(hr b e.symm).1;omega))).trans hs

theorem takes_any (g n c k:Nat) (r:Int) (xs:List FunL) (w:World) (S:Blks) (hS:SlO 38 4 FunO w (.slice (some ⟨g,0,none⟩) n c) xs S) (hk:k<xs.length) (h0:0<xs[k].blocks.length) :
  Calls Tryz.prog 18 #[.pointer (some ⟨g,k*4,none⟩),.int .i64 r] w fun e w'=>e = .returned (.bool (tkF r xs[k]))∧Below w.heap.size w w':=by
 obtain ⟨g',c',csf,Tf,hvf,hgz,hgS,hdK,hFf,hgT,hTS,ham,hbE,⟨curf,haQ⟩,_⟩:=hS.focus qV (by omega) hk
 obtain rfl:g=g':=by injection hvf with a;injection a with a;injection a
 obtain ⟨f,hf⟩:∃f,f=xs[k]:=⟨_,rfl⟩
 rw [←hf] at hFf h0 ⊢
 have hlists:=hFf.lists h0
 obtain ⟨vb,hbO,hnm,hi1,hi2,hBf⟩:=hFf
 obtain ⟨bb,cb,hcs2,haD,hbl,hbP⟩:=hlists
 have hvb:vb = .slice (some ⟨bb,0,none⟩) f.blocks.length cb:=by
  rw [hbO] at hcs2
  simpa using hcs2
 subst hvb
 subst hbO
 have hcN:=hS.inb bb (hTS bb haD)
 have e3:w.cell? ⟨g,k*4+3,none⟩=some (.slice (some ⟨bb,0,none⟩) f.blocks.length cb):=ham 3 (by omega)
 have hsr:SliceAt w 6 (BlkR w) (some ⟨bb,0,none⟩) f.blocks:=by
  obtain ⟨p',c',e,_,_,h⟩:=hBf.sl.read (R':=BlkR w) qU (by omega) fun _ _ _ h=>h.read
  cases e
  exact h
 have HSr:=q8 hsr
 have HLs:=q8 hbP
 clear hS hf hvf hgS hdK hgT hTS ham hbE haQ hcs2 haD hnm hi1 hi2 hBf hsr hbP
 refine (callsIn_wide (n:=3)).1 ?_
 refine callsIn_of_wp_marks Tryz.func18 rfl trivial ?_ rfl
 simp only [Tryz.ntmps18,List.size_toArray,List.length_cons,List.length_nil,Nat.reduceAdd,Nat.reduceSub,Array.replicate_succ,Array.replicate_zero,List.push_toArray,List.append_toArray,List.nil_append,List.cons_append]
 refine wpIn_wide.2 ?_
 go_wp2_with fail
 obtain ⟨w0,hw0⟩:∃w0,w0=((w.alloc (.cells #[.int .i64 r] 3)).alloc (.cells #[.bool false] 4)).alloc (.cells #[.func (.func 44) #[] #[.pointer (some ⟨w.heap.size,0,none⟩)]] 86):=⟨_,rfl⟩
 rw [←hw0]
 have hz0:w0.heap.size=w.heap.size+1+1+1:=by rw [hw0];simp
 have hb0:Below w.heap.size w w0:=by rw [hw0];exact bZ
 have hC0:IsAt (w.heap.size+1+1) w.heap.size r w0:=by
  rw [hw0]
  exact ⟨(blk (qh (qh (qx w _)))).1 0,(blk (qq (by simp))).1 0⟩
 have hR0:w0.heap[w.heap.size+1]?=some (.cells #[.bool false] 4 (0,0)):=by rw [hw0];exact qh (qq (by simp))
 have HZw:=q8 hz0
 clear hw0 hz0
 refine (Qe (some ⟨g,k*4,none⟩) w0).mono ?_
 rintro e W0 ⟨rfl,hW0⟩
 have hb1:Below w0.heap.size w0 W0:=by rw [hW0];exact bZ
 have HZ0:Hid (W0.heap.size=w0.heap.size+1):=q8 (by rw [hW0];simp)
 have hx0:W0.cell? ⟨w0.heap.size,0,none⟩=some (.pointer (some ⟨g,k*4,none⟩)):=by rw [hW0];exact (blk (qx w0 _)).1 0
 have haa:=q8 (hb0.trans (hb1.mono hb0.size))
 have HC:=q8 (hC0.below hb1)
 have HR:=q8 ((hb1.block _ (by have:=HZw.out;omega)).trans hR0)
 have hbQ:EachSh w0.heap.size g (k*4) (some ⟨bb,0,none⟩) f.blocks.length cb (lqW w bb) (ql f) (lcW w bb) W0:=by
  refine ⟨hx0,?_,fun mm hmm=>⟨bb,0,rfl,?_⟩⟩
  ·exact (haa.out.cell (p:=⟨g,k*4+3,none⟩) hgz).trans e3
  rw [Nat.zero_add,haa.out.cell (p:=⟨bb,mm*6+1,none⟩) hcN]
  exact (HLs.out mm hmm).1
 have HSH:=q8 hbQ
 clear hW0 hb0 hb1 hC0 hR0 hx0 hbQ
 go_wp2_with fail
 refine (wpIn_wide (n:=3)).1 ?_
 refine xR rfl (by omega) (gf:=74) (lb:=#[.pointer (some ⟨w0.heap.size,0,none⟩)]) rfl trivial (enters_of Tryz.func74 (by kernel_rfl) rfl)
  (ZC Fence.wide 2 trivial rfl (by omega) w0.heap.size g (k*4) cb f.blocks.length (some ⟨bb,0,none⟩) (lqW w bb) (lpW w bb) (ql f) (lcW w bb) W0 hbl (fun mm hmm=>(HLs.out mm hmm).2.1) (fun mm hmm h0=>(HLs.out mm hmm).2.2 h0) HSH.out) (fun h k x=>k (h x)) (fun W l o o' _ hl ho _ h=>h.putObj o' hl ho) (Below.refl _ _) (fun i _=>rfl)
  (fun i W=>EachSh w0.heap.size g (k*4) (some ⟨bb,0,none⟩) f.blocks.length cb (lqW w bb) (ql f) (lcW w bb) W∧Kept (fun _=>False) W0 W∧∀m (hm:m<f.blocks.length) j (hj:j<f.blocks[m].list.length),(zX (ql f) m).length+j<i→tkI r f.blocks[m].list[j]=false)
  (fun c i W=>c = .ret∧Kept (fun b=>b=w.heap.size+1) W0 W∧W.cell? ⟨w.heap.size+1,0,none⟩=some (.bool true)∧∃m,∃hm:m<f.blocks.length,∃j,∃hj:j<f.blocks[m].list.length,tkI r f.blocks[m].list[j]=true)
  (own_sh.and ((vB (Nat.le_refl _)).and fun _ _ _ _ hs _ _=>hs)) ?own2 ⟨HSH.out,Kept.refl _ _,fun _ _ _ _ h=>by omega⟩
  (fun i=>{ tmps:=#[.pointer (some ⟨g,k*4,none⟩),.int .i64 r,undef,.pointer (some ⟨w.heap.size,0,none⟩),.pointer (some ⟨w.heap.size+1,0,none⟩),.pointer (some ⟨w.heap.size+1+1,0,none⟩),(j9 (lpW w bb) (ql f) f.blocks.length i),.func (.func 44) #[] #[.pointer (some ⟨w.heap.size,0,none⟩)],.pointer (some ⟨g,k*4,none⟩),.func (.func 74) #[] #[.pointer (some ⟨w0.heap.size,0,none⟩)],(j9 (lpW w bb) (ql f) f.blocks.length i),undef,undef,undef,undef,undef,undef,undef,undef,undef,undef,undef,undef,undef,undef,undef,undef,undef,undef,undef,undef,undef,undef,undef,undef,undef,undef,undef,undef],defers:=[] }) ?assign ?body ?done ?stop
 case own2=>
  intro cc
  exact own_const.and ((vB (Nat.le_refl _)).and ((own_at1 (by have:=HZ0.out;have:=HZw.out;omega) _).and own_const))
 case assign=>
  intro l i W K hi hK
  unfold Qx
  gi_wp2
  exact hK
 case body=>
  rintro l i W hl hi ⟨hSh,hKp,hno⟩
  obtain ⟨m',j,hm',hj,rfl⟩:=vA hi
  have hj2:j<f.blocks[m'].list.length:=by rw [←zM hm'];exact hj
  have hbW:Below W0.heap.size W0 W:=hKp.below (Nat.le_refl _) fun _ h=>h.elim
  have hbw:Below w.heap.size w W:=haa.out.trans (hbW.mono haa.out.size)
  obtain ⟨b2,o2,q1,c1,q2,c2,q3,c3,hp2,_,e1,_,_,_,_,_,_,_,_,_,_,hls,_⟩:=jH HSr.out hbw hm'
  obtain ⟨rfl,rfl⟩:bb=b2∧o2=0:=by cases hp2;exact ⟨rfl,rfl⟩
  have hq2:q2=some ⟨(lpW w bb m').1,(lpW w bb m').2,none⟩:=by
   have h1:=(HLs.out m' hm').1
   rw [←hbw.cell (p:=⟨bb,m'*6+1,none⟩) hcN] at h1
   rw [Nat.zero_add] at e1
   rw [h1] at e1
   have h2:lqW w bb m'=q2:=by simpa using congrArg (fun v=>match v with|some (Value.slice p _ _)=>p|_=>none) e1
   rw [←h2]
   exact (HLs.out m' hm').2.2 (by omega)
  obtain ⟨lb,lo,qa,ca,hp3,y0,y1,y2,y3,y4,y5,y6,y7,i0,i1,i2,i3,i4,hal,has⟩:=Xa hls (Below.refl _ _) hj2
  have hpt:j9 (lpW w bb) (ql f) f.blocks.length ((zX (ql f) m').length+j) = .pointer (some ⟨lb,lo+j*8,none⟩):=by
   rw [jX hm' hj]
   rw [hq2] at hp3
   injection hp3 with h2
   injection h2 with h3 h4
   rw [h3,h4]
  rw [hpt]
  obtain ⟨x,hx⟩:∃x,x=f.blocks[m'].list[j]:=⟨_,rfl⟩
  rw [←hx] at y0 y1 y2 y3 y4 y5 y6 y7 hal has
  have lbz:=q9 y0
  have hIs:IsAt (w.heap.size+1+1) w.heap.size r W:=HC.out.below hbW
  have HI:=q8 hIs
  have yI:∀d os,(grow (redrawn W d) os).cell? ⟨w.heap.size+1+1,0,none⟩=some (.func (.func 44) #[] #[.pointer (some ⟨w.heap.size,0,none⟩)]):=cell_regrown hIs.fn
  have z2:∀d os,(grow (redrawn W d) os).cell? ⟨lb,lo+j*8+2,none⟩=some (.bool x.ar):=cell_regrown y2
  have z3:∀d os,(grow (redrawn W d) os).cell? ⟨lb,lo+j*8+3,none⟩=some (.int .i64 x.an):=cell_regrown y3
  have z4:∀d os,(grow (redrawn W d) os).cell? ⟨lb,lo+j*8+4,none⟩=some (.bool x.br):=cell_regrown y4
  have z5:∀d os,(grow (redrawn W d) os).cell? ⟨lb,lo+j*8+5,none⟩=some (.int .i64 x.bn):=cell_regrown y5
  have z7:∀d os,(grow (redrawn W d) os).cell? ⟨lb,lo+j*8+7,none⟩=some (.slice qa x.args.length ca):=cell_regrown y7
  have hcA:∀d os,Calls Tryz.prog 44 #[.agg #[.bool x.ar,.int .i64 x.an],.pointer (some ⟨w.heap.size,0,none⟩)] (grow (redrawn W d) os) fun e w'=>e = .returned (.bool (isV r (x.ar,x.an)))∧Below (grow (redrawn W d) os).heap.size (grow (redrawn W d) os) w':=fun d os=>Vi _ r x.an x.ar _ (HI.out.r.below (below_regrown W d os))
  have hcB:∀d os,Calls Tryz.prog 44 #[.agg #[.bool x.br,.int .i64 x.bn],.pointer (some ⟨w.heap.size,0,none⟩)] (grow (redrawn W d) os) fun e w'=>e = .returned (.bool (isV r (x.br,x.bn)))∧Below (grow (redrawn W d) os).heap.size (grow (redrawn W d) os) w':=fun d os=>Vi _ r x.bn x.br _ (HI.out.r.below (below_regrown W d os))
  have hcL:∀d os,Calls Tryz.prog 46 #[.slice qa x.args.length ca,.func (.func 44) #[] #[.pointer (some ⟨w.heap.size,0,none⟩)]] (grow (redrawn W d) os) fun e w'=>e = .returned (.bool (x.args.any (isV r)))∧Below (grow (redrawn W d) os).heap.size (grow (redrawn W d) os) w':=fun d os=>Vj _ r x.args qa ca _ (by omega) (has.mono (below_regrown W d os) (by omega) fun _ _ h=>h) (HI.out.r.below (below_regrown W d os))
  have haE:tkI r x=false→∀Wq,Below W.heap.size W Wq→xQ W0.heap.size (fun W W'=>EachSh w0.heap.size g (k*4) (some ⟨bb,0,none⟩) f.blocks.length cb (lqW w bb) (ql f) (lcW w bb) W→EachSh w0.heap.size g (k*4) (some ⟨bb,0,none⟩) f.blocks.length cb (lqW w bb) (ql f) (lcW w bb) W') (fun i W=>EachSh w0.heap.size g (k*4) (some ⟨bb,0,none⟩) f.blocks.length cb (lqW w bb) (ql f) (lcW w bb) W∧Kept (fun _=>False) W0 W∧∀m (hm:m<f.blocks.length) j (hj:j<f.blocks[m].list.length),(zX (ql f) m).length+j<i→tkI r f.blocks[m].list[j]=false) (fun c i W=>c = .ret∧Kept (fun b=>b=w.heap.size+1) W0 W∧W.cell? ⟨w.heap.size+1,0,none⟩=some (.bool true)∧∃m,∃hm:m<f.blocks.length,∃j,∃hj:j<f.blocks[m].list.length,tkI r f.blocks[m].list[j]=true) ((zX (ql f) m').length+j) W .normal Wq:=fun ht Wq hb=>by
   refine ⟨⟨hb.size,fun q o _ hq _=>(hb.block q (qd hq)).trans hq⟩,fun h=>h.below hb,hSh.below hb,hKp.trans (Kept.of_below hb) (fun _ _ h=>h),fun m hm jj hjj hlt=>?_⟩
   rcases Nat.lt_or_ge ((zX (ql f) m).length+jj) ((zX (ql f) m').length+j) with g1|g1
   ·exact hno m hm jj hjj g1
   have e2:=kL hm (ll:=ql f) (j:=jj) (n:=f.blocks.length) (by rw [zM hm];exact hjj)
   have e3:=kL hm' hj
   rw [show (zX (ql f) m).length+jj=(zX (ql f) m').length+j by omega,e3] at e2
   injection e2 with e2
   injection e2 with e4 e5
   subst e4 e5
   rw [←hx]
   exact ht
  have haT:=q8 haE
  have HKp:=q8 hKp
  have HSh:=q8 hSh
  have hRW:=(hbW.block _ (qd HR.out)).trans HR.out
  have HRW:=q8 hRW
  have HHx:=q8 hx
  have wzI:=q9 hIs.fn
  clear hSh hKp hno haE hRW hx hbw hls has hpt hp2 hp3 hq2 y0 y1 y6 e1 hIs
  have hhu:tkI r x=true→∀Wq,Below W.heap.size W Wq→xQ W0.heap.size (fun W W'=>EachSh w0.heap.size g (k*4) (some ⟨bb,0,none⟩) f.blocks.length cb (lqW w bb) (ql f) (lcW w bb) W→EachSh w0.heap.size g (k*4) (some ⟨bb,0,none⟩) f.blocks.length cb (lqW w bb) (ql f) (lcW w bb) W') (fun i W=>EachSh w0.heap.size g (k*4) (some ⟨bb,0,none⟩) f.blocks.length cb (lqW w bb) (ql f) (lcW w bb) W∧Kept (fun _=>False) W0 W∧∀m (hm:m<f.blocks.length) j (hj:j<f.blocks[m].list.length),(zX (ql f) m).length+j<i→tkI r f.blocks[m].list[j]=false) (fun c i W=>c = .ret∧Kept (fun b=>b=w.heap.size+1) W0 W∧W.cell? ⟨w.heap.size+1,0,none⟩=some (.bool true)∧∃m,∃hm:m<f.blocks.length,∃j,∃hj:j<f.blocks[m].list.length,tkI r f.blocks[m].list[j]=true) ((zX (ql f) m').length+j) W .ret (Wq.setCell ⟨w.heap.size+1,0,none⟩ (.bool true)):=fun ht Wq hb=>by
   have hRq:=(hb.block _ (qd HRW.out)).trans HRW.out
   have hK1:Kept (fun b=>b=w.heap.size+1) W0 (Wq.setCell ⟨w.heap.size+1,0,none⟩ (.bool true)):=((HKp.out.trans (Kept.of_below (S:=fun _=>False) hb) (fun _ _ h=>h)).mono (fun _ _ h=>h.elim):Kept (fun b=>b=w.heap.size+1) W0 Wq).setCell (p:=⟨w.heap.size+1,0,none⟩) rfl _
   have hK2:Kept (fun b=>b=w.heap.size+1) W (Wq.setCell ⟨w.heap.size+1,0,none⟩ (.bool true)):=(Kept.of_below (S:=fun b=>b=w.heap.size+1) hb).setCell (p:=⟨w.heap.size+1,0,none⟩) rfl _
   refine ⟨⟨hK2.size,fun q o hq0 hq _=>(hK2.block q (qd hq) (fun e=>by have:=HZ0.out;have:=HZw.out;have e:q=w.heap.size+1:=e;omega)).trans hq⟩,rfl,hK1,?_,m',hm',j,hj2,by rw [←HHx.out];exact ht⟩
   have h2:=qj hRq 0 (.bool true)
   exact (blk h2).1 0
  have hiE:=q8 hhu
  clear hhu
  cases hA:isV r (x.ar,x.an)
  ·rw [hA] at hcA
   cases hB:isV r (x.br,x.bn)
   ·rw [hB] at hcB
    cases hL:x.args.any (isV r)
    ·rw [hL] at hcL
     gi_wp2
     refine qJ (by kernel_rfl) (by kernel_rfl) (fun ⟨_,_,h⟩=>h.2) (by kernel_rfl) ?_
     repeat go_big_quiet_step (fail)
     go_big_quiet_step (exact Calls.regrown_of (hcA _ _))
     repeat go_big_quiet_step (fail)
     go_big_quiet_step (exact Calls.regrown_of (hcB _ _))
     repeat go_big_quiet_step (fail)
     go_big_quiet_step (exact Calls.regrown_of (hcL _ _))
     repeat go_big_quiet_step (fail)
     refine wpQuiet_nil ?_
     intro Wq hWq
     have hbq:Below W.heap.size W Wq:=by
      obtain ⟨p,rfl⟩:=hWq
      exact below_regrown _ _ _
     clear hWq
     gi_wp2
     exact haT.out (by unfold tkI;rw [hA,hB,hL];rfl) Wq hbq
    rw [hL] at hcL
    gi_wp2
    refine qJ (by kernel_rfl) (by kernel_rfl) (fun ⟨_,_,h⟩=>h.2) (by kernel_rfl) ?_
    repeat go_big_quiet_step (fail)
    go_big_quiet_step (exact Calls.regrown_of (hcA _ _))
    repeat go_big_quiet_step (fail)
    go_big_quiet_step (exact Calls.regrown_of (hcB _ _))
    repeat go_big_quiet_step (fail)
    go_big_quiet_step (exact Calls.regrown_of (hcL _ _))
    repeat go_big_quiet_step (fail)
    refine wpQuiet_nil ?_
    intro Wq hWq
    have hbq:Below W.heap.size W Wq:=by
     obtain ⟨p,rfl⟩:=hWq
     exact below_regrown _ _ _
    clear hWq
    have hRq:=(hbq.block _ (qd HRW.out)).trans HRW.out
    have hfr:=(blk hRq).2
    have hr0:Wq.cell? ⟨w.heap.size+1,0,none⟩=some (.bool false):=(blk hRq).1 0
    have hrz:=qd hRq
    gi_wp2
    refine hiE.out ?_ Wq hbq
    unfold tkI;rw [hA,hB,hL];rfl
   rw [hB] at hcB
   gi_wp2
   refine qJ (by kernel_rfl) (by kernel_rfl) (fun ⟨_,_,h⟩=>h.2) (by kernel_rfl) ?_
   repeat go_big_quiet_step (fail)
   go_big_quiet_step (exact Calls.regrown_of (hcA _ _))
   repeat go_big_quiet_step (fail)
   go_big_quiet_step (exact Calls.regrown_of (hcB _ _))
   repeat go_big_quiet_step (fail)
   refine wpQuiet_nil ?_
   intro Wq hWq
   have hbq:Below W.heap.size W Wq:=by
    obtain ⟨p,rfl⟩:=hWq
    exact below_regrown _ _ _
   clear hWq
   have hRq:=(hbq.block _ (qd HRW.out)).trans HRW.out
   have hfr:=(blk hRq).2
   have hr0:Wq.cell? ⟨w.heap.size+1,0,none⟩=some (.bool false):=(blk hRq).1 0
   have hrz:=qd hRq
   gi_wp2
   refine hiE.out ?_ Wq hbq
   unfold tkI;rw [hA,hB];rfl
  rw [hA] at hcA
  gi_wp2
  refine qJ (by kernel_rfl) (by kernel_rfl) (fun ⟨_,_,h⟩=>h.2) (by kernel_rfl) ?_
  repeat go_big_quiet_step (fail)
  go_big_quiet_step (exact Calls.regrown_of (hcA _ _))
  repeat go_big_quiet_step (fail)
  refine wpQuiet_nil ?_
  intro Wq hWq
  have hbq:Below W.heap.size W Wq:=by
   obtain ⟨p,rfl⟩:=hWq
   exact below_regrown _ _ _
  clear hWq
  have hRq:=(hbq.block _ (qd HRW.out)).trans HRW.out
  have hfr:=(blk hRq).2
  have hr0:Wq.cell? ⟨w.heap.size+1,0,none⟩=some (.bool false):=(blk hRq).1 0
  have hrz:=qd hRq
  gi_wp2
  refine hiE.out ?_ Wq hbq
  unfold tkI;rw [hA];rfl
 case done=>
  rintro D W hD ⟨hSh,hKp,hno⟩ hDl
  have hbW:Below W0.heap.size W0 W:=hKp.below (Nat.le_refl _) fun _ h=>h.elim
  have hbw:Below w.heap.size w W:=haa.out.trans (hbW.mono haa.out.size)
  have hIs:IsAt (w.heap.size+1+1) w.heap.size r W:=HC.out.below hbW
  have c3:W.cell? ⟨g,k*4+3,none⟩=some (.slice (some ⟨bb,0,none⟩) f.blocks.length cb):=hSh.fn
  have cz:=q9 c3
  have hRq:=(hbW.block _ (qd HR.out)).trans HR.out
  have hfr:=(blk hRq).2
  have hrz:=qd hRq
  have hr0:W.cell? ⟨w.heap.size+1,0,none⟩=some (.bool false):=(blk hRq).1 0
  have hoD:=q8 (hasB_any (w.heap.size+1+1) w.heap.size r f.blocks (some ⟨bb,0,none⟩) cb W (by have:reachBytes=140737488351232:=rfl;omega) (Qc HSr.out hbw) hIs)
  have HT:Hid (tkF r f=f.blocks.any (tkB r)):=q8 (by
   unfold tkF
   rw [xN (t:=fun b:BlkL=>b.list.any (tkI r)) fun m hm=>xN fun j hj=>hno m hm j hj (ZB hm (by rw [zM hm];exact hj))]
   rfl)
  have HRq:=q8 hRq
  have HDl:=q8 hDl
  have HBw:=q8 hbw
  clear hSh hKp hno hDl hbW hIs hRq hbw
  go_wp2_with fail
  refine hoD.out.mono ?_
  rintro e w3 ⟨rfl,hb3⟩
  have hR3:=(hb3.block _ (qd HRq.out)).trans HRq.out
  have hrE:=(blk hR3).2
  have hrF:=qd hR3
  have hrG:w3.cell? ⟨w.heap.size+1,0,none⟩=some (.bool false):=(blk hR3).1 0
  have HR3:=q8 hR3
  have HB3:=q8 hb3
  clear hb3 hR3 hr0 hfr hrz
  rw [←HT.out]
  go_wp2_with fail
  show LeavesInM _ _ _ _ _ _ (QY [D]) .returning _
  have hD3:(w3.setCell ⟨w.heap.size+1,0,none⟩ (.bool (tkF r f))).heap[D]?=some (.deferred (some [])):=by
   rw [Go.Deep.blk_setCell_other _ ⟨w.heap.size+1,0,none⟩ _ _ (by show D≠w.heap.size+1;have:=HZ0.out;have:=HZw.out;omega)]
   exact (HB3.out.block _ (qd HDl.out)).trans HDl.out
  have hB4:Below w.heap.size w (w3.setCell ⟨w.heap.size+1,0,none⟩ (.bool (tkF r f))):=(HBw.out.trans (HB3.out.mono HBw.out.size)).setCell (by show w.heap.size≤w.heap.size+1;omega) _
  have hR4:=qj HR3.out 0 (.bool (tkF r f))
  refine zS W0.heap.size [D] _ (by simp) (fun E hE=>by obtain rfl:E=D:=(by simpa using hE);exact ⟨hD,hD3⟩) (fun w' h1 h2 h3 h4 h5=>?_)
  have hne:∀b,b<W0.heap.size→b∉[D]:=fun b hb h=>by have:=List.mem_singleton.1 h;omega
  have r1:=(h5 (w.heap.size+1) (hne _ (by have:=HZ0.out;have:=HZw.out;omega))).trans hR4
  have q0:w'.cell? ⟨w.heap.size+1,0,none⟩=some (.bool (tkF r f)):=(blk r1).1 0
  refine ⟨.bool (tkF r f),?_,rfl,?_⟩
  ·simp [results,Tryz.results18,go_sem,q0]
  exact ⟨h1.trans hB4.os,h2.trans hB4.tape,h3.trans hB4.output,Nat.le_trans hB4.size h4,fun b hb=>(h5 b (hne b (by have:=HZ0.out;have:=HZw.out;omega))).trans (hB4.block b hb)⟩
 case stop=>
  rintro D cc i W hD hi ⟨rfl,hKp,hcell,m,hm,j,hj,hhu⟩ hDl
  have hT:tkF r f=true:=by
   unfold tkF
   rw [jn (t:=fun b:BlkL=>b.list.any (tkI r)) hm (jn hj hhu)]
   rfl
  have hB4:Below w.heap.size w W:=haa.out.trans (hKp.below haa.out.size fun b e=>by omega)
  gi_wp2
  show LeavesInM _ _ _ _ _ _ (QY [D]) .returning _
  refine zS W0.heap.size [D] _ (by simp) (fun E hE=>by obtain rfl:E=D:=(by simpa using hE);exact ⟨hD,hDl⟩) (fun w' h1 h2 h3 h4 h5=>?_)
  have hne:∀b,b<W0.heap.size→b∉[D]:=fun b hb h=>by have:=List.mem_singleton.1 h;omega
  have q0:w'.cell? ⟨w.heap.size+1,0,none⟩=some (.bool true):=(World.cell?_of_block (a:=⟨w.heap.size+1,0,none⟩) (h5 (w.heap.size+1) (hne _ (by have:=HZ0.out;have:=HZw.out;omega)))).trans hcell
  refine ⟨.bool true,?_,by rw [hT],?_⟩
  ·simp [results,Tryz.results18,go_sem,q0]
  exact ⟨h1.trans hB4.os,h2.trans hB4.tape,h3.trans hB4.output,Nat.le_trans hB4.size h4,fun b hb=>(h5 b (hne b (by have:=HZ0.out;have:=HZw.out;omega))).trans (hB4.block b hb)⟩
end Go.Proofs.YtgjjhadbjmcnpaaGreatDoor
