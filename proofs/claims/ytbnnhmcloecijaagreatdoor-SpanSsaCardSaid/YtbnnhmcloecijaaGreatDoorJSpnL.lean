/-
  The contract of span.Of.
-/
import Derived.Test.YtbnnhmcloecijaaGreatDoorSsaC
import Derived.Test.YtbnnhmcloecijaaGreatDoorJSpnK
set_option maxRecDepth 100000
set_option maxHeartbeats 16000000
namespace Go.Proofs.YtbnnhmcloecijaaGreatDoor
open Go.RowKit Go.Shelf
attribute [local go_sem] Oper.semAt_some

def treeU (f:FunL):Nat→Int:=km (Zt (insN f) (zq f.blocks)) 0 (-1)
theorem VO {bs:List BlkL} {o:List Nat} {ins:Nat→List Nat} (h:OrdOk bs o):∀(k:Nat) (u:Nat→Int),TreeL bs o ins u k→TreeE bs o ins (Zt ins o)
 | 0,_,hL=>by have:=hL.fuel;omega
 | k+1,u,hL=>by
  cases hm:kx (plN o) ins o u o.length
  ·obtain ⟨_,h2,h3⟩:=hL.last h hm
   rw [←h2]
   exact h3
  exact VO h k _ (hL.next h hm)
theorem FunS.treeE {f:FunL} (h:FunS f):TreeE f.blocks (zq f.blocks) (insN f) (Zt (insN f) (zq f.blocks)):=
 VO h.ord _ _ (TreeL.start h.ord (fun b c hb hc=>Vl b c hb hc) h.n1)
theorem FunS.treeU {f:FunL} (h:FunS f):TreeU f.blocks.length (treeU f) (plN (zq f.blocks)):=fun c hc=>by
 have hE:=h.treeE
 obtain ⟨par,hJ⟩:=hE.inv
 unfold Go.Proofs.YtbnnhmcloecijaaGreatDoor.treeU km
 split
 ·omega
 next h0=>
 refine ⟨(hE.bd c).1,(hE.bd c).2,fun hp=>?_⟩
 exact hJ.less c hp h0

def JO (f:FunL):Int:=
 if (vv f.blocks).length<f.blocks.length then 5
 else if (ZC f).2=false then 7
 else if vx (ZC f).1 (treeU f) (plN (zq f.blocks)) f=false then 6
 else 0

theorem KL (f:FunL) (fp:Option Addr) (fc:Nat) (w:World) (hS:FunR' f) (hF:SliceAt w 6 (BlkR w) fp f.blocks) :
  Calls Tryz.prog 21 #[.agg #[.string f.name,.int .i64 f.params,.int .i64 f.regs,.slice fp f.blocks.length fc]] w fun e w'=>e = .returned (.int .i64 (JO f))∧Below w.heap.size w w':=by
 have HF:=q7 hF
 have HS:=q7 hS
 have n1:=hS.n1
 have n40:=hS.n40
 have hhh:=hS.reg
 have hp:=hS.par
 obtain ⟨R,hR⟩:∃R:Nat,f.regs=R:=⟨f.regs.toNat,by omega⟩
 have hRn:f.regs.toNat=R:=by omega
 have hew:R≤100:=by omega
 have HRn:=q7 hRn
 have HRg:=q7 hR
 clear hF hS hRn hR
 obtain ⟨W0,hW0⟩:∃W0,W0=w.alloc (.cells #[.string f.name,.int .i64 f.params,.int .i64 f.regs,.slice fp f.blocks.length fc] 36):=⟨_,rfl⟩
 have hb0:Below w.heap.size w W0:=by rw [hW0];exact bZ
 have hX0:W0.heap[w.heap.size]?=some (.cells #[.string f.name,.int .i64 f.params,.int .i64 f.regs,.slice fp f.blocks.length fc] 36 (0,0)):=by rw [hW0];exact qn w _
 have haE:∀W,Below W0.heap.size W0 W→W.cell? ⟨w.heap.size,0,none⟩=some (.string f.name)∧W.cell? ⟨w.heap.size,1,none⟩=some (.int .i64 f.params)∧W.cell? ⟨w.heap.size,2,none⟩=some (.int .i64 f.regs)∧W.cell? ⟨w.heap.size,3,none⟩=some (.slice fp f.blocks.length fc):=fun W h=>by
  have h2:=(h.block _ (q8 hX0)).trans hX0
  exact ⟨(blk h2).1 0,(blk h2).1 1,(blk h2).1 2,(blk h2).1 3⟩
 have ha8:=q7 haE
 have HX0:=q7 hX0
 have HB0:=q7 hb0
 have HW0:=q7 hW0
 clear haE hX0 hb0 hW0
 go_enter Tryz.func21,Tryz.ntmps21
 go_wp2_with fail
 rw [←HW0.out]
 refine qr (S:=fun w'=>Below W0.heap.size W0 w') (by kernel_rfl) 11 ?_
 refine xO 0 4 (.agg #[.string f.name,.int .i64 f.params,.int .i64 f.regs,.slice fp f.blocks.length fc]) rfl rfl (zK _) (by kernel_rfl) (by kernel_rfl) (by kernel_rfl) (fun _ _ _ h=>h) (xH ⟨by rfl,fun w' h=>?_⟩) (zI _ _).drew ?_
 ·obtain ⟨h1,h2,h3,h4⟩:=ha8.out w' h
  go_simp
 refine xO 1 5 (.agg #[.string f.name,.int .i64 f.params,.int .i64 f.regs,.slice fp f.blocks.length fc]) rfl rfl (zK _) (by kernel_rfl) (by kernel_rfl) (by kernel_rfl) (fun _ _ _ h=>h) (xH ⟨by rfl,fun w' h=>?_⟩) (zI _ _).drew ?_
 ·obtain ⟨h1,h2,h3,h4⟩:=ha8.out w' h
  go_simp
 refine xO 3 7 (.agg #[.int .i64 (-1),.int .i64 (-1)]) rfl rfl (zK _) (by kernel_rfl) (by kernel_rfl) (by kernel_rfl) (fun _ _ _ h=>h) (xH ⟨by rfl,fun w' h=>?_⟩) (zI _ _).drew ?_
 ·obtain ⟨h1,h2,h3,h4⟩:=ha8.out w' h
  go_simp
 refine xO 5 9 (.pointer (some ⟨w.heap.size,2,none⟩)) rfl rfl (zK _) (by kernel_rfl) (by kernel_rfl) (by kernel_rfl) (fun _ _ _ h=>h) (xH ⟨by rfl,fun w' h=>?_⟩) (zI _ _).drew ?_
 ·obtain ⟨h1,h2,h3,h4⟩:=ha8.out w' h
  go_simp
 refine xO 6 10 (.int .i64 f.regs) rfl rfl (zK _) (by kernel_rfl) (by kernel_rfl) (by kernel_rfl) (fun _ _ _ h=>h) (xH ⟨by rfl,fun w' h=>?_⟩) (zI _ _).drew ?_
 ·obtain ⟨h1,h2,h3,h4⟩:=ha8.out w' h
  go_simp
 refine stepZ_2 (i:=2) (j:=4) (by kernel_rfl) ?_ ?_
 ·refine qm 6 rfl rfl rfl (by go_simp) (J5 f fp fc W0.drew HS.out.toFunS (jN HF.out (HB0.out.trans ((zI _ W0).drew.mono HB0.out.size)))) ?_
  rintro e w2 ⟨⟨U,rfl,hUz,hU⟩,hb2⟩
  have hb2':Below W0.heap.size W0 w2:=(zI _ W0).drew.trans hb2
  refine ⟨_,rfl,hb2',?_⟩
  refine qk (i:=4) (by kernel_rfl) (qz 8 (.slice (some ⟨w2.heap.size,0,none⟩) 1 1) (w2.alloc (.cells #[.int .i64 (-1),.int .i64 (-1)] 114)) rfl rfl rfl (by go_simp) (hb2'.alloc hb2'.size _) ?_)
  obtain ⟨Sb,hSb⟩:∃Sb,Sb=w2.heap.size:=⟨_,rfl⟩
  obtain ⟨W5,hW5⟩:∃W5,W5=w2.alloc (.cells #[.int .i64 (-1),.int .i64 (-1)] 114):=⟨_,rfl⟩
  have hcom:W5.rowIs U 3 f.blocks.length (fun c=>.int .i64 (treeU f c))∧W5.cell? ⟨Sb,0,none⟩=some (.int .i64 (-1))∧W5.cell? ⟨Sb,1,none⟩=some (.int .i64 (-1))∧Below W0.heap.size W0 W5:=by
   rw [hW5,hSb]
   exact ⟨hU.alloc _,(blk (qn w2 _)).1 0,(blk (qn w2 _)).1 1,hb2'.alloc hb2'.size _⟩
  rw [←hW5,←hSb]
  clear hW5 hSb hb2 hb2' hU
  obtain ⟨hUr,hS0,hS1,hb5⟩:=hcom
  have hrep:=Vf Sb 0 1 (-1) R W5 (by omega) (fun j hj=>by
   rcases (show j=0∨j=1 by omega) with rfl|rfl
   ·exact hS0
   exact hS1)
  rw [←HRg.out] at hrep
  refine qk (i:=7) (by kernel_rfl) (qm 11 rfl rfl rfl (by go_simp) hrep ?_)
  clear hrep
  rintro e W6 ⟨rfl,hB,hb6⟩
  have haG:Below W0.heap.size W0 W6:=hb5.trans (hb6.mono hb5.size)
  refine ⟨_,rfl,haG,?_⟩
  refine qk (i:=8) (by kernel_rfl) (qz 12 (.agg #[.string f.name,.int .i64 f.params,.int .i64 f.regs,.slice fp f.blocks.length fc,.slice (some ⟨U,0,none⟩) f.blocks.length f.blocks.length,.slice (some ⟨W5.heap.size,0,none⟩) R R]) W6 rfl rfl rfl (by go_simp) haG ?_)
  refine qk (i:=9) (by kernel_rfl) (qz 13 (.pointer (some ⟨W6.heap.size,0,none⟩)) (W6.alloc (.cells #[.string f.name,.int .i64 f.params,.int .i64 f.regs,.slice fp f.blocks.length fc,.slice (some ⟨U,0,none⟩) f.blocks.length f.blocks.length,.slice (some ⟨W5.heap.size,0,none⟩) R R] 116)) rfl rfl rfl (by go_simp) (haG.alloc haG.size _) ?_)
  refine qk (i:=10) (by kernel_rfl) (qz 3 (.pointer (some ⟨W6.heap.size,0,none⟩)) (W6.alloc (.cells #[.string f.name,.int .i64 f.params,.int .i64 f.regs,.slice fp f.blocks.length fc,.slice (some ⟨U,0,none⟩) f.blocks.length f.blocks.length,.slice (some ⟨W5.heap.size,0,none⟩) R R] 116)) rfl rfl rfl (by go_simp) (haG.alloc haG.size _) (qx (by kernel_rfl) ?_ _))
  obtain ⟨Wc,hWc⟩:∃Wc,Wc=W6.alloc (.cells #[.string f.name,.int .i64 f.params,.int .i64 f.regs,.slice fp f.blocks.length fc,.slice (some ⟨U,0,none⟩) f.blocks.length f.blocks.length,.slice (some ⟨W5.heap.size,0,none⟩) R R] 116):=⟨_,rfl⟩
  rw [←hWc]
  have hbc:Below W6.heap.size W6 Wc:=by rw [hWc];exact (zI _ _).alloc (zK _) _
  have hC:Xm Wc W6.heap.size f fp fc U W5.heap.size:=by rw [hWc];unfold Xm;rw [HRn.out];exact qn W6 _
  have hBr:Wc.rowIs W5.heap.size 114 (f.regs.toNat*2) (wrF wr0):=by
   rw [HRn.out]
   refine (hB.of_block (hbc.block _ hB.lt)).congr fun j _=>?_
   unfold wrF wr0
   split<;>rfl
  have hUc:Wc.rowIs U 3 f.blocks.length (fun c=>.int .i64 (treeU f c)):=(hUr.of_block (hb6.block U hUr.lt)).of_block (hbc.block U (by have:=hUr.lt;have:=hb6.size;omega))
  have hhq:Below W0.heap.size W0 Wc:=haG.trans (hbc.mono haG.size)
  have htF:W0.heap.size≤W5.heap.size:=hb5.size
  have htG:W5.heap.size<W6.heap.size:=hB.lt
  have htH:U<W5.heap.size:=hUr.lt
  have HC:=q7 hC
  have HBr:=q7 hBr
  have HUc:=q7 hUc
  have hcT:=q7 hhq
  clear hUr hS0 hS1 hb5 hB hb6 haG hbc hC hBr hUc hhq hWc
  simp only [calm,Exit.then]
  go_simp
  go_wp2_with fail
  have hAc:∀W,Below Wc.heap.size Wc W→_:=fun W h=>ha8.out W (hcT.out.trans (h.mono hcT.out.size))
  have HAc:=q7 hAc
  clear hAc
  refine qr (S:=fun w'=>Below Wc.heap.size Wc w') (by kernel_rfl) 8 ?_
  refine xO 0 15 (.agg #[.string f.name,.int .i64 f.params,.int .i64 f.regs,.slice fp f.blocks.length fc]) rfl rfl (zK _) (by kernel_rfl) (by kernel_rfl) (by kernel_rfl) (fun _ _ _ h=>h) (xH ⟨by rfl,fun w' h=>?_⟩) (zI _ _).drew ?_
  ·obtain ⟨h1,h2,h3,h4⟩:=HAc.out w' h
   go_simp
  refine xO 3 18 (.pointer (some ⟨w.heap.size,3,none⟩)) rfl rfl (zK _) (by kernel_rfl) (by kernel_rfl) (by kernel_rfl) (fun _ _ _ h=>h) (xH ⟨by rfl,fun w' h=>?_⟩) (zI _ _).drew ?_
  ·obtain ⟨h1,h2,h3,h4⟩:=HAc.out w' h
   go_simp
  refine xO 4 19 (.slice fp f.blocks.length fc) rfl rfl (zK _) (by kernel_rfl) (by kernel_rfl) (by kernel_rfl) (fun _ _ _ h=>h) (xH ⟨by rfl,fun w' h=>?_⟩) (zI _ _).drew ?_
  ·obtain ⟨h1,h2,h3,h4⟩:=HAc.out w' h
   go_simp
  refine xO 5 20 (.int .i64 f.blocks.length) rfl rfl (zK _) (by kernel_rfl) (by kernel_rfl) (by kernel_rfl) (fun _ _ _ h=>h) (xH ⟨by rfl,fun w' h=>?_⟩) (zI _ _).drew ?_
  ·obtain ⟨h1,h2,h3,h4⟩:=HAc.out w' h
   go_simp
  refine qk (i:=1) (by kernel_rfl) (qm 16 rfl rfl rfl (by go_simp) (Jq f fp fc Wc.drew n1 (by omega) HS.out.two HS.out.tosB (jN HF.out (HB0.out.trans ((hcT.out.drew).mono HB0.out.size)))) ?_)
  rintro e W7 ⟨vp,rfl,hO,hb7⟩
  obtain ⟨pp,pc,rfl⟩:=xW hO
  have haH:Below Wc.heap.size Wc W7:=(zI _ Wc).drew.trans hb7
  clear hO hb7
  refine ⟨_,rfl,haH,?_⟩
  obtain ⟨L,hL⟩:∃L,L=(vv f.blocks).length:=⟨_,rfl⟩
  rw [←hL]
  have HL:=q7 hL
  clear hL
  refine qk (i:=2) (by kernel_rfl) (qz 17 (.int .i64 (L:Nat)) W7 rfl rfl rfl (by go_simp) haH ?_)
  refine qk (i:=6) (by kernel_rfl) (qz 21 (.bool (decide (L<f.blocks.length))) W7 rfl rfl rfl (by go_simp) haH ?_)
  refine qk (i:=7) (by kernel_rfl) (qz 14 (.bool (decide (L<f.blocks.length))) W7 rfl rfl rfl (by go_simp) haH (qx (by kernel_rfl) ?_ _))
  simp only [calm,Exit.then]
  have hB7:Below w.heap.size w W7:=HB0.out.trans ((hcT.out.trans (haH.mono hcT.out.size)).mono HB0.out.size)
  have hC7:=(haH.block _ (q8 HC.out)).trans HC.out
  have hR7:=HBr.out.of_block (haH.block _ HBr.out.lt)
  have hU7:=HUc.out.of_block (haH.block _ HUc.out.lt)
  have HC7:=q7 (show Xm W7 W6.heap.size f fp fc U W5.heap.size from hC7)
  have HR7:=q7 hR7
  have HU7:=q7 hU7
  have HB7:=q7 hB7
  clear haH hB7 hC7 hR7 hU7
  by_cases hl:L<f.blocks.length
  ·have hE:JO f=5:=by unfold JO;rw [zZ (by rw [←HL.out];exact hl)]
   have HE:=q7 hE
   rw [decide_eq_true hl]
   clear hE hl
   go_simp
   go_wp2_with fail
   go_ret
   exact ⟨by rw [HE.out];rfl,HB7.out⟩
  rw [decide_eq_false hl]
  have HE:=q7 (show JO f=if (ZC f).2=false then 7 else if vx (ZC f).1 (treeU f) (plN (zq f.blocks)) f=false then 6 else 0 from by unfold JO;rw [zQ (by rw [←HL.out];exact hl)])
  clear hl
  go_simp
  go_wp2_with fail
  refine (J4 f fp fc W6.heap.size U W5.heap.size w W7 HS.out HF.out HB7.out (by have:=HB0.out.size;omega) (by omega) HC7.out HR7.out).mono ?_
  rintro e W8 ⟨rfl,hR8,hK8⟩
  have hB8:Below w.heap.size w W8:=HB7.out.trans (hK8.below HB7.out.size fun i hi=>by have:=HB0.out.size;omega)
  have HC8:=q7 (show Xm W8 W6.heap.size f fp fc U W5.heap.size from (hK8.block _ (q8 HC7.out) (by omega)).trans HC7.out)
  have HU8:=q7 (HU7.out.of_block (hK8.block U HU7.out.lt (by omega)))
  have HR8:=q7 hR8
  have HB8:=q7 hB8
  clear hR8 hK8 hB8
  obtain ⟨wf,hwf⟩:∃wf,wf=ZC f:=⟨_,rfl⟩
  have HWo:=q7 (show WrOk f.blocks.length wf.1 from by rw [hwf];exact wrF_ok n1)
  rw [←hwf] at HE HR8 ⊢
  clear hwf
  obtain ⟨wb,ok⟩:=wf
  cases ok with
  | false=>
   go_wp2_with fail
   go_ret
   exact ⟨by rw [HE.out];rfl,HB8.out⟩
  | true=>
   go_wp2_with fail
   refine (YE f fp fc W6.heap.size U W5.heap.size wb (treeU f) (plN (zq f.blocks)) w W8 HS.out HF.out HB8.out HC8.out HR8.out HU8.out HS.out.treeU HWo.out).mono ?_
   rintro e W9 ⟨rfl,hb9⟩
   have HB9:=q7 (HB8.out.trans (hb9.mono HB8.out.size))
   clear hb9
   obtain ⟨r,hr⟩:∃r,r=vx wb (treeU f) (plN (zq f.blocks)) f:=⟨_,rfl⟩
   rw [←hr]
   have HE2:=q7 (show JO f=if r=false then 6 else 0 from by rw [HE.out,hr];rfl)
   clear hr HE
   cases r with
   | false=>
    go_wp2_with fail
    go_ret
    exact ⟨by rw [HE2.out];rfl,HB9.out⟩
   | true=>
    go_wp2_with fail
    go_ret
    exact ⟨by rw [HE2.out];rfl,HB9.out⟩
 refine qz 8 (.slice (some ⟨W0.heap.size,0,none⟩) 1 1) (W0.drew.alloc (.cells #[.int .i64 (-1),.int .i64 (-1)] 114)) rfl rfl rfl (by go_simp) ((zI _ W0).drew.alloc (zK _) _) ?_
 obtain ⟨w2,hw2⟩:∃w2,w2=W0.drew.alloc (.cells #[.int .i64 (-1),.int .i64 (-1)] 114):=⟨_,rfl⟩
 have hb2':Below W0.heap.size W0 w2:=by rw [hw2];exact (zI _ W0).drew.alloc (zK _) _
 have heY:w2.heap[W0.heap.size]?=some (.cells #[.int .i64 (-1),.int .i64 (-1)] 114 (0,0)):=by rw [hw2];exact qn W0.drew _
 rw [←hw2]
 clear hw2
 refine qk (i:=2) (by kernel_rfl) ?_
 refine qm 6 rfl rfl rfl (by go_simp) (J5 f fp fc w2 HS.out.toFunS (jN HF.out (HB0.out.trans (hb2'.mono HB0.out.size)))) ?_
 rintro e W5 ⟨⟨U,rfl,hUz,hU⟩,hb3⟩
 have hkZ:Below W0.heap.size W0 W5:=hb2'.trans (hb3.mono hb2'.size)
 refine ⟨_,rfl,hkZ,?_⟩
 have hcom:W5.rowIs U 3 f.blocks.length (fun c=>.int .i64 (treeU f c))∧W5.cell? ⟨W0.heap.size,0,none⟩=some (.int .i64 (-1))∧W5.cell? ⟨W0.heap.size,1,none⟩=some (.int .i64 (-1))∧Below W0.heap.size W0 W5:=by
  have h2:=(hb3.block _ (q8 heY)).trans heY
  exact ⟨hU,(blk h2).1 0,(blk h2).1 1,hkZ⟩
 clear hb2' hb3 hkZ hU heY
 obtain ⟨hUr,hS0,hS1,hb5⟩:=hcom
 have hrep:=Vf W0.heap.size 0 1 (-1) R W5 (by omega) (fun j hj=>by
  rcases (show j=0∨j=1 by omega) with rfl|rfl
  ·exact hS0
  exact hS1)
 rw [←HRg.out] at hrep
 refine qk (i:=7) (by kernel_rfl) (qm 11 rfl rfl rfl (by go_simp) hrep ?_)
 clear hrep
 rintro e W6 ⟨rfl,hB,hb6⟩
 have haG:Below W0.heap.size W0 W6:=hb5.trans (hb6.mono hb5.size)
 refine ⟨_,rfl,haG,?_⟩
 refine qk (i:=8) (by kernel_rfl) (qz 12 (.agg #[.string f.name,.int .i64 f.params,.int .i64 f.regs,.slice fp f.blocks.length fc,.slice (some ⟨U,0,none⟩) f.blocks.length f.blocks.length,.slice (some ⟨W5.heap.size,0,none⟩) R R]) W6 rfl rfl rfl (by go_simp) haG ?_)
 refine qk (i:=9) (by kernel_rfl) (qz 13 (.pointer (some ⟨W6.heap.size,0,none⟩)) (W6.alloc (.cells #[.string f.name,.int .i64 f.params,.int .i64 f.regs,.slice fp f.blocks.length fc,.slice (some ⟨U,0,none⟩) f.blocks.length f.blocks.length,.slice (some ⟨W5.heap.size,0,none⟩) R R] 116)) rfl rfl rfl (by go_simp) (haG.alloc haG.size _) ?_)
 refine qk (i:=10) (by kernel_rfl) (qz 3 (.pointer (some ⟨W6.heap.size,0,none⟩)) (W6.alloc (.cells #[.string f.name,.int .i64 f.params,.int .i64 f.regs,.slice fp f.blocks.length fc,.slice (some ⟨U,0,none⟩) f.blocks.length f.blocks.length,.slice (some ⟨W5.heap.size,0,none⟩) R R] 116)) rfl rfl rfl (by go_simp) (haG.alloc haG.size _) (qx (by kernel_rfl) ?_ _))
 obtain ⟨Wc,hWc⟩:∃Wc,Wc=W6.alloc (.cells #[.string f.name,.int .i64 f.params,.int .i64 f.regs,.slice fp f.blocks.length fc,.slice (some ⟨U,0,none⟩) f.blocks.length f.blocks.length,.slice (some ⟨W5.heap.size,0,none⟩) R R] 116):=⟨_,rfl⟩
 rw [←hWc]
 have hbc:Below W6.heap.size W6 Wc:=by rw [hWc];exact (zI _ _).alloc (zK _) _
 have hC:Xm Wc W6.heap.size f fp fc U W5.heap.size:=by rw [hWc];unfold Xm;rw [HRn.out];exact qn W6 _
 have hBr:Wc.rowIs W5.heap.size 114 (f.regs.toNat*2) (wrF wr0):=by
  rw [HRn.out]
  refine (hB.of_block (hbc.block _ hB.lt)).congr fun j _=>?_
  unfold wrF wr0
  split<;>rfl
 have hUc:Wc.rowIs U 3 f.blocks.length (fun c=>.int .i64 (treeU f c)):=(hUr.of_block (hb6.block U hUr.lt)).of_block (hbc.block U (by have:=hUr.lt;have:=hb6.size;omega))
 have hhq:Below W0.heap.size W0 Wc:=haG.trans (hbc.mono haG.size)
 have htF:W0.heap.size≤W5.heap.size:=hb5.size
 have htG:W5.heap.size<W6.heap.size:=hB.lt
 have htH:U<W5.heap.size:=hUr.lt
 have HC:=q7 hC
 have HBr:=q7 hBr
 have HUc:=q7 hUc
 have hcT:=q7 hhq
 clear hUr hS0 hS1 hb5 hB hb6 haG hbc hC hBr hUc hhq hWc
 simp only [calm,Exit.then]
 go_simp
 go_wp2_with fail
 have hAc:∀W,Below Wc.heap.size Wc W→_:=fun W h=>ha8.out W (hcT.out.trans (h.mono hcT.out.size))
 have HAc:=q7 hAc
 clear hAc
 refine qr (S:=fun w'=>Below Wc.heap.size Wc w') (by kernel_rfl) 8 ?_
 refine xO 0 15 (.agg #[.string f.name,.int .i64 f.params,.int .i64 f.regs,.slice fp f.blocks.length fc]) rfl rfl (zK _) (by kernel_rfl) (by kernel_rfl) (by kernel_rfl) (fun _ _ _ h=>h) (xH ⟨by rfl,fun w' h=>?_⟩) (zI _ _).drew ?_
 ·obtain ⟨h1,h2,h3,h4⟩:=HAc.out w' h
  go_simp
 refine xO 3 18 (.pointer (some ⟨w.heap.size,3,none⟩)) rfl rfl (zK _) (by kernel_rfl) (by kernel_rfl) (by kernel_rfl) (fun _ _ _ h=>h) (xH ⟨by rfl,fun w' h=>?_⟩) (zI _ _).drew ?_
 ·obtain ⟨h1,h2,h3,h4⟩:=HAc.out w' h
  go_simp
 refine xO 4 19 (.slice fp f.blocks.length fc) rfl rfl (zK _) (by kernel_rfl) (by kernel_rfl) (by kernel_rfl) (fun _ _ _ h=>h) (xH ⟨by rfl,fun w' h=>?_⟩) (zI _ _).drew ?_
 ·obtain ⟨h1,h2,h3,h4⟩:=HAc.out w' h
  go_simp
 refine xO 5 20 (.int .i64 f.blocks.length) rfl rfl (zK _) (by kernel_rfl) (by kernel_rfl) (by kernel_rfl) (fun _ _ _ h=>h) (xH ⟨by rfl,fun w' h=>?_⟩) (zI _ _).drew ?_
 ·obtain ⟨h1,h2,h3,h4⟩:=HAc.out w' h
  go_simp
 refine qk (i:=1) (by kernel_rfl) (qm 16 rfl rfl rfl (by go_simp) (Jq f fp fc Wc.drew n1 (by omega) HS.out.two HS.out.tosB (jN HF.out (HB0.out.trans ((hcT.out.drew).mono HB0.out.size)))) ?_)
 rintro e W7 ⟨vp,rfl,hO,hb7⟩
 obtain ⟨pp,pc,rfl⟩:=xW hO
 have haH:Below Wc.heap.size Wc W7:=(zI _ Wc).drew.trans hb7
 clear hO hb7
 refine ⟨_,rfl,haH,?_⟩
 obtain ⟨L,hL⟩:∃L,L=(vv f.blocks).length:=⟨_,rfl⟩
 rw [←hL]
 have HL:=q7 hL
 clear hL
 refine qk (i:=2) (by kernel_rfl) (qz 17 (.int .i64 (L:Nat)) W7 rfl rfl rfl (by go_simp) haH ?_)
 refine qk (i:=6) (by kernel_rfl) (qz 21 (.bool (decide (L<f.blocks.length))) W7 rfl rfl rfl (by go_simp) haH ?_)
 refine qk (i:=7) (by kernel_rfl) (qz 14 (.bool (decide (L<f.blocks.length))) W7 rfl rfl rfl (by go_simp) haH (qx (by kernel_rfl) ?_ _))
 simp only [calm,Exit.then]
 have hB7:Below w.heap.size w W7:=HB0.out.trans ((hcT.out.trans (haH.mono hcT.out.size)).mono HB0.out.size)
 have hC7:=(haH.block _ (q8 HC.out)).trans HC.out
 have hR7:=HBr.out.of_block (haH.block _ HBr.out.lt)
 have hU7:=HUc.out.of_block (haH.block _ HUc.out.lt)
 have HC7:=q7 (show Xm W7 W6.heap.size f fp fc U W5.heap.size from hC7)
 have HR7:=q7 hR7
 have HU7:=q7 hU7
 have HB7:=q7 hB7
 clear haH hB7 hC7 hR7 hU7
 by_cases hl:L<f.blocks.length
 ·have hE:JO f=5:=by unfold JO;rw [zZ (by rw [←HL.out];exact hl)]
  have HE:=q7 hE
  rw [decide_eq_true hl]
  clear hE hl
  go_simp
  go_wp2_with fail
  go_ret
  exact ⟨by rw [HE.out];rfl,HB7.out⟩
 rw [decide_eq_false hl]
 have HE:=q7 (show JO f=if (ZC f).2=false then 7 else if vx (ZC f).1 (treeU f) (plN (zq f.blocks)) f=false then 6 else 0 from by unfold JO;rw [zQ (by rw [←HL.out];exact hl)])
 clear hl
 go_simp
 go_wp2_with fail
 refine (J4 f fp fc W6.heap.size U W5.heap.size w W7 HS.out HF.out HB7.out (by have:=HB0.out.size;omega) (by omega) HC7.out HR7.out).mono ?_
 rintro e W8 ⟨rfl,hR8,hK8⟩
 have hB8:Below w.heap.size w W8:=HB7.out.trans (hK8.below HB7.out.size fun i hi=>by have:=HB0.out.size;omega)
 have HC8:=q7 (show Xm W8 W6.heap.size f fp fc U W5.heap.size from (hK8.block _ (q8 HC7.out) (by omega)).trans HC7.out)
 have HU8:=q7 (HU7.out.of_block (hK8.block U HU7.out.lt (by omega)))
 have HR8:=q7 hR8
 have HB8:=q7 hB8
 clear hR8 hK8 hB8
 obtain ⟨wf,hwf⟩:∃wf,wf=ZC f:=⟨_,rfl⟩
 have HWo:=q7 (show WrOk f.blocks.length wf.1 from by rw [hwf];exact wrF_ok n1)
 rw [←hwf] at HE HR8 ⊢
 clear hwf
 obtain ⟨wb,ok⟩:=wf
 cases ok with
 | false=>
  go_wp2_with fail
  go_ret
  exact ⟨by rw [HE.out];rfl,HB8.out⟩
 | true=>
  go_wp2_with fail
  refine (YE f fp fc W6.heap.size U W5.heap.size wb (treeU f) (plN (zq f.blocks)) w W8 HS.out HF.out HB8.out HC8.out HR8.out HU8.out HS.out.treeU HWo.out).mono ?_
  rintro e W9 ⟨rfl,hb9⟩
  have HB9:=q7 (HB8.out.trans (hb9.mono HB8.out.size))
  clear hb9
  obtain ⟨r,hr⟩:∃r,r=vx wb (treeU f) (plN (zq f.blocks)) f:=⟨_,rfl⟩
  rw [←hr]
  have HE2:=q7 (show JO f=if r=false then 6 else 0 from by rw [HE.out,hr];rfl)
  clear hr HE
  cases r with
  | false=>
   go_wp2_with fail
   go_ret
   exact ⟨by rw [HE2.out];rfl,HB9.out⟩
  | true=>
   go_wp2_with fail
   go_ret
   exact ⟨by rw [HE2.out];rfl,HB9.out⟩
end Go.Proofs.YtbnnhmcloecijaaGreatDoor
namespace Go.Proofs.YtbnnhmcloecijaaGreatDoor
open Go.RowKit

theorem mainI_lt {xs:List FunL} {m:Nat} (h:Q2 xs=some m):m<xs.length:=by
 unfold Q2 at h
 exact yR.1 (List.mem_of_find?_eq_some h)

end Go.Proofs.YtbnnhmcloecijaaGreatDoor
namespace Go.Proofs.YtbnnhmcloecijaaGreatDoor
open Go.RowKit Go.Shelf

def ssaI (u:UniL) (i:Nat):Int:=match u.funcs[i]? with|some f=>JO f|none=>0
def jU (u:UniL):Int×Int:=if (chk u).1=0 then (match xy u.funcs.length (ssaI u) with|some r=>r|none=>(0,0)) else chk u
theorem KM {u:UniL} {k:Nat} (h:k<u.funcs.length):ssaI u k=JO u.funcs[k]:=by unfold ssaI;rw [zj h]

theorem kK (u:UniL) (gp fp:Option Addr) (gc fc:Nat) (w:World) (hgl:u.globals.length*48≤140737488351232) (hG:SliceAt w 3 (GloR w) gp u.globals) (hfl:u.funcs.length*56≤140737488351232) (hF:SliceAt w 4 (FunR w) fp u.funcs) (hdC:Ways w) :
  Calls Tryz.prog 8 #[.agg #[.slice gp u.globals.length gc,.slice fp u.funcs.length fc]] w fun e w'=>e = .returned (.agg #[.int .i64 (jU u).1,.int .i64 (jU u).2])∧Below w.heap.size w w':=by
 have HG:=q7 hG
 have HF:=q7 hF
 have HW:=q7 hdC
 have hq:∀w,(binOp .neq 27 (.agg #[.int .i64 (chk u).1,.int .i64 (chk u).2]) (.agg #[.int .i64 0,.int .i64 0])).run Tryz.prog w = .ok (.bool (!((chk u).1 == 0&&(chk u).2 == 0))) w:=fun w=>by rw [ju]
 clear hG hF hdC
 by_cases hc:(chk u).1=0
 rotate_left
 ·have hS:jU u=chk u:=by unfold jU;rw [zQ hc]
  have hne:((chk u).1 == 0&&(chk u).2 == 0)=false:=by simp [hc]
  rw [hne] at hq
  have HS:=q7 hS
  rw [hS]
  clear hS hne hc
  go_enter Tryz.func8,Tryz.ntmps8
  go_wp2_with fail
  refine (ZQ u _ _ _ _ _ hgl (vT HG.out bZ) hfl (vU HF.out bZ) (HW.out.below bZ)).mono ?_
  rintro e w1 ⟨rfl,hb1⟩
  have HB1:Hid (Below w.heap.size w w1):=yo bZ (hb1.mono (by simp;omega))
  have hR:=qj hb1 (k:=w.heap.size+1) (by simp) (qh (w:=w.alloc (.cells #[.slice gp u.globals.length gc,.slice fp u.funcs.length fc] 25)) (o:=.cells #[.int .i64 0,.int .i64 0] 27) (by simp))
  obtain ⟨hcc,hcf⟩:=blk hR
  have z1:=q8 hR
  have z11:w.heap.size+1<w1.heap.size+1:=by omega
  clear hb1
  go_wp2_with fail
  refine zk (v:=.agg #[.int .i64 (chk u).1,.int .i64 (chk u).2]) ?_ rfl ⟨rfl,?_⟩
  ·simp [results,Tryz.results8,go_sem, *]
  exact bZ
 obtain ⟨h00,hok⟩:=XF hc
 have h2:(chk u).2=0:=by rw [h00]
 have hSu:jU u=(match xy u.funcs.length (ssaI u) with|some r=>r|none=>(0,0)):=by unfold jU;rw [zZ hc]
 have hq':∀w,(binOp .neq 27 (.agg #[.int .i64 (chk u).1,.int .i64 (chk u).2]) (.agg #[.int .i64 0,.int .i64 0])).run Tryz.prog w = .ok (.bool false) w:=fun w=>by rw [ju,hc,h2];rfl
 have hnf:=hok.nf
 have HOk:=q7 hok
 have HSu:=q7 hSu
 clear h00 hok hSu hc h2 hq
 go_enter Tryz.func8,Tryz.ntmps8
 go_wp2_with fail
 refine (ZQ u _ _ _ _ _ hgl (vT HG.out bZ) hfl (vU HF.out bZ) (HW.out.below bZ)).mono ?_
 rintro e w1 ⟨rfl,hb1⟩
 have HB1:Hid (Below w.heap.size w w1):=yo bZ (hb1.mono (by simp;omega))
 have hR:=qj hb1 (k:=w.heap.size+1) (by simp) (qh (w:=w.alloc (.cells #[.slice gp u.globals.length gc,.slice fp u.funcs.length fc] 25)) (o:=.cells #[.int .i64 0,.int .i64 0] 27) (by simp))
 have hU:=qj hb1 (k:=w.heap.size) (by simp;omega) (qg (qh (w:=w) (o:=.cells #[.slice gp u.globals.length gc,.slice fp u.funcs.length fc] 25) rfl))
 have u1:w1.cell? ⟨w.heap.size,1,none⟩=some (.slice fp u.funcs.length fc):=(blk hU).1 1
 have zu:=q8 hU
 have HR:=q7 hR
 have z1:=q8 hR
 clear hb1 hR hU
 go_wp2_with fail
 clear u1 hq'
 obtain ⟨W2,hW2⟩:∃W2,W2=w1.alloc (.cells #[.int .i64 (chk u).1,.int .i64 (chk u).2] 27):=⟨_,rfl⟩
 rw [←hW2]
 have HB2:Hid (Below w.heap.size w W2):=q7 (by rw [hW2];exact HB1.out.alloc HB1.out.size _)
 have HR2:Hid (W2.heap[w.heap.size+1]?=some (.cells #[.int .i64 0,.int .i64 0] 27 (0,0))):=q7 (by rw [hW2];exact qg HR.out)
 clear hW2 HR
 go_loopg [16] u.funcs.length (fun q s16 wr=>∃k:Nat,k≤u.funcs.length∧q=u.funcs.length - k∧s16 = .int .i64 k∧(∀i,i<k→ssaI u i=0)∧Below W2.heap.size W2 wr)
 case atStart=>exact ⟨0,by omega,rfl,rfl,(fun i h=>by omega),zI _ _⟩
 case round=>
  obtain ⟨k,hk,rfl,rfl,hz,hb⟩:=hrel
  have HZ:=q7 hz
  have HB:=q7 hb
  have hBw:Below w.heap.size w wr:=HB2.out.trans (hb.mono HB2.out.size)
  have HBw:=q7 hBw
  have hRr:=(hb.block _ (q8 HR2.out)).trans HR2.out
  have HRr:=q7 hRr
  obtain ⟨hcc,hcf⟩:=blk hRr
  have zr:=q8 hRr
  clear hz hb hBw hRr
  by_cases hlt:k<u.funcs.length
  rotate_left
  ·obtain rfl:k=u.funcs.length:=by omega
   have HU:=q7 (show jU u=(0,0) from by rw [HSu.out,zi HZ.out])
   go_wp2_with fail
   refine zk (v:=.agg #[.int .i64 (jU u).1,.int .i64 (jU u).2]) ?_ rfl ⟨rfl,?_⟩
   ·rw [HU.out]
    simp [results,Tryz.results8,go_sem, *]
   have:=HBw.out.size
   repeat (first|with_reducible exact HBw.out|with_reducible refine Below.setCell ?_ ?_ _|with_reducible refine Below.alloc ?_ ?_ _|omega|(simp;omega)|simp)
  obtain ⟨b2,o2,q,c,hp,e0,e1,e2,e3,_,_,_,hbl,hbs⟩:=Ze HF.out HBw.out hlt
  subst hp
  have hb2:=qd e0
  have hR':=HOk.out.funR hlt
  have hI:=KM hlt
  obtain ⟨W3,hW3⟩:∃W3,W3=wr.alloc (.cells #[.string u.funcs[k].name,.int .i64 u.funcs[k].params,.int .i64 u.funcs[k].regs,.slice q u.funcs[k].blocks.length c] 36):=⟨_,rfl⟩
  have hp8:Below wr.heap.size wr W3:=by rw [hW3];exact bZ
  have hCk:=KL u.funcs[k] q c W3 hR' (jN hbs hp8)
  rw [←hI] at hCk
  rw [hW3] at hCk
  generalize u.funcs[k]=f at *
  have HCk:=q7 hCk
  have HI:=q7 hI
  clear hCk hI hp8 hbs hR' hW3
  go_wp2_with fail
  refine HCk.out.mono ?_
  rintro e w4 ⟨rfl,hb4⟩
  have hdB:Below wr.heap.size wr w4:=yo bZ (hb4.mono (by simp))
  have hR4:=(hdB.block _ (q8 HRr.out)).trans HRr.out
  obtain ⟨hvx,hvz⟩:=blk hR4
  have zr4:=q8 hR4
  have HB4:=q7 (HBw.out.trans (hdB.mono HBw.out.size))
  have htI:=q7 (HB.out.trans (hdB.mono HB.out.size))
  clear hb4 hdB hR4
  obtain ⟨r,hr⟩:∃r,r=ssaI u k:=⟨_,rfl⟩
  rw [←hr]
  have HRk:=q7 hr
  clear hr
  by_cases h0:r=0
  ·subst h0
   go_wp2_with fail
   go_roundg (u.funcs.length - (k+1))
   case measure=>omega
   case rel=>exact ⟨k+1,by omega,rfl,by go_num,(fun i hi=>by
    rcases yq i k with g|g
    ·exact HZ.out i g
    obtain rfl:i=k:=by omega
    exact HRk.out.symm),htI.out⟩
  have HU:=q7 (show jU u=(r,(k:Int)) from by
   rw [HSu.out,vW hlt HZ.out (by rw [←HRk.out];exact h0),←HRk.out])
  go_wp2_with (go_at_call 22;refine (j9 _ _ _).mono ?_;rintro e w5 ⟨rfl,rfl⟩)
  refine zk (v:=.agg #[.int .i64 (jU u).1,.int .i64 (jU u).2]) ?_ rfl ⟨rfl,?_⟩
  ·rw [HU.out]
   simp [results,Tryz.results8,go_sem, *]
  have:=HB4.out.size
  repeat (first|with_reducible exact HB4.out|with_reducible refine Below.setCell ?_ ?_ _|with_reducible refine Below.alloc ?_ ?_ _|omega|(simp;omega)|simp)

def okU (u:UniL):Bool:=(jU u).1 == 0&&(jU u).2 == 0
theorem okU_chk {u:UniL} (h:okU u=true):ChkOk u:=by
 by_cases hc:(chk u).1=0
 ·exact (XF hc).2
 exfalso
 unfold okU at h
 rw [show jU u=chk u from by unfold jU;rw [zQ hc]] at h
 simp [hc] at h
end Go.Proofs.YtbnnhmcloecijaaGreatDoor
