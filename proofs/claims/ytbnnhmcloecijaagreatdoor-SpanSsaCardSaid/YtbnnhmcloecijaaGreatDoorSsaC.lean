/-
  The contract of ssa's uses.
-/
import Derived.Test.YtbnnhmcloecijaaGreatDoorRegA
import Derived.Test.YtbnnhmcloecijaaGreatDoorJSsaV
import Derived.Test.YtbnnhmcloecijaaGreatDoorDomT
set_option maxRecDepth 100000
set_option maxHeartbeats 16000000
namespace Go.Proofs.YtbnnhmcloecijaaGreatDoor
open Go.RowKit Go.Shelf
attribute [local go_sem] Oper.semAt_some

def AheadAt (W:World) (T:Nat) (f:FunL):Prop:=∀c,c<f.blocks.length→∃q qc,W.cell? ⟨T,c,none⟩=some (.slice q (insN f c).length qc)∧∀j (h:j<(insN f c).length),∃b,q=some ⟨b,0,none⟩∧W.cell? ⟨b,j,none⟩=some (.int .i64 ((insN f c)[j]:Nat))
theorem ahead_at {f:FunL} {W w:World} {T:Nat} {tf:Nat→Value} (h:Rows2 W (T+1) T f.blocks.length 41 3 (qQ (Qh f) f.blocks.length) tf) (_:w=w):AheadAt W T f:=fun c hc=>by
 have h1:=h.row c hc
 have h2:=h.tab.cell hc
 obtain ⟨q,qc,hq⟩:=xW h1
 refine ⟨q,qc,by rw [h2,hq];rfl,fun j hj=>?_⟩
 rw [hq] at h1
 obtain ⟨b,e1,_,_,e4⟩:=jO h1 hj
 refine ⟨b,e1,?_⟩
 rw [e4]
 have hj2:j<(qU (qQ (Qh f) f.blocks.length) c).length:=hj
 simp [hj2]
 rfl
theorem AheadAt.kc {W W':World} {T:Nat} {f:FunL} (h:AheadAt W T f) (k:KC W W'):AheadAt W' T f:=fun c hc=>by
 obtain ⟨q,qc,h1,h2⟩:=h c hc
 exact ⟨q,qc,k _ _ _ h1,fun j hj=>by
  obtain ⟨b,e1,e2⟩:=h2 j hj
  exact ⟨b,e1,k _ _ _ e2⟩⟩

theorem VN {w:World} {b:Nat} {v:Value} {t:TypeId} (h:w.heap[b]?=some (.cells #[v] t (0,0))):w.setCell ⟨b,0,none⟩ v=w:=by
 have e:w.setCell ⟨b,0,none⟩ v={ w with heap:=w.heap.modify b fun|.cells cs t fr=>.cells (cs.setIfInBounds 0 v) t fr|o=>o }:=by
  unfold World.setCell;rfl
 rw [e]
 cases w with
 | mk heap tape drawn os output=>
  congr 1
  apply Array.ext
  ·simp
  intro i h1 h2
  rw [Array.getElem_modify]
  by_cases hi:b=i
  ·subst hi
   have:heap[b] = .cells #[v] t (0,0):=(yL.1 h).2
   simp [this]
  rw [zQ hi]
theorem own_bel {β:Type} {W7:World} {P:β→Prop}:OwnFrom W7.heap.size (fun (s:β) W'=>Below W7.heap.size W7 W'∧P s):=fun _ _ _ _ ⟨h,p⟩ hg hr=>⟨h.grown hg h.size (fun k e=>(hr k e).1),p⟩
theorem Qq {B:Nat} {W W':World} (h:Below W.heap.size W W'):KeepsFrom B W W':=⟨h.size,fun k _ _ hk _=>(h.block k (yL.1 hk).1).trans hk⟩

theorem YE (f:FunL) (fp:Option Addr) (fc C U B:Nat) (wb:Nat→Int×Int) (u:Nat→Int) (pl:Nat→Nat) (w0 w:World) (hS:FunR' f) (hF:SliceAt w0 6 (BlkR w0) fp f.blocks) (h0:Below w0.heap.size w0 w)
  (hbG:Xm w C f fp fc U B) (hR:w.rowIs B 114 (f.regs.toNat*2) (wrF wb)) (hU:w.rowIs U 3 f.blocks.length (fun j=>.int .i64 (u j))) (hT:TreeU f.blocks.length u pl) (hwb:WrOk f.blocks.length wb) :
  Calls Tryz.prog 57 #[.pointer (some ⟨C,0,none⟩)] w fun e w'=>e = .returned (.bool (vx wb u pl f))∧Below w.heap.size w w':=by
 obtain ⟨bb,bo,rfl,_⟩:=Zq hF hS.n1 (zI _ _)
 have HF:=q7 hF
 have HS:=q7 hS
 have n1:=hS.n1
 have n40:=hS.n40
 have hhh:=hS.reg
 have hew:f.regs.toNat≤100:=by omega
 have hzC:=q8 hbG
 have h00:=h0.size
 -- what the call reads, in each world behind
 have hRd:∀W,Below w.heap.size w W→Below w0.heap.size w0 W∧Xm W C f (some ⟨bb,bo,none⟩) fc U B∧W.rowIs B 114 (f.regs.toNat*2) (wrF wb)∧W.rowIs U 3 f.blocks.length (fun j=>.int .i64 (u j)):=fun W h=>
  ⟨h0.trans (h.mono h00),(h.block C hzC).trans hbG,hR.of_block (h.block B hR.lt),hU.of_block (h.block U hU.lt)⟩
 have HRd:=q7 hRd
 have HT:=q7 hT
 have HWb:=q7 hwb
 have hbx:=(blk hbG).1
 have x0:w.cell? ⟨C,0,none⟩=some (.string f.name):=hbx 0
 have x1:w.cell? ⟨C,1,none⟩=some (.int .i64 f.params):=hbx 1
 have x2:w.cell? ⟨C,2,none⟩=some (.int .i64 f.regs):=hbx 2
 have x3:w.cell? ⟨C,3,none⟩=some (.slice (some ⟨bb,bo,none⟩) f.blocks.length fc):=hbx 3
 clear hF hS hbG hR hU h0 hRd hT hwb hbx
 refine (callsIn_wide (n:=3)).1 ?_
 refine callsIn_of_wp_marks Tryz.func57 rfl trivial ?_ rfl
 simp only [Tryz.ntmps57,List.size_toArray,yi,List.length_nil,Nat.reduceAdd,Nat.reduceSub,Array.replicate_succ,Array.replicate_zero,List.push_toArray,List.append_toArray,List.nil_append,List.cons_append]
 obtain ⟨W1,hW1⟩:∃W1,W1=(w.alloc (.cells #[.pointer (some ⟨C,0,none⟩)] 109)).alloc (.cells #[.bool false] 4):=⟨_,rfl⟩
 have hz1:W1.heap.size=w.heap.size+1+1:=by rw [hW1];simp
 have hb1:Below w.heap.size w W1:=by rw [hW1];exact bZ
 have hG:=j7 f.name f.params f.regs bb bo fc f.blocks.length (Qh f) W1 n40 (fun i hi=>Qw HF.out (HRd.out _ hb1).1 i hi) HS.out.toFunS.tosD
 have hX1:W1.heap[w.heap.size]?=some (.cells #[.pointer (some ⟨C,0,none⟩)] 109 (0,0)):=by rw [hW1];exact qg (qn w _)
 have hX2:W1.heap[w.heap.size+1]?=some (.cells #[.bool false] 4 (0,0)):=by rw [hW1];exact qh (by simp)
 have HG:=q7 hG
 have HX1:=q7 hX1
 have HX2:=q7 hX2
 have HB1:=q7 hb1
 have HW1:=q7 hW1
 clear hG hX1 hX2 hb1 hW1
 gi_wp2_with fail
 refine ⟨trivial,?_⟩
 rw [←HW1.out]
 refine ((callsIn_wide (n:=2)).2 HG.out).mono ?_
 rintro e W0 ⟨⟨tf,rfl,haa⟩,hb2⟩
 rw [hz1] at haa hb2 ⊢
 have HAh:=q7 (ahead_at (w:=w) haa rfl)
 have hTz:w.heap.size+1+1+1<W0.heap.size:=haa.tab.lt
 have HB0:Hid (Below w.heap.size w W0):=q7 (HB1.out.trans (hb2.mono (by omega)))
 have hoV:=q7 (qj hb2 (k:=w.heap.size) (by omega) HX1.out)
 have htu:=q7 (qj hb2 (k:=w.heap.size+1) (by omega) HX2.out)
 -- how the call ends, wherever
 have hkO:Hid (∀(ts:Array Value) (Ds:List Nat) (W:World) (b:Bool),ts.getD 2 undef = .pointer (some ⟨w.heap.size+1,0,none⟩)→Ds.Nodup→(∀D∈Ds,W0.heap.size≤D∧W.heap[D]?=some (.deferred (some [])))→W.cell? ⟨w.heap.size+1,0,none⟩=some (.bool b)→Below w.heap.size w W→b=vx wb u pl f→
   LeavesInM Fence.wide 3 Tryz.prog Tryz.f57 ts (fun e w'=>e = .returned (.bool (vx wb u pl f))∧Below w.heap.size w w') (Vh Ds) .returning W):=q7 fun ts Ds W b ht hN hD hc hB hb=>by
  refine vk W0.heap.size Ds W hN hD (fun w' h1 h2 h3 h4 h5=>?_)
  have hnD:w.heap.size+1∉Ds:=fun h=>by have:=(hD _ h).1;omega
  have hc':w'.cell? ⟨w.heap.size+1,0,none⟩=some (.bool b):=(zN (h5 _ hnD)).trans hc
  refine ⟨.bool b,?_,by rw [hb],?_⟩
  ·have ht2:ts[2]?.getD undef = .pointer (some ⟨w.heap.size+1,0,none⟩):=by simpa using ht
   simp [results,Tryz.results57,go_sem,ht2,hc']
  exact ⟨h1.trans hB.os,h2.trans hB.tape,h3.trans hB.output,yv hB.size h4,fun k hk=>(h5 k (fun h=>by have:=(hD k h).1;omega)).trans (hB.block k hk)⟩
 have HNo:Hid (∀(ts:Array Value) (Ds:List Nat) (W:World),Below w.heap.size w W→W.heap[w.heap.size+1]?=some (.cells #[.bool false] 4 (0,0))→Ds.Nodup→(∀D∈Ds,W0.heap.size≤D∧W.heap[D]?=some (.deferred (some [])))→vx wb u pl f=false→ts.getD 2 undef = .pointer (some ⟨w.heap.size+1,0,none⟩)→
   LeavesInM Fence.wide 3 Tryz.prog Tryz.f57 ts (fun e w'=>e = .returned (.bool (vx wb u pl f))∧Below w.heap.size w w') (Vh Ds) .returning (W.setCell ⟨w.heap.size+1,0,none⟩ (.bool false))):=q7 fun ts Ds W hB hX hN hD hf ht=>by
  refine hkO.out ts Ds _ false ht hN (fun D h=>⟨(hD D h).1,(zJ _ _ _ _ (by have:=(hD D h).1;show D≠w.heap.size+1;omega)).trans (hD D h).2⟩) ?_ (hB.setCell (by show w.heap.size≤w.heap.size+1;omega) _) hf.symm
  have:=qV hX 0 (.bool false)
  exact (blk this).1 0
 clear haa hb2 HX1 HX2 HG HW1 HB1 hz1
 have y1:W0.cell? ⟨w.heap.size,0,none⟩=some (.pointer (some ⟨C,0,none⟩)):=(blk hoV.out).1 0
 have y3:W0.cell? ⟨C,3,none⟩=some (.slice (some ⟨bb,bo,none⟩) f.blocks.length fc):=(blk (HRd.out _ HB0.out).2.1).1 3
 clear x0 x1 x2 x3
 gi_wp2
 clear y1 y3
 refine wpIn_loop (fun a' w'=>∃(k:Nat) (Ds:List Nat),(k≤f.blocks.length∧Ds.Nodup∧(∀D∈Ds,W0.heap.size≤D∧w'.heap[D]?=some (.deferred (some [])))∧(∀e∈z8 (kE f) 0 (f.blocks.take k),knE wb u pl e=true)∧Below W0.heap.size W0 w')∧a'.defers=Vh Ds∧a'.tmps.size=98∧a'.tmps.getD 1 undef = .pointer (some ⟨w.heap.size,0,none⟩)∧a'.tmps.getD 2 undef = .pointer (some ⟨w.heap.size+1,0,none⟩)∧a'.tmps.getD 3 undef = .slice (some ⟨w.heap.size+1+1+1,0,none⟩) f.blocks.length f.blocks.length∧a'.tmps.getD 23 undef = .slice (some ⟨bb,bo,none⟩) f.blocks.length fc∧a'.tmps.getD 24 undef = .int .i64 f.blocks.length∧a'.tmps.getD 25 undef = .int .i64 k) (fun a' _=>f.blocks.length - (intOf (a'.tmps.getD 25 undef)).toNat) ?start ?round
 case start=>
  exact ⟨0,[],⟨Nat.zero_le _,List.nodup_nil,(fun D h=>by cases h),(fun e h=>by simp [z8] at h),zI _ _⟩,rfl,rfl,rfl,rfl,rfl,rfl,rfl,rfl⟩
 case round=>
  rintro ⟨ts,ds⟩ wr ⟨k,Ds,⟨hk,hN,hD,hA,hb⟩,hdf,hfs,hf1,hf2,hf3,heB,heC,heD⟩
  simp only at hdf hfs hf1 hf2 hf3 heB heC heD
  subst hdf
  obtain ⟨us,hus⟩:∃us:Nat→Value,us=fun i=>ts.getD i undef:=⟨_,rfl⟩
  have hts:ts=#[us 0,.pointer (some ⟨w.heap.size,0,none⟩),.pointer (some ⟨w.heap.size+1,0,none⟩),.slice (some ⟨w.heap.size+1+1+1,0,none⟩) f.blocks.length f.blocks.length,us 4,us 5,us 6,us 7,us 8,us 9,us 10,us 11,us 12,us 13,us 14,us 15,us 16,us 17,us 18,us 19,us 20,us 21,us 22,.slice (some ⟨bb,bo,none⟩) f.blocks.length fc,.int .i64 f.blocks.length,.int .i64 k,us 26,us 27,us 28,us 29,us 30,us 31,us 32,us 33,us 34,us 35,us 36,us 37,us 38,us 39,us 40,us 41,us 42,us 43,us 44,us 45,us 46,us 47,us 48,us 49,us 50,us 51,us 52,us 53,us 54,us 55,us 56,us 57,us 58,us 59,us 60,us 61,us 62,us 63,us 64,us 65,us 66,us 67,us 68,us 69,us 70,us 71,us 72,us 73,us 74,us 75,us 76,us 77,us 78,us 79,us 80,us 81,us 82,us 83,us 84,us 85,us 86,us 87,us 88,us 89,us 90,us 91,us 92,us 93,us 94,us 95,us 96,us 97]:=by
   have hfr:=QS hfs
   rw [←hus] at hfr
   have h1:us 1 = .pointer (some ⟨w.heap.size,0,none⟩):=by rw [hus];exact hf1
   have h2:us 2 = .pointer (some ⟨w.heap.size+1,0,none⟩):=by rw [hus];exact hf2
   have h3:us 3 = .slice (some ⟨w.heap.size+1+1+1,0,none⟩) f.blocks.length f.blocks.length:=by rw [hus];exact hf3
   have h23:us 23 = .slice (some ⟨bb,bo,none⟩) f.blocks.length fc:=by rw [hus];exact heB
   have h24:us 24 = .int .i64 f.blocks.length:=by rw [hus];exact heC
   have h25:us 25 = .int .i64 k:=by rw [hus];exact heD
   refine hfr.trans ?_
   show #[us 0,us 1,us 2,us 3,us 4,us 5,us 6,us 7,us 8,us 9,us 10,us 11,us 12,us 13,us 14,us 15,us 16,us 17,us 18,us 19,us 20,us 21,us 22,us 23,us 24,us 25,us 26,us 27,us 28,us 29,us 30,us 31,us 32,us 33,us 34,us 35,us 36,us 37,us 38,us 39,us 40,us 41,us 42,us 43,us 44,us 45,us 46,us 47,us 48,us 49,us 50,us 51,us 52,us 53,us 54,us 55,us 56,us 57,us 58,us 59,us 60,us 61,us 62,us 63,us 64,us 65,us 66,us 67,us 68,us 69,us 70,us 71,us 72,us 73,us 74,us 75,us 76,us 77,us 78,us 79,us 80,us 81,us 82,us 83,us 84,us 85,us 86,us 87,us 88,us 89,us 90,us 91,us 92,us 93,us 94,us 95,us 96,us 97]=_
   rw [h1,h2,h3,h23,h24,h25]
  clear hus hfs hf1 hf2 hf3 heB heC heD
  subst hts
  have HN:=q7 hN
  have HD:=q7 hD
  have HA:=q7 hA
  have HB:=q7 hb
  have hzr:=hb.size
  have hBw:Below w.heap.size w wr:=HB0.out.trans (hb.mono HB0.out.size)
  have HBw:=q7 hBw
  have hY1:=(hb.block w.heap.size (by omega)).trans hoV.out
  have hY2:=(hb.block (w.heap.size+1) (by omega)).trans htu.out
  have y1:wr.cell? ⟨w.heap.size,0,none⟩=some (.pointer (some ⟨C,0,none⟩)):=(blk hY1).1 0
  have y2:wr.cell? ⟨w.heap.size+1,0,none⟩=some (.bool false):=(blk hY2).1 0
  have y2f:=(blk hY2).2
  have zY1:=q8 hY1
  have zY2:=q8 hY2
  have HY1:=q7 hY1
  have HY2:=q7 hY2
  clear hN hD hA hb hBw hY1 hY2
  by_cases hlt:k<f.blocks.length
  rotate_left
  ·obtain rfl:k=f.blocks.length:=by omega
   gi_wp2
   refine hkO.out _ Ds _ true rfl HN.out (fun D h=>⟨(HD.out D h).1,(zJ _ _ _ _ (by have:=(HD.out D h).1;show D≠w.heap.size+1;omega)).trans (HD.out D h).2⟩) ?_ (HBw.out.setCell (by show w.heap.size≤w.heap.size+1;omega) _) ?_
   ·have:=qV HY2.out 0 (.bool true)
    exact (blk this).1 0
   have h:=HA.out
   rw [yP] at h
   exact (XP h).symm
  obtain ⟨b3,o3,q1,c1,q2,c2,q3,c3,hp,d0,d1,d2,d3,d4,d5,_,_,hl1,hl2,_,hs1,hs2,_⟩:=ke HF.out (zI _ _) hlt
  cases hp
  have g:∀o v,w0.cell? ⟨bb,o,none⟩=some v→wr.cell? ⟨bb,o,none⟩=some v:=fun o v h=>((HRd.out _ HBw.out).1.cell (p:=⟨bb,o,none⟩) (qd h)).trans h
  replace d0:=g _ _ d0
  replace d1:=g _ _ d1
  replace d2:=g _ _ d2
  replace d3:=g _ _ d3
  replace d4:=g _ _ d4
  replace d5:=g _ _ d5
  have hoW:∀a (h:a<f.blocks.length),∃q c,w0.cell? ⟨bb,bo+a*6+1,none⟩=some (.slice q f.blocks[a].list.length c)∧f.blocks[a].list.length*80≤140737488351232:=fun a ha=>by
   obtain ⟨b3',o3',_,_,q2',c2',_,_,hp',_,e1,_,_,_,_,_,_,_,htv,_⟩:=ke HF.out (zI _ _) ha
   cases hp'
   exact ⟨q2',c2',e1,htv⟩
  have htw:=q7 hoW
  have haL:=HS.out.phi k hlt
  have hins:=HS.out.ins k hlt
  have hon:=HS.out.on k hlt
  have hmem:=fun e (h:e∈kE f k f.blocks[k])=>kT hlt h
  have hnext:(∀e∈kE f k f.blocks[k],knE wb u pl e=true)→∀e∈z8 (kE f) 0 (f.blocks.take (k+1)),knE wb u pl e=true:=Ju hlt HA.out
  generalize f.blocks[k]=bm at *
  have hgU:=q7 (show ∀j (h:j<bm.phis.length),PhiOk f k bm.phis[j] from fun j h=>haL _ (zP h))
  have hkJ:=q7 (show ∀j (h:j<bm.list.length),_ from fun j h=>hins _ (zP h))
  have HOn:=q7 hon
  have heW:=q7 hmem
  have hkP:=q7 hnext
  have HS1:=q7 hs1
  have HS2:=q7 hs2
  clear g hoW haL hins hon hmem hnext hs1 hs2
  gi_wp2
  obtain ⟨Wb,hWb⟩:∃Wb,Wb=(wr.alloc (.cells #[.int .i64 k] 3)).alloc (.cells #[.slice q1 bm.phis.length c1,.slice q2 bm.list.length c2,.int .i64 bm.fin.kind,.bool bm.fin.onr,.int .i64 bm.fin.onn,.slice q3 bm.fin.to.length c3] 45):=⟨_,rfl⟩
  rw [←hWb]
  have hbb:Below wr.heap.size wr Wb:=by rw [hWb];exact bZ
  have hzb:Wb.heap.size=wr.heap.size+1+1:=by rw [hWb];simp
  have hK1:Wb.heap[wr.heap.size]?=some (.cells #[.int .i64 k] 3 (0,0)):=by rw [hWb];exact qg (qn wr _)
  have hK2:Wb.heap[wr.heap.size+1]?=some (.cells #[.slice q1 bm.phis.length c1,.slice q2 bm.list.length c2,.int .i64 bm.fin.kind,.bool bm.fin.onr,.int .i64 bm.fin.onn,.slice q3 bm.fin.to.length c3] 45 (0,0)):=by rw [hWb];exact qh (by simp)
  have HBb:=q7 hbb
  have HZb:=q7 hzb
  have HK1:=q7 hK1
  have HK2:=q7 hK2
  -- what is read behind, in each world
  have hoX:∀W,Below Wb.heap.size Wb W→Below w.heap.size w W∧W.cell? ⟨w.heap.size,0,none⟩=some (.pointer (some ⟨C,0,none⟩))∧W.heap[w.heap.size+1]?=some (.cells #[.bool false] 4 (0,0))∧W.heap[wr.heap.size]?=some (.cells #[.int .i64 k] 3 (0,0))∧W.heap[wr.heap.size+1]?=some (.cells #[.slice q1 bm.phis.length c1,.slice q2 bm.list.length c2,.int .i64 bm.fin.kind,.bool bm.fin.onr,.int .i64 bm.fin.onn,.slice q3 bm.fin.to.length c3] 45 (0,0))∧AheadAt W (w.heap.size+1+1+1) f∧(∀D∈Ds,W0.heap.size≤D∧W.heap[D]?=some (.deferred (some [])))∧Below W0.heap.size W0 W:=fun W h=>by
   have hr:=HBb.out.trans (h.mono HBb.out.size)
   refine ⟨HBw.out.trans (hr.mono HBw.out.size),(hr.cell (p:=⟨w.heap.size,0,none⟩) zY1).trans ((blk HY1.out).1 0),(hr.block _ zY2).trans HY2.out,(h.block _ (q8 HK1.out)).trans HK1.out,(h.block _ (q8 HK2.out)).trans HK2.out,HAh.out.kc (KC.below (HB.out.trans (hr.mono HB.out.size))),fun D hD=>⟨(HD.out D hD).1,(hr.block D (q8 (HD.out D hD).2)).trans (HD.out D hD).2⟩,HB.out.trans (hr.mono HB.out.size)⟩
  have hdA:=q7 hoX
  clear hWb hbb hzb hK1 hK2 hoX d0 d1 d2 d3 d4 d5 y1 y2 y2f
  refine wpIn_wide.2 ?_
  obtain ⟨wo,rfl⟩:∃wo:World,wo=wr:=⟨_,rfl⟩
  go_loopg [33] bm.phis.length (fun q s33 wr=>∃j:Nat,j≤bm.phis.length∧q=bm.phis.length - j∧s33 = .int .i64 j∧(∀e∈(bm.phis.take j).flatMap (Zl f k),knE wb u pl e=true)∧Below Wb.heap.size Wb wr)
  case atStart=>exact ⟨0,by omega,rfl,rfl,(fun e h=>by simp at h),zI _ _⟩
  case round=>
   obtain ⟨j,hj,rfl,rfl,hA,hb⟩:=hrel
   have HA1:=q7 hA
   have HB1:=q7 hb
   clear hA hb
   by_cases hjl:j<bm.phis.length
   ·obtain ⟨pb,po,qs,cs,hpp,e0,e1,_,hls,hss⟩:=V1 HS1.out (zI _ _) hjl
    subst hpp
    have haT:=(HRd.out _ (hdA.out _ HB1.out).1).1
    replace e0:=(haT.cell (p:=⟨pb,po+j*2,none⟩) (qd e0)).trans e0
    replace e1:=(haT.cell (p:=⟨pb,po+j*2+1,none⟩) (qd e1)).trans e1
    have HPk:=hgU.out j hjl
    have HP:=q7 HPk
    have HMp:=q7 (show ∀e∈Zl f k bm.phis[j],e∈QI f from fun e he=>heW.out e (XQ hjl he))
    have HNp:=q7 (show (∀e∈Zl f k bm.phis[j],knE wb u pl e=true)→∀e∈(bm.phis.take (j+1)).flatMap (Zl f k),knE wb u pl e=true from all_nextM hjl HA1.out)
    have HSS:=q7 hss
    clear haT HPk hss
    generalize bm.phis[j]=ph at *
    go_wp2_with fail
    obtain ⟨Wc,hWc⟩:∃Wc,Wc=wr.alloc (.cells #[.int .i64 ph.dst,.slice qs ph.src.length cs] 88):=⟨_,rfl⟩
    rw [←hWc]
    have hbc:Below Wb.heap.size Wb Wc:=HB1.out.trans (by rw [hWc];exact (zI _ _).alloc HB1.out.size _)
    have HBc:=q7 hbc
    clear hWc hbc e0 e1
    obtain ⟨wp,rfl⟩:∃wp:World,wp=wr:=⟨_,rfl⟩
    go_loopg [40] ph.src.length (fun q s40 wr=>∃i:Nat,i≤ph.src.length∧q=ph.src.length - i∧s40 = .int .i64 i∧(∀e∈z8 (Z2 f k) 0 (ph.src.take i),knE wb u pl e=true)∧Below Wb.heap.size Wb wr)
    case atStart=>exact ⟨0,by omega,rfl,rfl,(fun e h=>by simp [z8] at h),HBc.out⟩
    case round=>
     clear HBc
     obtain ⟨i,hi,rfl,rfl,hA,hb⟩:=hrel
     have HA2:=q7 hA
     have HB2:=q7 hb
     clear hA hb
     by_cases hil:i<ph.src.length
     rotate_left
     ·obtain rfl:i=ph.src.length:=by omega
      have hA3:∀e∈Zl f k ph,knE wb u pl e=true:=by
       have h:=HA2.out
       rw [yP] at h
       exact h
      have HA3:=q7 (HNp.out hA3)
      clear hA3
      go_wp2_with fail
      go_roundg (bm.phis.length - (j+1))
      case measure=>omega
      case rel=>exact ⟨j+1,by omega,rfl,by go_num,HA3.out,HB2.out⟩
     obtain ⟨vb,vo,hvp,v0,v1,_⟩:=KZ HSS.out (zI _ _) hil
     subst hvp
     obtain ⟨hBw2,y1,hY2,hY4,hY5,hAh,hD2,heE⟩:=hdA.out _ HB2.out
     obtain ⟨haT,hbx,hRr,hUr⟩:=HRd.out _ hBw2
     replace v0:=(haT.cell (p:=⟨vb,vo+i*2,none⟩) (qd v0)).trans v0
     replace v1:=(haT.cell (p:=⟨vb,vo+i*2+1,none⟩) (qd v1)).trans v1
     have y4:wr.cell? ⟨wo.heap.size,0,none⟩=some (.int .i64 k):=(blk hY4).1 0
     have zY4:=q8 hY4
     have hlen:i<(insN f k).length:=by
      have:=HP.out.len
      have e:(insN f k).length=(qU (xV f) k).length:=rfl
      omega
     obtain ⟨qa,ca,a0,a1⟩:=hAh k hlt
     obtain ⟨ab,rfl,a2⟩:=a1 i hlen
     have htA:=ZA HS.out.toFunS k
     have han:(insN f k)[i]<f.blocks.length:=Vk (zP hlen)
     have hgd:(insN f k).getD i 0=(insN f k)[i]:=by rw [yO,zj hlen];rfl
     have hmu:=HMp.out _ (X8 (f:=f) (k:=k) hil)
     have hnu:(∀e∈Z2 f k i ph.src[i],knE wb u pl e=true)→∀e∈z8 (Z2 f k) 0 (ph.src.take (i+1)),knE wb u pl e=true:=Ju hil HA2.out
     obtain ⟨ql,cl,l1,l2⟩:=htw.out _ han
     have hll:((f.blocks[(insN f k).getD i 0]?.map fun b=>b.list.length).getD 0:Nat)=f.blocks[(insN f k)[i]].list.length:=by
      rw [hgd,zj han];rfl
     unfold Z2 at hnu
     rw [hll,hgd] at hmu hnu
     have hvk:=HP.out.src _ (zP hil)
     have l1':wr.cell? ⟨bb,bo+(insN f k)[i]*6+1,none⟩=some (.slice ql f.blocks[(insN f k)[i]].list.length cl):=(haT.cell (p:=⟨bb,_,none⟩) (qd l1)).trans l1
     have hx:=(blk hbx).1
     have x3:wr.cell? ⟨C,3,none⟩=some (.slice (some ⟨bb,bo,none⟩) f.blocks.length fc):=hx 3
     have x4:wr.cell? ⟨C,4,none⟩=some (.slice (some ⟨U,0,none⟩) f.blocks.length f.blocks.length):=hx 4
     have x5:wr.cell? ⟨C,5,none⟩=some (.slice (some ⟨B,0,none⟩) f.regs.toNat f.regs.toNat):=hx 5
     generalize f.blocks[(insN f k)[i]].list.length=L at *
     generalize (insN f k)[i]=A at *
     generalize ph.src[i]=v at *
     obtain ⟨r,hr⟩:∃r,r=knB wb u pl v.1 v.2 A L:=⟨_,rfl⟩
     have HMu:=q7 (show r=false→vx wb u pl f=false from fun h=>Qn hmu (by show knB wb u pl v.1 v.2 A L=false;rw [←hr,h]))
     have HNu:=q7 (show r=true→∀e∈z8 (Z2 f k) 0 (ph.src.take (i+1)),knE wb u pl e=true from fun h=>hnu fun e he=>by
      rw [yI.1 he]
      show knB wb u pl v.1 v.2 A L=true
      rw [←hr,h])
     obtain ⟨Wd,hWd⟩:∃Wd,Wd=wr.alloc (.cells #[.bool v.1,.int .i64 v.2] 40):=⟨_,rfl⟩
     have hbd:Below wr.heap.size wr Wd:=by rw [hWd];exact bZ
     have hVX:Wd.heap[wr.heap.size]?=some (.cells #[.bool v.1,.int .i64 v.2] 40 (0,0)):=by rw [hWd];exact qn wr _
     have haE:∀w',Below Wd.heap.size Wd w'→w'.cell? ⟨w.heap.size,0,none⟩=some (.pointer (some ⟨C,0,none⟩))∧w'.cell? ⟨wr.heap.size,0,none⟩=some (.bool v.1)∧w'.cell? ⟨wr.heap.size,1,none⟩=some (.int .i64 v.2)∧w'.cell? ⟨C,3,none⟩=some (.slice (some ⟨bb,bo,none⟩) f.blocks.length fc)∧w'.cell? ⟨bb,bo+A*6+1,none⟩=some (.slice ql L cl):=fun w' h=>by
      have h2:=hbd.trans (h.mono hbd.size)
      have h3:=(h.block _ (q8 hVX)).trans hVX
      exact ⟨(h2.cell (p:=⟨w.heap.size,0,none⟩) (qd y1)).trans y1,(blk h3).1 0,(blk h3).1 1,(h2.cell (p:=⟨C,3,none⟩) (qd x3)).trans x3,(h2.cell (p:=⟨bb,_,none⟩) (qd l1')).trans l1'⟩
     have hKn:=X7 C B f.regs.toNat U f.blocks.length A v.1 v.2 L wb u pl Wd.drew (fun h=>by have:=hvk h;omega) (by omega) ((hbd.cell (p:=⟨C,5,none⟩) (qd x5)).trans x5) ((hbd.cell (p:=⟨C,4,none⟩) (qd x4)).trans x4) (hRr.of_block (hbd.block B hRr.lt)) (hUr.of_block (hbd.block U hUr.lt)) HT.out (fun r _=>HWb.out r) han
     rw [←hr] at hKn
     have HKn:=q7 hKn
     have ha8:=q7 haE
     have HBd:=q7 hbd
     have HWd:=q7 hWd
     have HY2:=q7 hY2
     have HD2:=q7 hD2
     have zC:=qd x3
     have zT:=qd a0
     have zab:=qd a2
     have zvb:=qd v0
     clear hVX haE hKn hbd hWd hr hmu hnu hll hgd hvk l1 x3 x4 x5 hRr hUr hbx hx hY2 hY4 hY5 hAh hD2 a1 haT y1 l1'
     go_wp2_with fail
     rw [←HWd.out]
     refine qr (S:=fun w'=>Below Wd.heap.size Wd w') (by kernel_rfl) 15 ?_
     refine xO 0 52 (.pointer (some ⟨C,0,none⟩)) rfl rfl (zK _) (by kernel_rfl) (by kernel_rfl) (by kernel_rfl) (fun _ _ _ h=>h) (xH ⟨by rfl,fun w' h=>?_⟩) (zI _ _).drew ?_
     ·obtain ⟨h1,h2,h3,h4,h5⟩:=ha8.out w' h
      go_simp
     refine xO 1 53 (.agg #[.bool v.1,.int .i64 v.2]) rfl rfl (zK _) (by kernel_rfl) (by kernel_rfl) (by kernel_rfl) (fun _ _ _ h=>h) (xH ⟨by rfl,fun w' h=>?_⟩) (zI _ _).drew ?_
     ·obtain ⟨h1,h2,h3,h4,h5⟩:=ha8.out w' h
      go_simp
     refine xO 2 54 (.int .i64 (A:Nat)) rfl rfl (zK _) (by kernel_rfl) (by kernel_rfl) (by kernel_rfl) (fun _ _ _ h=>h) (xH ⟨by rfl,fun w' h=>?_⟩) (zI _ _).drew ?_
     ·obtain ⟨h1,h2,h3,h4,h5⟩:=ha8.out w' h
      go_simp
     refine xO 3 55 (.pointer (some ⟨C,0,none⟩)) rfl rfl (zK _) (by kernel_rfl) (by kernel_rfl) (by kernel_rfl) (fun _ _ _ h=>h) (xH ⟨by rfl,fun w' h=>?_⟩) (zI _ _).drew ?_
     ·obtain ⟨h1,h2,h3,h4,h5⟩:=ha8.out w' h
      go_simp
     refine xO 4 56 (.pointer (some ⟨C,0,none⟩)) rfl rfl (zK _) (by kernel_rfl) (by kernel_rfl) (by kernel_rfl) (fun _ _ _ h=>h) (xH ⟨by rfl,fun w' h=>?_⟩) (zI _ _).drew ?_
     ·obtain ⟨h1,h2,h3,h4,h5⟩:=ha8.out w' h
      go_simp
     refine xO 5 57 (.pointer (some ⟨C,0,none⟩)) rfl rfl (zK _) (by kernel_rfl) (by kernel_rfl) (by kernel_rfl) (fun _ _ _ h=>h) (xH ⟨by rfl,fun w' h=>?_⟩) (zI _ _).drew ?_
     ·obtain ⟨h1,h2,h3,h4,h5⟩:=ha8.out w' h
      go_simp
     refine xO 6 58 (.pointer (some ⟨C,3,none⟩)) rfl rfl (zK _) (by kernel_rfl) (by kernel_rfl) (by kernel_rfl) (fun _ _ _ h=>h) (xH ⟨by rfl,fun w' h=>?_⟩) (zI _ _).drew ?_
     ·obtain ⟨h1,h2,h3,h4,h5⟩:=ha8.out w' h
      go_simp
     refine xO 7 59 (.slice (some ⟨bb,bo,none⟩) f.blocks.length fc) rfl rfl (zK _) (by kernel_rfl) (by kernel_rfl) (by kernel_rfl) (fun _ _ _ h=>h) (xH ⟨by rfl,fun w' h=>?_⟩) (zI _ _).drew ?_
     ·obtain ⟨h1,h2,h3,h4,h5⟩:=ha8.out w' h
      go_simp
     refine xO 8 60 (.int .i64 (A:Nat)) rfl rfl (zK _) (by kernel_rfl) (by kernel_rfl) (by kernel_rfl) (fun _ _ _ h=>h) (xH ⟨by rfl,fun w' h=>?_⟩) (zI _ _).drew ?_
     ·obtain ⟨h1,h2,h3,h4,h5⟩:=ha8.out w' h
      go_simp
     refine xO 9 61 (.pointer (some ⟨bb,bo+A*6,none⟩)) rfl rfl (zK _) (by kernel_rfl) (by kernel_rfl) (by kernel_rfl) (fun _ _ _ h=>h) (xH ⟨by rfl,fun w' h=>?_⟩) (zI _ _).drew ?_
     ·obtain ⟨h1,h2,h3,h4,h5⟩:=ha8.out w' h
      go_simp
     refine xO 10 62 (.pointer (some ⟨bb,bo+A*6+1,none⟩)) rfl rfl (zK _) (by kernel_rfl) (by kernel_rfl) (by kernel_rfl) (fun _ _ _ h=>h) (xH ⟨by rfl,fun w' h=>?_⟩) (zI _ _).drew ?_
     ·obtain ⟨h1,h2,h3,h4,h5⟩:=ha8.out w' h
      go_simp
     refine xO 11 63 (.slice ql L cl) rfl rfl (zK _) (by kernel_rfl) (by kernel_rfl) (by kernel_rfl) (fun _ _ _ h=>h) (xH ⟨by rfl,fun w' h=>?_⟩) (zI _ _).drew ?_
     ·obtain ⟨h1,h2,h3,h4,h5⟩:=ha8.out w' h
      go_simp
     refine xO 12 64 (.int .i64 (L:Nat)) rfl rfl (zK _) (by kernel_rfl) (by kernel_rfl) (by kernel_rfl) (fun _ _ _ h=>h) (xH ⟨by rfl,fun w' h=>?_⟩) (zI _ _).drew ?_
     ·obtain ⟨h1,h2,h3,h4,h5⟩:=ha8.out w' h
      go_simp
     refine qk (i:=13) (by kernel_rfl) (qm 65 rfl rfl rfl (by go_simp) HKn.out ?_)
     rintro e w4 ⟨rfl,hb4⟩
     have hdB:Below Wd.heap.size Wd w4:=(zI _ Wd).drew.trans hb4
     refine ⟨_,rfl,hdB,?_⟩
     refine qk (i:=14) (by kernel_rfl) (qz 66 (.bool (!r)) w4 rfl rfl rfl (by go_simp) hdB (qx (by kernel_rfl) ?_ _))
     simp only [calm]
     have hoY:Below Wb.heap.size Wb w4:=HB2.out.trans ((HBd.out.trans (hdB.mono HBd.out.size)).mono HB2.out.size)
     have HB4:=q7 hoY
     clear hb4 hdB hoY
     cases r with
     | true=>
      have HNt:=q7 (HNu.out rfl)
      clear HNu HMu
      simp only [Bool.not_true,Exit.then]
      go_simp
      go_wp2_with fail
      go_roundg (ph.src.length - (i+1))
      case measure=>omega
      case rel=>exact ⟨i+1,by omega,rfl,by go_num,HNt.out,HB4.out⟩
     | false=>
      have HMt:=q7 (HMu.out rfl)
      clear HNu HMu
      simp only [Bool.not_false]
      obtain ⟨hhp,_,hcS,_,_,_,hD4,_⟩:=hdA.out _ HB4.out
      have y2:w4.cell? ⟨w.heap.size+1,0,none⟩=some (.bool false):=(blk hcS).1 0
      have y2f:=(blk hcS).2
      have zY2':=q8 hcS
      have hkQ:=q7 hcS
      have HD4:=q7 hD4
      have hkS:=q7 hhp
      clear hcS hD4 hhp
      simp only [Exit.then]
      go_simp
      go_wp2_with fail
      exact HNo.out _ Ds _ hkS.out hkQ.out HN.out HD4.out HMt.out rfl
   obtain rfl:j=bm.phis.length:=by omega
   rw [yP] at HA1
   obtain ⟨hBw2,y1,hY2,hY4,hY5,hAh,hD2,heE⟩:=hdA.out _ HB1.out
   have y51:wr.cell? ⟨wo.heap.size+1,1,none⟩=some (.slice q2 bm.list.length c2):=(blk hY5).1 1
   have zY5:=q8 hY5
   have HD2:=q7 hD2
   clear y1 hY2 hY4 hY5 hAh hD2 heE hBw2
   go_wp2_with fail
   gi_wp2
   clear y51
   obtain ⟨wl,rfl⟩:∃wl:World,wl=wr:=⟨_,rfl⟩
   refine wpIn_loop (fun a' w'=>∃(j:Nat) (Es:List Nat),(j≤bm.list.length∧Es.Nodup∧(∀D∈Es,W0.heap.size≤D∧w'.heap[D]?=some (.deferred (some [])))∧(∀e∈z8 (XO k) 0 (bm.list.take j),knE wb u pl e=true)∧Below Wb.heap.size Wb w')∧a'.defers=Vh Es∧a'.tmps.size=98∧a'.tmps.getD 1 undef = .pointer (some ⟨w.heap.size,0,none⟩)∧a'.tmps.getD 2 undef = .pointer (some ⟨w.heap.size+1,0,none⟩)∧a'.tmps.getD 3 undef = .slice (some ⟨w.heap.size+1+1+1,0,none⟩) f.blocks.length f.blocks.length∧a'.tmps.getD 4 undef = .pointer (some ⟨wo.heap.size,0,none⟩)∧a'.tmps.getD 5 undef = .pointer (some ⟨wo.heap.size+1,0,none⟩)∧a'.tmps.getD 23 undef = .slice (some ⟨bb,bo,none⟩) f.blocks.length fc∧a'.tmps.getD 24 undef = .int .i64 f.blocks.length∧a'.tmps.getD 25 undef = .int .i64 k∧a'.tmps.getD 70 undef = .slice q2 bm.list.length c2∧a'.tmps.getD 71 undef = .int .i64 bm.list.length∧a'.tmps.getD 72 undef = .int .i64 j) (fun a' _=>bm.list.length - (intOf (a'.tmps.getD 72 undef)).toNat) ?startL ?roundL
   case startL=>
    exact ⟨0,Ds,⟨Nat.zero_le _,HN.out,HD2.out,(fun e h=>by simp [z8] at h),HB1.out⟩,rfl,rfl,rfl,rfl,rfl,rfl,rfl,rfl,rfl,rfl,rfl,rfl,rfl⟩
   case roundL=>
    clear HD2 zY5
    rintro ⟨ts,ds⟩ wr ⟨j,Es,⟨hj,hN,hD,hA,hb⟩,hdf,hfs,hf1,hf2,hf3,hf4,hf5,heB,heC,heD,hkT,hkV,hkY⟩
    simp only at hdf hfs hf1 hf2 hf3 hf4 hf5 heB heC heD hkT hkV hkY
    subst hdf
    obtain ⟨vs,hvs⟩:∃vs:Nat→Value,vs=us:=⟨_,rfl⟩
    clear hvs
    obtain ⟨us,hus⟩:∃us:Nat→Value,us=fun i=>ts.getD i undef:=⟨_,rfl⟩
    have hts:ts=#[us 0,.pointer (some ⟨w.heap.size,0,none⟩),.pointer (some ⟨w.heap.size+1,0,none⟩),.slice (some ⟨w.heap.size+1+1+1,0,none⟩) f.blocks.length f.blocks.length,.pointer (some ⟨wo.heap.size,0,none⟩),.pointer (some ⟨wo.heap.size+1,0,none⟩),us 6,us 7,us 8,us 9,us 10,us 11,us 12,us 13,us 14,us 15,us 16,us 17,us 18,us 19,us 20,us 21,us 22,.slice (some ⟨bb,bo,none⟩) f.blocks.length fc,.int .i64 f.blocks.length,.int .i64 k,us 26,us 27,us 28,us 29,us 30,us 31,us 32,us 33,us 34,us 35,us 36,us 37,us 38,us 39,us 40,us 41,us 42,us 43,us 44,us 45,us 46,us 47,us 48,us 49,us 50,us 51,us 52,us 53,us 54,us 55,us 56,us 57,us 58,us 59,us 60,us 61,us 62,us 63,us 64,us 65,us 66,us 67,us 68,us 69,.slice q2 bm.list.length c2,.int .i64 bm.list.length,.int .i64 j,us 73,us 74,us 75,us 76,us 77,us 78,us 79,us 80,us 81,us 82,us 83,us 84,us 85,us 86,us 87,us 88,us 89,us 90,us 91,us 92,us 93,us 94,us 95,us 96,us 97]:=by
     have hfr:=QS hfs
     rw [←hus] at hfr
     have h1:us 1 = .pointer (some ⟨w.heap.size,0,none⟩):=by rw [hus];exact hf1
     have h2:us 2 = .pointer (some ⟨w.heap.size+1,0,none⟩):=by rw [hus];exact hf2
     have h3:us 3 = .slice (some ⟨w.heap.size+1+1+1,0,none⟩) f.blocks.length f.blocks.length:=by rw [hus];exact hf3
     have h4:us 4 = .pointer (some ⟨wo.heap.size,0,none⟩):=by rw [hus];exact hf4
     have h5:us 5 = .pointer (some ⟨wo.heap.size+1,0,none⟩):=by rw [hus];exact hf5
     have h23:us 23 = .slice (some ⟨bb,bo,none⟩) f.blocks.length fc:=by rw [hus];exact heB
     have h24:us 24 = .int .i64 f.blocks.length:=by rw [hus];exact heC
     have h25:us 25 = .int .i64 k:=by rw [hus];exact heD
     have h70:us 70 = .slice q2 bm.list.length c2:=by rw [hus];exact hkT
     have h71:us 71 = .int .i64 bm.list.length:=by rw [hus];exact hkV
     have h72:us 72 = .int .i64 j:=by rw [hus];exact hkY
     refine hfr.trans ?_
     show #[us 0,us 1,us 2,us 3,us 4,us 5,us 6,us 7,us 8,us 9,us 10,us 11,us 12,us 13,us 14,us 15,us 16,us 17,us 18,us 19,us 20,us 21,us 22,us 23,us 24,us 25,us 26,us 27,us 28,us 29,us 30,us 31,us 32,us 33,us 34,us 35,us 36,us 37,us 38,us 39,us 40,us 41,us 42,us 43,us 44,us 45,us 46,us 47,us 48,us 49,us 50,us 51,us 52,us 53,us 54,us 55,us 56,us 57,us 58,us 59,us 60,us 61,us 62,us 63,us 64,us 65,us 66,us 67,us 68,us 69,us 70,us 71,us 72,us 73,us 74,us 75,us 76,us 77,us 78,us 79,us 80,us 81,us 82,us 83,us 84,us 85,us 86,us 87,us 88,us 89,us 90,us 91,us 92,us 93,us 94,us 95,us 96,us 97]=_
     rw [h1,h2,h3,h4,h5,h23,h24,h25,h70,h71,h72]
    clear hus hfs hf1 hf2 hf3 hf4 hf5 heB heC heD hkT hkV hkY
    subst hts
    have HNe:=q7 hN
    have HDe:=q7 hD
    have HAe:=q7 hA
    have HBe:=q7 hb
    have hzr:=hb.size
    clear hN hD hA hb
    by_cases hjl:j<bm.list.length
    rotate_left
    ·obtain rfl:j=bm.list.length:=by omega
     rw [yP] at HAe
     obtain ⟨hBw2,y1,hY2,hY4,hY5,hAh,_,heE⟩:=hdA.out _ HBe.out
     obtain ⟨haT,hbx,hRr,hUr⟩:=HRd.out _ hBw2
     have hx:=(blk hbx).1
     have hvk:=HOn.out
     have hmi:=heW.out ⟨bm.fin.onr,bm.fin.onn,k,(bm.list.length:Nat)⟩ (yM _ (yI.2 rfl))
     have hKn:=X7 C B f.regs.toNat U f.blocks.length k bm.fin.onr bm.fin.onn bm.list.length wb u pl wr (fun h=>by have:=hvk h;omega) (by omega) (hx 5) (hx 4) hRr hUr HT.out (fun r _=>HWb.out r) hlt
     obtain ⟨r,hr⟩:∃r,r=knB wb u pl bm.fin.onr bm.fin.onn k bm.list.length:=⟨_,rfl⟩
     rw [←hr] at hKn
     have HKn:=q7 hKn
     have HMu:=q7 (show r=false→vx wb u pl f=false from fun h=>Qn hmi (by show knB wb u pl bm.fin.onr bm.fin.onn k bm.list.length=false;rw [←hr,h]))
     have HNu:=q7 (show r=true→∀e∈z8 (kE f) 0 (f.blocks.take (k+1)),knE wb u pl e=true from fun h=>hkP.out fun e he=>by
      unfold kE at he
      rcases yH.1 he with he|he
      ·rcases yH.1 he with he|he
       ·exact HA1.out e he
       exact HAe.out e he
      rw [yI.1 he]
      show knB wb u pl bm.fin.onr bm.fin.onn k bm.list.length=true
      rw [←hr,h])
     have y4:wr.cell? ⟨wo.heap.size,0,none⟩=some (.int .i64 k):=(blk hY4).1 0
     have y51:wr.cell? ⟨wo.heap.size+1,1,none⟩=some (.slice q2 bm.list.length c2):=(blk hY5).1 1
     have y53:wr.cell? ⟨wo.heap.size+1,3,none⟩=some (.bool bm.fin.onr):=(blk hY5).1 3
     have y54:wr.cell? ⟨wo.heap.size+1,4,none⟩=some (.int .i64 bm.fin.onn):=(blk hY5).1 4
     clear hr hmi hKn hx hvk haT hbx hRr hUr hY2 hY4 hY5 hAh heE hBw2
     gi_wp2_with fail
     refine ⟨trivial,?_⟩
     refine ((callsIn_wide (n:=2)).2 HKn.out).mono ?_
     rintro e w4 ⟨rfl,hb4⟩
     have hb2:Below Wb.heap.size Wb w4:=HBe.out.trans (hb4.mono HBe.out.size)
     obtain ⟨hhp,_,hcS,_,_,_,_,hoZ⟩:=hdA.out _ hb2
     have y2:w4.cell? ⟨w.heap.size+1,0,none⟩=some (.bool false):=(blk hcS).1 0
     have y2f:=(blk hcS).2
     have zY2':=q8 hcS
     have hEs:∀E∈Es,W0.heap.size≤E∧w4.heap[E]?=some (.deferred (some [])):=fun E hE=>by
      have h1:=HDe.out E hE
      exact ⟨h1.1,(hb4.block E (q8 h1.2)).trans h1.2⟩
     have hkQ:=q7 hcS
     have hkS:=q7 hhp
     have htB:=q7 hoZ
     have HEs:=q7 hEs
     clear hb4 hb2 hcS hhp hoZ hEs y1 y4 y51 y53 y54
     cases r with
     | true=>
      have HNy:=q7 (HNu.out rfl)
      clear HNu HMu y2 y2f
      gi_wp2
      exact ⟨⟨k+1,Es,⟨by omega,HNe.out,HEs.out,HNy.out,htB.out⟩,rfl,rfl,rfl,rfl,rfl,rfl,rfl,rfl⟩,by show f.blocks.length - (k+1)<f.blocks.length - k;omega⟩
     | false=>
      have HMt:=q7 (HMu.out rfl)
      clear HNu HMu
      gi_wp2
      exact HNo.out _ Es _ hkS.out hkQ.out HNe.out HEs.out HMt.out rfl
    obtain ⟨lb,lo,qs,cs,hlp,i0,i1,i2,i3,i4,i5,i6,i7,_,_,_,_,_,hls,hss⟩:=V2 HS2.out (zI _ _) hjl
    subst hlp
    obtain ⟨hBw2,y1,hY2,hY4,hY5,hAh,hD2,heE⟩:=hdA.out _ HBe.out
    obtain ⟨haT,hbx,hRr,hUr⟩:=HRd.out _ hBw2
    have g:∀o v,w0.cell? ⟨lb,o,none⟩=some v→wr.cell? ⟨lb,o,none⟩=some v:=fun o v h=>(haT.cell (p:=⟨lb,o,none⟩) (qd h)).trans h
    replace i0:=g _ _ i0
    replace i1:=g _ _ i1
    replace i2:=g _ _ i2
    replace i3:=g _ _ i3
    replace i4:=g _ _ i4
    replace i5:=g _ _ i5
    replace i6:=g _ _ i6
    replace i7:=g _ _ i7
    have hin:=hkJ.out j hjl
    have HMi:=q7 (show ∀e∈XO k j bm.list[j],e∈QI f from fun e he=>heW.out e (XR hjl he))
    have HNi:=q7 (show (∀e∈XO k j bm.list[j],knE wb u pl e=true)→∀e∈z8 (XO k) 0 (bm.list.take (j+1)),knE wb u pl e=true from Ju hjl HAe.out)
    have hp6:∀i (h:i<bm.list[j].args.length),∃b o,qs=some ⟨b,o,none⟩∧wr.cell? ⟨b,o+i*2,none⟩=some (.bool bm.list[j].args[i].1)∧wr.cell? ⟨b,o+i*2+1,none⟩=some (.int .i64 bm.list[j].args[i].2):=fun i hi=>by
     obtain ⟨b,o,e1,e2,e3,_⟩:=KZ hss haT hi
     exact ⟨b,o,e1,e2,e3⟩
    generalize bm.list[j]=x at *
    have HIn:=q7 hin
    have htC:=q7 hp6
    have HD2:=q7 hD2
    have zY4:=q8 hY4
    clear g hin hss haT hbx hRr hUr y1 hY2 hY4 hY5 hAh hD2 hp6
    gi_wp2_with fail
    refine ⟨trivial,?_⟩
    gi_at_call 106
    refine ((callsIn_wide (n:=2)).2 (vals_any _ _)).mono ?_
    rintro e w7 ⟨rfl,rfl⟩
    gi_wp2
    obtain ⟨W7,hW7⟩:∃W7,W7=((wr.alloc (.cells #[.int .i64 j] 3)).alloc (.cells #[.int .i64 x.op,.int .i64 x.dst,.bool x.ar,.int .i64 x.an,.bool x.br,.int .i64 x.bn,.int .i64 x.fn,.slice qs x.args.length cs] 57)).alloc (.cells #[.int .i64 x.op,.int .i64 x.dst,.bool x.ar,.int .i64 x.an,.bool x.br,.int .i64 x.bn,.int .i64 x.fn,.slice qs x.args.length cs] 57):=⟨_,rfl⟩
    rw [←hW7]
    have hb7:Below wr.heap.size wr W7:=by rw [hW7];exact bZ
    have hJ7:W7.heap[wr.heap.size]?=some (.cells #[.int .i64 j] 3 (0,0)):=by rw [hW7];exact qg (qg (qn wr _))
    have hX7:W7.heap[wr.heap.size+1+1]?=some (.cells #[.int .i64 x.op,.int .i64 x.dst,.bool x.ar,.int .i64 x.an,.bool x.br,.int .i64 x.bn,.int .i64 x.fn,.slice qs x.args.length cs] 57 (0,0)):=by rw [hW7];exact qh (by simp)
    have hz7:W7.heap.size=wr.heap.size+1+1+1:=by rw [hW7];simp
    have hsh:ValSh (wr.heap.size+1+1) qs cs x W7:=⟨(blk hX7).1 0,(blk hX7).1 2,(blk hX7).1 3,(blk hX7).1 4,(blk hX7).1 5,(blk hX7).1 7,fun i hi=>by
     obtain ⟨b,o,e1,e2,e3⟩:=htC.out i hi
     exact ⟨b,o,e1,(hb7.cell (p:=⟨b,_,none⟩) (qd e2)).trans e2,(hb7.cell (p:=⟨b,_,none⟩) (qd e3)).trans e3⟩⟩
    have hp7:Below Wb.heap.size Wb W7:=HBe.out.trans (hb7.mono HBe.out.size)
    have HB7:=q7 hb7
    have hdP:=q7 hp7
    have HJ7:=q7 hJ7
    have HSh:=q7 hsh
    have HZ7:=q7 hz7
    clear hW7 hb7 hp7 hJ7 hX7 hsh i0 i1 i2 i3 i4 i5 i6 i7 hz7
    have hval:∀i (h:i<(takes x).length),vh f.regs (takes x)[i].1 (takes x)[i].2:=fun i h=>by
     have hm:(takes x)[i]∈takes x:=zP h
     generalize (takes x)[i]=v at *
     obtain ⟨_,_,_,ha,hb,hc⟩:=HIn.out
     unfold takes at hm
     rcases yH.1 hm with hm|hm
     ·rcases yH.1 hm with hm|hm
      ·split at hm
       ·rw [yI.1 hm];exact ha
       cases hm
      split at hm
      ·rw [yI.1 hm];exact hb
      cases hm
     exact hc _ hm
    have htD:=q7 hval
    clear hval
    refine JN rfl (by omega) (gf:=142) (lb:=#[.pointer (some ⟨wr.heap.size+1+1,0,none⟩)]) rfl trivial (enters_of Tryz.func142 (by kernel_rfl) rfl)
     (vals_at (wr.heap.size+1+1) cs qs x W7 ⟨HIn.out.1,HIn.out.2.1⟩ hls HSh.out) (fun h k=>h.trans k) (fun W l o o' _ hl ho _=>KC.putObj o' hl ho) (zI _ _) (fun i _=>rfl)
     (fun i W'=>Below W7.heap.size W7 W'∧∀i' (h:i'<(takes x).length),i'<i→knB wb u pl (takes x)[i'].1 (takes x)[i'].2 k j=true) (fun c _ W'=>Below W7.heap.size W7 W'∧c = .ret∧vx wb u pl f=false)
     own_bel (fun _=>own_bel) ⟨zI _ _,(fun i' h h2=>by omega)⟩
     (fun s W'=>Below W7.heap.size W7 W'∧(∀i' (h:i'<(takes x).length),i'<s.1→knB wb u pl (takes x)[i'].1 (takes x)[i'].2 k j=true)∧∃V,s.2={ tmps:=#[us 0,.pointer (some ⟨w.heap.size,0,none⟩),.pointer (some ⟨w.heap.size+1,0,none⟩),.slice (some ⟨w.heap.size+1+1+1,0,none⟩) f.blocks.length f.blocks.length,.pointer (some ⟨wo.heap.size,0,none⟩),.pointer (some ⟨wo.heap.size+1,0,none⟩),us 6,us 7,us 8,us 9,us 10,.pointer (some ⟨wr.heap.size,0,none⟩),.pointer (some ⟨wr.heap.size+1,0,none⟩),.pointer (some ⟨V,0,none⟩),us 14,us 15,us 16,us 17,us 18,us 19,us 20,us 21,us 22,.slice (some ⟨bb,bo,none⟩) f.blocks.length fc,.int .i64 f.blocks.length,.int .i64 k,us 26,us 27,us 28,us 29,us 30,us 31,us 32,us 33,us 34,us 35,us 36,us 37,us 38,us 39,us 40,us 41,us 42,us 43,us 44,us 45,us 46,us 47,us 48,us 49,us 50,us 51,us 52,us 53,us 54,us 55,us 56,us 57,us 58,us 59,us 60,us 61,us 62,us 63,us 64,us 65,us 66,us 67,us 68,us 69,.slice (some ⟨lb,lo,none⟩) bm.list.length c2,.int .i64 bm.list.length,.int .i64 j,.bool true,.int .i64 j,.pointer (some ⟨lb,lo+j*8,none⟩),.agg #[.int .i64 x.op,.int .i64 x.dst,.bool x.ar,.int .i64 x.an,.bool x.br,.int .i64 x.bn,.int .i64 x.fn,.slice qs x.args.length cs],.agg #[.int .i64 x.op,.int .i64 x.dst,.bool x.ar,.int .i64 x.an,.bool x.br,.int .i64 x.bn,.int .i64 x.fn,.slice qs x.args.length cs],.func (.func 142) #[] #[.pointer (some ⟨wr.heap.size+1+1,0,none⟩)],.agg #[.bool ((takes x).getD s.1 (false,0)).1,.int .i64 ((takes x).getD s.1 (false,0)).2],us 80,us 81,us 82,us 83,us 84,us 85,us 86,us 87,us 88,us 89,us 90,us 91,us 92,us 93,us 94,us 95,us 96,us 97],defers:=[] }∧W'.heap[V]?=some (.cells #[.bool ((takes x).getD s.1 (false,0)).1,.int .i64 ((takes x).getD s.1 (false,0)).2] 40 (0,0))) ?ownM ?assign ?body ?done ?stop
    case ownM=>
     rintro s W W' row ⟨h,p,V,e,hv⟩ hg hr
     refine ⟨h.grown hg h.size (fun k e=>(hr k e).1),p,V,e,(hg.block V (q8 hv) fun e2=>?_).trans hv⟩
     obtain ⟨_,o,ho,hc⟩:=hr V e2.symm
     rw [hv] at ho
     cases ho
     cases hc
    case assign=>
     rintro l i W K hl hi ⟨hbW,hp⟩ hK
     have hgd:(takes x).getD i (false,0)=(takes x)[i]:=by rw [yO,zj hi];rfl
     unfold Z9
     rw [hgd]
     generalize hv:(takes x)[i]=v at *
     have HGd:=q7 hgd
     clear hgd hv
     gi_wp2
     refine hK _ _ ⟨hbW.alloc hbW.size _,hp,W.heap.size,by rw [HGd.out],by rw [HGd.out];exact qn W _⟩ (Qq ((zI _ _).alloc (zK _) _)) (KC.below ((zI _ _).alloc (zK _) _))
    case body=>
     rintro l i a₁ W hl hi ⟨hbW,hp,V,ea,hV⟩
     simp only at ea hV
     subst ea
     have hgd:(takes x).getD i (false,0)=(takes x)[i]:=by rw [yO,zj hi];rfl
     rw [hgd] at hV ⊢
     have hvk:=htD.out i hi
     have hmi:=HMi.out ⟨(takes x)[i].1,(takes x)[i].2,k,(j:Nat)⟩ (yD.2 ⟨_,zP hi,rfl⟩)
     have hnx:knB wb u pl (takes x)[i].1 (takes x)[i].2 k j=true→∀i' (h:i'<(takes x).length),i'<i+1→knB wb u pl (takes x)[i'].1 (takes x)[i'].2 k j=true:=fun h i' hi' hlt'=>by
      rcases yq i' i with g|g
      ·exact hp i' hi' g
      obtain rfl:i'=i:=by omega
      exact h
     have HNx:=q7 hnx
     have hb2:Below Wb.heap.size Wb W:=hdP.out.trans (hbW.mono hdP.out.size)
     obtain ⟨hBw2,y1,hY2,hY4,hY5,hAh,_,heE⟩:=hdA.out _ hb2
     obtain ⟨haT,hbx,hRr,hUr⟩:=HRd.out _ hBw2
     have hJ:=(hbW.block _ (q8 HJ7.out)).trans HJ7.out
     generalize (takes x)[i]=v at *
     have y4:W.cell? ⟨wo.heap.size,0,none⟩=some (.int .i64 k):=(blk hY4).1 0
     have yj:W.cell? ⟨wr.heap.size,0,none⟩=some (.int .i64 j):=(blk hJ).1 0
     have yv0:W.cell? ⟨V,0,none⟩=some (.bool v.1):=(blk hV).1 0
     have yv1:W.cell? ⟨V,1,none⟩=some (.int .i64 v.2):=(blk hV).1 1
     have hx:=(blk hbx).1
     have HKn:=q7 (X7 C B f.regs.toNat U f.blocks.length k v.1 v.2 j wb u pl W (fun h=>by have:=hvk h;omega) (by omega) (hx 5) (hx 4) hRr hUr HT.out (fun r _=>HWb.out r) hlt)
     have y2:W.cell? ⟨w.heap.size+1,0,none⟩=some (.bool false):=(blk hY2).1 0
     have HY2:=q7 hY2
     have HbW:=q7 hbW
     have HMi:=q7 hmi
     clear hx hbx hRr hUr haT hV hJ hY2 hY4 hY5 hAh heE hb2 hBw2 hp hgd hvk hnx hmi hbW y2
     obtain ⟨r,hr⟩:∃r,r=knB wb u pl v.1 v.2 k j:=⟨_,rfl⟩
     have HRr:=q7 hr
     rw [←hr] at HKn HNx
     clear hr
     gi_wp2_with fail
     refine ⟨trivial,?_⟩
     refine (CallsIn.inRound l (callsIn_wide.2 HKn.out)).mono ?_
     rintro e w4 ⟨rfl,hb4⟩
     have HB4:=q7 hb4
     have h2:=(hb4.block _ (q8 HY2.out)).trans HY2.out
     have y2:w4.cell? ⟨w.heap.size+1,0,none⟩=some (.bool false):=(blk h2).1 0
     have y2f:=(blk h2).2
     have htE:=q7 h2
     clear hb4 h2
     cases r with
     | true=>
      have HNy:=q7 (HNx.out rfl)
      clear HNx
      gi_wp2
      exact ⟨Qq HB4.out,KC.below HB4.out,HbW.out.trans (HB4.out.mono HbW.out.size),HNy.out⟩
     | false=>
      have hu:vx wb u pl f=false:=Qn HMi.out HRr.out.symm
      have HU:=q7 hu
      clear hu
      gi_wp2
      rw [VN htE.out]
      exact ⟨Qq HB4.out,HbW.out.trans (HB4.out.mono HbW.out.size),rfl,HU.out⟩
    case done=>
     rintro D W hD ⟨hbW,hp⟩ hDl
     have hb2:Below Wb.heap.size Wb W:=hdP.out.trans (hbW.mono hdP.out.size)
     have HNx:=q7 (HNi.out fun e he=>by
      obtain ⟨v,hv,rfl⟩:=yD.1 he
      obtain ⟨i',hi',rfl⟩:=yX hv
      exact hp i' hi' hi')
     have hz7:=HZ7.out
     have hEs:(D::Es).Nodup:=List.nodup_cons.2 ⟨fun h=>by have h1:=q8 (HDe.out D h).2;omega,HNe.out⟩
     have hDs:∀E∈D::Es,W0.heap.size≤E∧W.heap[E]?=some (.deferred (some [])):=fun E hE=>by
      rcases yC.1 hE with rfl|hE
      ·have:=HB.out.size
       have:=hdP.out.size
       have:=HZb.out
       exact ⟨by omega,hDl⟩
      have h1:=HDe.out E hE
      exact ⟨h1.1,(hbW.block E (by have:=q8 h1.2;omega)).trans ((HB7.out.block E (q8 h1.2)).trans h1.2)⟩
     have HEs:=q7 hEs
     have HDs:=q7 hDs
     have HB2:=q7 hb2
     clear hb2 hp hbW hEs hDs hDl hz7
     gi_wp2
     exact ⟨⟨j+1,D::Es,⟨by omega,HEs.out,HDs.out,HNx.out,HB2.out⟩,rfl,rfl,rfl,rfl,rfl,rfl,rfl,rfl,rfl,rfl,rfl,rfl,rfl⟩,by show bm.list.length - (j+1)<bm.list.length - j;omega⟩
    case stop=>
     rintro D c i W hD hi ⟨hbW,rfl,hu⟩ hDl
     have hb2:Below Wb.heap.size Wb W:=hdP.out.trans (hbW.mono hdP.out.size)
     obtain ⟨hBw2,_,hY2,_,_,_,_,_⟩:=hdA.out _ hb2
     have hz7:=HZ7.out
     have hEs:(D::Es).Nodup:=List.nodup_cons.2 ⟨fun h=>by have h1:=q8 (HDe.out D h).2;omega,HNe.out⟩
     have hDs:∀E∈D::Es,W0.heap.size≤E∧W.heap[E]?=some (.deferred (some [])):=fun E hE=>by
      rcases yC.1 hE with rfl|hE
      ·have:=HB.out.size
       have:=hdP.out.size
       have:=HZb.out
       exact ⟨by omega,hDl⟩
      have h1:=HDe.out E hE
      exact ⟨h1.1,(hbW.block E (by have:=q8 h1.2;omega)).trans ((HB7.out.block E (q8 h1.2)).trans h1.2)⟩
     have HFin:=q7 fun ts ht=>hkO.out ts (D::Es) W false ht hEs hDs ((blk hY2).1 0) hBw2 hu.symm
     clear hBw2 hY2 hz7 hEs hDs hu hDl hb2 hbW
     gi_wp2
     exact HFin.out _ rfl
end Go.Proofs.YtbnnhmcloecijaaGreatDoor
