/-
  The listed variable code.ways: what the row's condition gives the walks; the door's own he
-/
import Derived.Test.YtecdphhdmjmmnaaGreatDoorJSoJ
import Derived.LaidMore
import Derived.OpenShut
import Derived.Stop.Joined
import Derived.LaidHandle
set_option maxRecDepth 100000
set_option maxHeartbeats 16000000
namespace Go.Proofs.YtecdphhdmjmmnaaGreatDoor
open Go.RowKit

theorem kP {w:World} {p:Option Addr} {xs:List (Bool×Int)} (h:SliceAt w 2 k8 p xs):ValsAt w p xs.length fun i=>xs.getD i (false,0):=by
 rcases h with rfl|⟨b,o,hp,h⟩
 ·exact .inl rfl
 refine .inr ⟨b,o,hp,fun i hi=>?_⟩
 obtain⟨cs,_,hc,⟨rfl,_⟩⟩:=h i hi
 have h0:w.cell? ⟨b,o+i*2,none⟩=some (.bool xs[i].1):=hc 0 (by omega)
 have h1:w.cell? ⟨b,o+i*2+1,none⟩=some (.int .i64 xs[i].2):=hc 1 (by omega)
 have e:xs.getD i (false,0)=xs[i]:=by simp[List.getD,hi]
 show _=some (Value.bool (xs.getD i (false,0)).1)∧_=some (Value.int .i64 (xs.getD i (false,0)).2)
 rw[e]
 exact⟨h0,h1⟩
theorem valsS (xs:List (Bool×Int)) (p q:Option Addr) (c d:Nat) (w:World) (hl:xs.length*16≤reachBytes) (h:SliceAt w 2 k8 p xs) (g:SliceAt w 2 k8 q xs) :
  Calls Tryz.prog 107 #[.slice p xs.length c,.slice q xs.length d] w fun e w'=>e = .returned (.bool true)∧Below w.heap.size w w':=
 (JC p q xs.length c d _ w (by unfold reachBytes at hl;omega) (kP h) (kP g)).mono fun e w' ⟨h1,m,h2⟩=>⟨h1,by rw[h2];exact below_drewN (Below.refl _ _) _⟩

theorem insSm (x:InsL) (p q:Option Addr) (c d:Nat) (w:World) (hl:x.args.length*16≤reachBytes) (h:SliceAt w 2 k8 p x.args) (g:SliceAt w 2 k8 q x.args) :
  Calls Tryz.prog 108 #[.agg #[.int .i64 x.op,.int .i64 x.dst,.bool x.ar,.int .i64 x.an,.bool x.br,.int .i64 x.bn,.int .i64 x.fn,.slice p x.args.length c],.agg #[.int .i64 x.op,.int .i64 x.dst,.bool x.ar,.int .i64 x.an,.bool x.br,.int .i64 x.bn,.int .i64 x.fn,.slice q x.args.length d]] w fun e w'=>e = .returned (.bool true)∧Below w.heap.size w w':=
 ins_same x.op x.dst x.an x.bn x.fn x.ar x.br p q x.args.length c d _ w (by unfold reachBytes at hl;omega) (kP h) (kP g)
theorem intsS (xs:List Int) (p q:Option Addr) (c d:Nat) (w:World) (hl:xs.length*8≤140737488351232) (hX:SliceAt w 1 xT p xs) (hY:SliceAt w 1 xT q xs) :
  Calls Tryz.prog 67 #[.slice p xs.length c,.slice q xs.length d] w fun e w'=>e = .returned (.bool true)∧Below w.heap.size w w':=
 (ints_any xs xs p q c d w (by omega) (by omega) hX hY).mono fun e w' h=>⟨by rw[h.1];simp,h.2⟩

theorem yi (x:BlkL) (p1 p2 p3 q1 q2 q3:Option Addr) (c1 c2 c3 d1 d2 d3:Nat) (w:World) (hP:SlF w 2 32 (PhiR w) (.slice p1 x.phis.length c1) x.phis) (hI:SlF w 8 80 (InsR w) (.slice p2 x.list.length c2) x.list) (hT:SlF w 1 8 xT (.slice p3 x.fin.to.length c3) x.fin.to)
  (gP:SlF w 2 32 (PhiR w) (.slice q1 x.phis.length d1) x.phis) (gI:SlF w 8 80 (InsR w) (.slice q2 x.list.length d2) x.list) (gT:SlF w 1 8 xT (.slice q3 x.fin.to.length d3) x.fin.to) :
  Calls Tryz.prog 68 #[.agg #[.slice p1 x.phis.length c1,.slice p2 x.list.length c2,.int .i64 x.fin.kind,.bool x.fin.onr,.int .i64 x.fin.onn,.slice p3 x.fin.to.length c3],.agg #[.slice q1 x.phis.length d1,.slice q2 x.list.length d2,.int .i64 x.fin.kind,.bool x.fin.onr,.int .i64 x.fin.onn,.slice q3 x.fin.to.length d3]] w fun e w'=>e = .returned (.bool true)∧Below w.heap.size w w':=by
 have hlp:x.phis.length*32≤140737488351232:=hP.bdC
 have hli:x.list.length*80≤140737488351232:=hI.bdC
 have hq9:x.fin.to.length*8≤140737488351232:=hT.bdC
 have hP':SliceAt w 2 (PhiR w) p1 x.phis:=by obtain⟨_,_,e,_,_,h⟩:=hP.outC;cases e;exact h
 have hI':SliceAt w 8 (InsR w) p2 x.list:=by obtain⟨_,_,e,_,_,h⟩:=hI.outC;cases e;exact h
 have hT':SliceAt w 1 xT p3 x.fin.to:=by obtain⟨_,_,e,_,_,h⟩:=hT.outC;cases e;exact h
 have gP':SliceAt w 2 (PhiR w) q1 x.phis:=by obtain⟨_,_,e,_,_,h⟩:=gP.outC;cases e;exact h
 have gI':SliceAt w 8 (InsR w) q2 x.list:=by obtain⟨_,_,e,_,_,h⟩:=gI.outC;cases e;exact h
 have gT':SliceAt w 1 xT q3 x.fin.to:=by obtain⟨_,_,e,_,_,h⟩:=gT.outC;cases e;exact h
 have HP:=q7 hP'
 have HI:=q7 hI'
 have HT:=q7 hT'
 have GP:=q7 gP'
 have GI:=q7 gI'
 have GT:=q7 gT'
 clear hP hI hT gP gI gT hP' hI' hT' gP' gI' gT'
 go_enter Tryz.func68,Tryz.ntmps68
 go_wp2_with fail
 obtain⟨W0,hW0⟩:∃W0,W0=(w.alloc (.cells #[.slice p1 x.phis.length c1,.slice p2 x.list.length c2,.int .i64 x.fin.kind,.bool x.fin.onr,.int .i64 x.fin.onn,.slice p3 x.fin.to.length c3] 48)).alloc (.cells #[.slice q1 x.phis.length d1,.slice q2 x.list.length d2,.int .i64 x.fin.kind,.bool x.fin.onr,.int .i64 x.fin.onn,.slice q3 x.fin.to.length d3] 48):=⟨_,rfl⟩
 rw[←hW0]
 have hz0:W0.heap.size=w.heap.size+1+1:=by rw[hW0];simp
 have HB0:Hid (Below w.heap.size w W0):=q7 (by rw[hW0];exact bZ)
 have HA:Hid (W0.heap[w.heap.size]?=some (.cells #[.slice p1 x.phis.length c1,.slice p2 x.list.length c2,.int .i64 x.fin.kind,.bool x.fin.onr,.int .i64 x.fin.onn,.slice p3 x.fin.to.length c3] 48 (0,0))):=q7 (by rw[hW0];exact qh (qj rfl))
 have HB:Hid (W0.heap[w.heap.size+1]?=some (.cells #[.slice q1 x.phis.length d1,.slice q2 x.list.length d2,.int .i64 x.fin.kind,.bool x.fin.onr,.int .i64 x.fin.onn,.slice q3 x.fin.to.length d3] 48 (0,0))):=q7 (by rw[hW0];exact qj (by simp))
 clear hW0
 go_loopw [5] (fun i wr=>∃k:Nat,k≤x.phis.length∧i = .int .i64 k∧Below W0.heap.size W0 wr) (fun i _=>x.phis.length - (intOf i).toNat)
 case atStart=>exact⟨0,by omega,rfl,Below.refl _ _⟩
 case round=>
  obtain⟨k,hk,rfl,hb⟩:=hrel
  have HBr:=q7 hb
  have HBw:Hid (Below w.heap.size w wr):=HB0.out.trans (hb.mono (by omega))
  have hA:=(hb.block w.heap.size (by omega)).trans HA.out
  have hB:=(hb.block (w.heap.size+1) (by omega)).trans HB.out
  have a0:wr.cell? ⟨w.heap.size,0,none⟩=some (.slice p1 x.phis.length c1):=(blk hA).1 0
  have b0:wr.cell? ⟨w.heap.size+1,0,none⟩=some (.slice q1 x.phis.length d1):=(blk hB).1 0
  have za:=q9 hA
  have zb:=q9 hB
  have HA1:=q7 hA
  have HB1:=q7 hB
  clear hb hA hB
  by_cases hlt:k<x.phis.length
  ·obtain⟨bp,op,qa,ca,hp,e0,e1,_,l1,s1⟩:=phiGet HP.out HBw.out hlt
   obtain⟨bq,oq,qb,cb,hq,f0,f1,_,l2,s2⟩:=phiGet GP.out HBw.out hlt
   subst hp hq
   have hz1:=q8 e0
   have hz2:=q8 f0
   have HS1:=q7 s1
   have HS2:=q7 s2
   clear s1 s2
   have g1:(0:Int)≤(k:Int):=by omega
   have g2:(k:Int)<x.phis.length:=by omega
   go_wp2_with fail
   go_region_held3 (fun w'=>w'.cell? ⟨w.heap.size,0,none⟩=some (.slice (some ⟨bp,op,none⟩) x.phis.length c1)∧w'.cell? ⟨w.heap.size+1,0,none⟩=some (.slice (some ⟨bq,oq,none⟩) x.phis.length d1)∧w'.cell? ⟨bp,op+k*2,none⟩=some (.int .i64 x.phis[k].dst)∧w'.cell? ⟨bp,op+k*2+1,none⟩=some (.slice qa x.phis[k].src.length ca)∧w'.cell? ⟨bq,oq+k*2,none⟩=some (.int .i64 x.phis[k].dst)∧w'.cell? ⟨bq,oq+k*2+1,none⟩=some (.slice qb x.phis[k].src.length cb)) (go_keep)
    (first|(go_at_call 107;refine(valsS x.phis[k].src _ _ _ _ _ l1 (HS1.out.mono bZ (by omega) fun _ _ h=>h) (HS2.out.mono bZ (by omega) fun _ _ h=>h)).mono ?_;rintro e w2 ⟨rfl,hb2⟩;have hq1:=hb2.cell (p:=⟨bp,op+k*2,none⟩) (by simpa using hz1);have hq2:=hb2.cell (p:=⟨bp,op+k*2+1,none⟩) (by simpa using hz1);have hq3:=hb2.cell (p:=⟨bq,oq+k*2,none⟩) (by simpa using hz2);have hq4:=hb2.cell (p:=⟨bq,oq+k*2+1,none⟩) (by simpa using hz2);have hq5:=hb2.cell (p:=⟨w.heap.size,0,none⟩) (by simpa using za);have hq6:=hb2.cell (p:=⟨w.heap.size+1,0,none⟩) (by simpa using zb)))
   all_goals
    have HN:Hid (Below W0.heap.size W0 w2):=HBr.out.trans (Below.trans bZ (hb2.mono (by simp;exact HBr.out.size)))
    clear hb2 hq1 hq2 hq3 hq4 hq5 hq6
    go_wp2
    exact⟨⟨k+1,by omega,by go_num,HN.out⟩,by simp[intOf];omega⟩
  obtain rfl:k=x.phis.length:=by omega
  have a1:wr.cell? ⟨w.heap.size,1,none⟩=some (.slice p2 x.list.length c2):=(blk HA1.out).1 1
  have b1:wr.cell? ⟨w.heap.size+1,1,none⟩=some (.slice q2 x.list.length d2):=(blk HB1.out).1 1
  go_wp2_with fail
  clear a0 b0 a1 b1 za zb HBw
  obtain⟨W1,hW1⟩:∃W1,W1=wr:=⟨_,rfl⟩
  rw[←hW1]
  rw[←hW1]at HBr
  clear HA1 HB1 hW1
  have hrN:=HBr.out.size
  go_loopw [6] (fun i wr=>∃k:Nat,k≤x.list.length∧i = .int .i64 k∧Below W0.heap.size W0 wr) (fun i _=>x.list.length - (intOf i).toNat)
  case atStart=>exact⟨0,by omega,rfl,HBr.out⟩
  case round=>
   obtain⟨k,hk,rfl,hb⟩:=hrel
   have HBr:=q7 hb
   have HBw:Hid (Below w.heap.size w wr):=HB0.out.trans (hb.mono (by omega))
   have hA:=(hb.block w.heap.size (by omega)).trans HA.out
   have hB:=(hb.block (w.heap.size+1) (by omega)).trans HB.out
   have a1:wr.cell? ⟨w.heap.size,1,none⟩=some (.slice p2 x.list.length c2):=(blk hA).1 1
   have b1:wr.cell? ⟨w.heap.size+1,1,none⟩=some (.slice q2 x.list.length d2):=(blk hB).1 1
   have za:=q9 hA
   have zb:=q9 hB
   have HA1:=q7 hA
   have HB1:=q7 hB
   clear hb hA hB
   by_cases hlt:k<x.list.length
   ·obtain⟨bp,op,qa,ca,hp,e0,e1,e2,e3,e4,e5,e6,e7,_,_,_,_,_,l1,s1⟩:=Zv HI.out HBw.out hlt
    obtain⟨bq,oq,qb,cb,hq,f0,f1,f2,f3,f4,f5,f6,f7,_,_,_,_,_,l2,s2⟩:=Zv GI.out HBw.out hlt
    subst hp hq
    have hz1:=q8 e0
    have hz2:=q8 f0
    have HS1:=q7 s1
    have HS2:=q7 s2
    clear s1 s2
    have g1:(0:Int)≤(k:Int):=by omega
    have g2:(k:Int)<x.list.length:=by omega
    go_wp2_with fail
    go_region_held3 (fun w'=>w'.cell? ⟨w.heap.size,1,none⟩=some (.slice (some ⟨bp,op,none⟩) x.list.length c2)∧w'.cell? ⟨w.heap.size+1,1,none⟩=some (.slice (some ⟨bq,oq,none⟩) x.list.length d2)∧w'.cell? ⟨bp,op+k*8,none⟩=some (.int .i64 x.list[k].op)∧w'.cell? ⟨bp,op+k*8+1,none⟩=some (.int .i64 x.list[k].dst)∧w'.cell? ⟨bp,op+k*8+2,none⟩=some (.bool x.list[k].ar)∧w'.cell? ⟨bp,op+k*8+3,none⟩=some (.int .i64 x.list[k].an)∧w'.cell? ⟨bp,op+k*8+4,none⟩=some (.bool x.list[k].br)∧w'.cell? ⟨bp,op+k*8+5,none⟩=some (.int .i64 x.list[k].bn)∧w'.cell? ⟨bp,op+k*8+6,none⟩=some (.int .i64 x.list[k].fn)∧w'.cell? ⟨bp,op+k*8+7,none⟩=some (.slice qa x.list[k].args.length ca)∧
      w'.cell? ⟨bq,oq+k*8,none⟩=some (.int .i64 x.list[k].op)∧w'.cell? ⟨bq,oq+k*8+1,none⟩=some (.int .i64 x.list[k].dst)∧w'.cell? ⟨bq,oq+k*8+2,none⟩=some (.bool x.list[k].ar)∧w'.cell? ⟨bq,oq+k*8+3,none⟩=some (.int .i64 x.list[k].an)∧w'.cell? ⟨bq,oq+k*8+4,none⟩=some (.bool x.list[k].br)∧w'.cell? ⟨bq,oq+k*8+5,none⟩=some (.int .i64 x.list[k].bn)∧w'.cell? ⟨bq,oq+k*8+6,none⟩=some (.int .i64 x.list[k].fn)∧w'.cell? ⟨bq,oq+k*8+7,none⟩=some (.slice qb x.list[k].args.length cb)) (go_keep)
     (first|(go_at_call 108;refine(insSm x.list[k] _ _ _ _ _ l1 (HS1.out.mono bZ (by omega) fun _ _ h=>h) (HS2.out.mono bZ (by omega) fun _ _ h=>h)).mono ?_;rintro e w2 ⟨rfl,hb2⟩;have hq1:=fun o=>hb2.cell (p:=⟨bp,o,none⟩) (by simpa using hz1);have hq2:=fun o=>hb2.cell (p:=⟨bq,o,none⟩) (by simpa using hz2);have hq5:=hb2.cell (p:=⟨w.heap.size,1,none⟩) (by simpa using za);have hq6:=hb2.cell (p:=⟨w.heap.size+1,1,none⟩) (by simpa using zb)))
    all_goals
     have HN:Hid (Below W0.heap.size W0 w2):=HBr.out.trans (Below.trans bZ (hb2.mono (by simp;exact HBr.out.size)))
     clear hb2 hq1 hq2 hq5 hq6
     go_wp2
     exact⟨⟨k+1,by omega,by go_num,HN.out⟩,by simp[intOf];omega⟩
   obtain rfl:k=x.list.length:=by omega
   have a2:wr.cell? ⟨w.heap.size,2,none⟩=some (.int .i64 x.fin.kind):=(blk HA1.out).1 2
   have b2:wr.cell? ⟨w.heap.size+1,2,none⟩=some (.int .i64 x.fin.kind):=(blk HB1.out).1 2
   have a3:wr.cell? ⟨w.heap.size,3,none⟩=some (.bool x.fin.onr):=(blk HA1.out).1 3
   have b3:wr.cell? ⟨w.heap.size+1,3,none⟩=some (.bool x.fin.onr):=(blk HB1.out).1 3
   have a4:wr.cell? ⟨w.heap.size,4,none⟩=some (.int .i64 x.fin.onn):=(blk HA1.out).1 4
   have b4:wr.cell? ⟨w.heap.size+1,4,none⟩=some (.int .i64 x.fin.onn):=(blk HB1.out).1 4
   have a5:wr.cell? ⟨w.heap.size,5,none⟩=some (.slice p3 x.fin.to.length c3):=(blk HA1.out).1 5
   have b5:wr.cell? ⟨w.heap.size+1,5,none⟩=some (.slice q3 x.fin.to.length d3):=(blk HB1.out).1 5
   go_wp2_with fail
   refine(intsS x.fin.to p3 q3 c3 d3 wr hq9 (HT.out.mono HBw.out (by omega) fun _ _ h=>h) (GT.out.mono HBw.out (by omega) fun _ _ h=>h)).mono ?_
   rintro e w2 ⟨rfl,hb2⟩
   have HN:Hid (Below w.heap.size w w2):=HBw.out.trans (hb2.mono HBw.out.size)
   clear hb2
   go_wp2
   go_ret
   exact⟨rfl,HN.out⟩

theorem blkSlot {w:World} {p:Option Addr} {xs:List BlkL} (h:SliceAt w 6 (BlkR w) p xs) {i:Nat} (hi:i<xs.length):∃b o q1 c1 q2 c2 q3 c3,p=some ⟨b,o,none⟩∧w.cell? ⟨b,o+i*6,none⟩=some (.slice q1 xs[i].phis.length c1)∧w.cell? ⟨b,o+i*6+1,none⟩=some (.slice q2 xs[i].list.length c2)∧w.cell? ⟨b,o+i*6+2,none⟩=some (.int .i64 xs[i].fin.kind)∧w.cell? ⟨b,o+i*6+3,none⟩=some (.bool xs[i].fin.onr)∧w.cell? ⟨b,o+i*6+4,none⟩=some (.int .i64 xs[i].fin.onn)∧w.cell? ⟨b,o+i*6+5,none⟩=some (.slice q3 xs[i].fin.to.length c3)∧
  SlF w 2 32 (PhiR w) (.slice q1 xs[i].phis.length c1) xs[i].phis∧SlF w 8 80 (InsR w) (.slice q2 xs[i].list.length c2) xs[i].list∧SlF w 1 8 xT (.slice q3 xs[i].fin.to.length c3) xs[i].fin.to:=by
 rcases h with rfl|⟨b,o,hp,h⟩
 ·simp at hi
 obtain⟨cs,_,hc,hr⟩:=h i hi
 obtain⟨v1,v2,v3,rfl,_,_,h1,h2,h3⟩:=hr
 obtain⟨q1,c1,rfl,_⟩:=h1.outC
 obtain⟨q2,c2,rfl,_⟩:=h2.outC
 obtain⟨q3,c3,rfl,_⟩:=h3.outC
 exact⟨b,o,q1,c1,q2,c2,q3,c3,hp,hc 0 (by omega),hc 1 (by omega),hc 2 (by omega),hc 3 (by omega),hc 4 (by omega),hc 5 (by omega),h1,h2,h3⟩

theorem func_same (x:FunL) (p q:Option Addr) (c d:Nat) (w:World) (_hn:x.name.size≤reachBytes) (hl:x.blocks.length*96≤reachBytes) (hP:SliceAt w 6 (BlkR w) p x.blocks) (hQ:SliceAt w 6 (BlkR w) q x.blocks) :
  Calls Tryz.prog 36 #[.agg #[.string x.name,.int .i64 x.params,.int .i64 x.regs,.slice p x.blocks.length c],.agg #[.string x.name,.int .i64 x.params,.int .i64 x.regs,.slice q x.blocks.length d]] w fun e w'=>e = .returned (.bool true)∧Below w.heap.size w w':=by
 have hlb:x.blocks.length*96≤140737488351232:=hl
 have HP:=q7 hP
 have HQ:=q7 hQ
 clear hP hQ hl
 go_enter Tryz.func36,Tryz.ntmps36
 go_wp2_with fail
 obtain⟨W0,hW0⟩:∃W0,W0=(w.alloc (.cells #[.string x.name,.int .i64 x.params,.int .i64 x.regs,.slice p x.blocks.length c] 37)).alloc (.cells #[.string x.name,.int .i64 x.params,.int .i64 x.regs,.slice q x.blocks.length d] 37):=⟨_,rfl⟩
 rw[←hW0]
 have hz0:W0.heap.size=w.heap.size+1+1:=by rw[hW0];simp
 have HB0:Hid (Below w.heap.size w W0):=q7 (by rw[hW0];exact bZ)
 have HA:Hid (W0.heap[w.heap.size]?=some (.cells #[.string x.name,.int .i64 x.params,.int .i64 x.regs,.slice p x.blocks.length c] 37 (0,0))):=q7 (by rw[hW0];exact qh (qj rfl))
 have HB:Hid (W0.heap[w.heap.size+1]?=some (.cells #[.string x.name,.int .i64 x.params,.int .i64 x.regs,.slice q x.blocks.length d] 37 (0,0))):=q7 (by rw[hW0];exact qj (by simp))
 clear hW0
 go_loopw [5] (fun i wr=>∃k:Nat,k≤x.blocks.length∧i = .int .i64 k∧Below W0.heap.size W0 wr) (fun i _=>x.blocks.length - (intOf i).toNat)
 case atStart=>exact⟨0,by omega,rfl,Below.refl _ _⟩
 case round=>
  obtain⟨k,hk,rfl,hb⟩:=hrel
  have HBr:=q7 hb
  have HBw:Hid (Below w.heap.size w wr):=HB0.out.trans (hb.mono (by omega))
  have hA:=(hb.block w.heap.size (by omega)).trans HA.out
  have hB:=(hb.block (w.heap.size+1) (by omega)).trans HB.out
  have a0:wr.cell? ⟨w.heap.size,3,none⟩=some (.slice p x.blocks.length c):=(blk hA).1 3
  have b0:wr.cell? ⟨w.heap.size+1,3,none⟩=some (.slice q x.blocks.length d):=(blk hB).1 3
  have za:=q9 hA
  have zb:=q9 hB
  clear hb hA hB
  by_cases hlt:k<x.blocks.length
  rotate_left
  ·obtain rfl:k=x.blocks.length:=by omega
   go_wp2_with fail
   go_ret
   exact⟨rfl,HBw.out⟩
  obtain⟨bp,op,q1,c1,q2,c2,q3,c3,hp,e0,e1,e2,e3,e4,e5,s1,s2,s3⟩:=blkSlot (xp HP.out HBw.out) hlt
  obtain⟨bq,oq,r1,d1,r2,d2,r3,d3,hq,f0,f1,f2,f3,f4,f5,t1,t2,t3⟩:=blkSlot (xp HQ.out HBw.out) hlt
  subst hp hq
  have hz1:=q8 e0
  have hz2:=q8 f0
  have HS:=q7 (And.intro s1 (And.intro s2 (And.intro s3 (And.intro t1 (And.intro t2 t3)))))
  clear s1 s2 s3 t1 t2 t3
  have g1:(0:Int)≤(k:Int):=by omega
  have g2:(k:Int)<x.blocks.length:=by omega
  have hbl:∀W',Below wr.heap.size wr W'→SlF W' 2 32 (PhiR W') (.slice q1 x.blocks[k].phis.length c1) x.blocks[k].phis∧SlF W' 8 80 (InsR W') (.slice q2 x.blocks[k].list.length c2) x.blocks[k].list∧SlF W' 1 8 xT (.slice q3 x.blocks[k].fin.to.length c3) x.blocks[k].fin.to∧SlF W' 2 32 (PhiR W') (.slice r1 x.blocks[k].phis.length d1) x.blocks[k].phis∧SlF W' 8 80 (InsR W') (.slice r2 x.blocks[k].list.length d2) x.blocks[k].list∧SlF W' 1 8 xT (.slice r3 x.blocks[k].fin.to.length d3) x.blocks[k].fin.to:=fun W' h=>
   ⟨HS.out.1.mono h (by omega) fun _ _ g=>g.below h,HS.out.2.1.mono h (by omega) fun _ _ g=>g.below h,HS.out.2.2.1.mono h (by omega) fun _ _ g=>g,HS.out.2.2.2.1.mono h (by omega) fun _ _ g=>g.below h,HS.out.2.2.2.2.1.mono h (by omega) fun _ _ g=>g.below h,HS.out.2.2.2.2.2.mono h (by omega) fun _ _ g=>g⟩
  have HBl:=q7 hbl
  clear hbl
  go_wp2_with fail
  go_region_held3 (fun w'=>w'.cell? ⟨w.heap.size,3,none⟩=some (.slice (some ⟨bp,op,none⟩) x.blocks.length c)∧w'.cell? ⟨w.heap.size+1,3,none⟩=some (.slice (some ⟨bq,oq,none⟩) x.blocks.length d)∧w'.cell? ⟨bp,op+k*6,none⟩=some (.slice q1 x.blocks[k].phis.length c1)∧w'.cell? ⟨bp,op+k*6+1,none⟩=some (.slice q2 x.blocks[k].list.length c2)∧w'.cell? ⟨bp,op+k*6+2,none⟩=some (.int .i64 x.blocks[k].fin.kind)∧w'.cell? ⟨bp,op+k*6+3,none⟩=some (.bool x.blocks[k].fin.onr)∧w'.cell? ⟨bp,op+k*6+4,none⟩=some (.int .i64 x.blocks[k].fin.onn)∧w'.cell? ⟨bp,op+k*6+5,none⟩=some (.slice q3 x.blocks[k].fin.to.length c3)∧
    w'.cell? ⟨bq,oq+k*6,none⟩=some (.slice r1 x.blocks[k].phis.length d1)∧w'.cell? ⟨bq,oq+k*6+1,none⟩=some (.slice r2 x.blocks[k].list.length d2)∧w'.cell? ⟨bq,oq+k*6+2,none⟩=some (.int .i64 x.blocks[k].fin.kind)∧w'.cell? ⟨bq,oq+k*6+3,none⟩=some (.bool x.blocks[k].fin.onr)∧w'.cell? ⟨bq,oq+k*6+4,none⟩=some (.int .i64 x.blocks[k].fin.onn)∧w'.cell? ⟨bq,oq+k*6+5,none⟩=some (.slice r3 x.blocks[k].fin.to.length d3)) (go_keep)
   (first|(go_at_call 68;obtain⟨t1,t2,t3,t4,t5,t6⟩:=HBl.out wr.drew (Below.refl _ wr).drew;refine(yi x.blocks[k] _ _ _ _ _ _ _ _ _ _ _ _ _ t1 t2 t3 t4 t5 t6).mono ?_;rintro e w2 ⟨rfl,hb2⟩;have hq1:=fun o=>hb2.cell (p:=⟨bp,o,none⟩) (by simpa using hz1);have hq2:=fun o=>hb2.cell (p:=⟨bq,o,none⟩) (by simpa using hz2);have hq5:=hb2.cell (p:=⟨w.heap.size,3,none⟩) (by simpa using za);have hq6:=hb2.cell (p:=⟨w.heap.size+1,3,none⟩) (by simpa using zb)))
  all_goals
   have HN:Hid (Below W0.heap.size W0 w2):=HBr.out.trans (Below.trans bZ (hb2.mono (by simp;exact HBr.out.size)))
   clear hb2 hq1 hq2 hq5 hq6
   go_wp2
   exact⟨⟨k+1,by omega,by go_num,HN.out⟩,by simp[intOf];omega⟩

theorem glosS {w:World} {p:Option Addr} {xs:List GloL} (h:SliceAt w 3 (GloR w) p xs) {i:Nat} (hi:i<xs.length):∃b o q c,p=some ⟨b,o,none⟩∧w.cell? ⟨b,o+i*3,none⟩=some (.string xs[i].name)∧w.cell? ⟨b,o+i*3+1,none⟩=some (.int .i64 xs[i].size)∧w.cell? ⟨b,o+i*3+2,none⟩=some (.slice q xs[i].init.length c)∧xs[i].init.length*8≤140737488351232∧SliceAt w 1 xT q xs[i].init:=by
 obtain⟨b,o,q,c,hp,h1,h2,h3,_,_,h4,h5⟩:=gloGet h (Below.refl _ _) hi
 exact⟨b,o,q,c,hp,h1,h2,h3,h4,h5⟩
theorem JD (xs:List GloL) (p q:Option Addr) (c d:Nat) (w:World) (hl:xs.length*48≤reachBytes) (hP:SliceAt w 3 (GloR w) p xs) (hQ:SliceAt w 3 (GloR w) q xs) :
  Calls Tryz.prog 35 #[.slice p xs.length c,.slice q xs.length d] w fun e w'=>e = .returned (.bool true)∧Below w.heap.size w w':=by
 have hlb:xs.length*48≤140737488351232:=hl
 have HP:=q7 hP
 have HQ:=q7 hQ
 clear hP hQ hl
 have hle:((xs.length:Int) != xs.length)=false:=by simp
 go_enter Tryz.func35,Tryz.ntmps35
 go_wp2_with fail
 go_loopw [5] (fun i wr=>∃k:Nat,k≤xs.length∧i = .int .i64 k∧Below w.heap.size w wr) (fun i _=>xs.length - (intOf i).toNat)
 case atStart=>exact⟨0,by omega,rfl,Below.refl _ _⟩
 case round=>
  obtain⟨k,hk,rfl,hb⟩:=hrel
  have HBr:=q7 hb
  clear hb
  by_cases hlt:k<xs.length
  ·obtain⟨bp,op,qa,ca,hp,e0,e1,e2,l1,s1⟩:=glosS (zT HP.out HBr.out) hlt
   obtain⟨bq,oq,qb,cb,hq,f0,f1,f2,l2,s2⟩:=glosS (zT HQ.out HBr.out) hlt
   subst hp hq
   have hz1:=q8 e0
   have hz2:=q8 f0
   have HS1:=q7 s1
   have HS2:=q7 s2
   clear s1 s2
   have g1:(0:Int)≤(k:Int):=by omega
   have g2:(k:Int)<xs.length:=by omega
   go_wp2_with fail
   go_region_held3 (fun w'=>w'.cell? ⟨bp,op+k*3,none⟩=some (.string xs[k].name)∧w'.cell? ⟨bp,op+k*3+1,none⟩=some (.int .i64 xs[k].size)∧w'.cell? ⟨bp,op+k*3+2,none⟩=some (.slice qa xs[k].init.length ca)∧w'.cell? ⟨bq,oq+k*3,none⟩=some (.string xs[k].name)∧w'.cell? ⟨bq,oq+k*3+1,none⟩=some (.int .i64 xs[k].size)∧w'.cell? ⟨bq,oq+k*3+2,none⟩=some (.slice qb xs[k].init.length cb)) (go_keep)
    (first|(go_at_call 67;refine(intsS xs[k].init _ _ _ _ _ l1 (HS1.out.mono bZ (by omega) fun _ _ h=>h) (HS2.out.mono bZ (by omega) fun _ _ h=>h)).mono ?_;rintro e w2 ⟨rfl,hb2⟩;have hq1:=fun o=>hb2.cell (p:=⟨bp,o,none⟩) (by simpa using hz1);have hq2:=fun o=>hb2.cell (p:=⟨bq,o,none⟩) (by simpa using hz2)))
   all_goals
    have HN:Hid (Below w.heap.size w w2):=HBr.out.trans (Below.trans bZ (hb2.mono (by simp;exact HBr.out.size)))
    clear hb2 hq1 hq2
    go_wp2
    exact⟨⟨k+1,by omega,by go_num,HN.out⟩,by simp[intOf];omega⟩
  obtain rfl:k=xs.length:=by omega
  go_wp2_with fail
  go_ret
  exact⟨rfl,HBr.out⟩

theorem yj (x:UniL) (p1 p2 q1 q2:Option Addr) (c1 c2 d1 d2:Nat) (w:World) (hG:SlF w 3 48 (GloR w) (.slice p1 x.globals.length c1) x.globals) (hF:SlF w 4 56 (FunR w) (.slice p2 x.funcs.length c2) x.funcs) (gG:SlF w 3 48 (GloR w) (.slice q1 x.globals.length d1) x.globals) (gF:SlF w 4 56 (FunR w) (.slice q2 x.funcs.length d2) x.funcs) :
  Calls Tryz.prog 14 #[.agg #[.slice p1 x.globals.length c1,.slice p2 x.funcs.length c2],.agg #[.slice q1 x.globals.length d1,.slice q2 x.funcs.length d2]] w fun e w'=>e = .returned (.bool true)∧Below w.heap.size w w':=by
 have hlf:x.funcs.length*56≤140737488351232:=hF.bdC
 have HBd:=q7 hG.bdC
 have hG':SliceAt w 3 (GloR w) p1 x.globals:=by obtain⟨_,_,e,_,_,h⟩:=hG.outC;cases e;exact h
 have hF':SliceAt w 4 (FunR w) p2 x.funcs:=by obtain⟨_,_,e,_,_,h⟩:=hF.outC;cases e;exact h
 have gG':SliceAt w 3 (GloR w) q1 x.globals:=by obtain⟨_,_,e,_,_,h⟩:=gG.outC;cases e;exact h
 have gF':SliceAt w 4 (FunR w) q2 x.funcs:=by obtain⟨_,_,e,_,_,h⟩:=gF.outC;cases e;exact h
 have HG:=q7 hG'
 have HF:=q7 hF'
 have GG:=q7 gG'
 have GF:=q7 gF'
 clear hG hF gG gF hG' hF' gG' gF'
 have hle:((x.funcs.length:Int) != x.funcs.length)=false:=by simp
 go_enter Tryz.func14,Tryz.ntmps14
 go_wp2_with fail
 refine(JD x.globals _ _ _ _ _ HBd.out (zT HG.out bZ) (zT GG.out bZ)).mono ?_
 rintro e w1 ⟨rfl,hb1⟩
 have HB1:Hid (Below w.heap.size w w1):=Below.trans bZ (hb1.mono (by simp;omega))
 have HA:=q7 (qd hb1 (k:=w.heap.size) (by simp;omega) (qh (qj (w:=w) (o:=.cells #[.slice p1 x.globals.length c1,.slice p2 x.funcs.length c2] 25) rfl)))
 have HB:=q7 (qd hb1 (k:=w.heap.size+1) (by simp) (qj (w:=w.alloc (.cells #[.slice p1 x.globals.length c1,.slice p2 x.funcs.length c2] 25)) (o:=.cells #[.slice q1 x.globals.length d1,.slice q2 x.funcs.length d2] 25) (by simp)))
 have a1:w1.cell? ⟨w.heap.size,1,none⟩=some (.slice p2 x.funcs.length c2):=(blk HA.out).1 1
 have b1:w1.cell? ⟨w.heap.size+1,1,none⟩=some (.slice q2 x.funcs.length d2):=(blk HB.out).1 1
 clear hb1
 go_wp2_with fail
 clear a1 b1
 go_loopw [5] (fun i wr=>∃k:Nat,k≤x.funcs.length∧i = .int .i64 k∧Below w1.heap.size w1 wr) (fun i _=>x.funcs.length - (intOf i).toNat)
 case atStart=>exact⟨0,by omega,rfl,Below.refl _ _⟩
 case round=>
  obtain⟨k,hk,rfl,hb⟩:=hrel
  have HBr:=q7 hb
  have HBw:Hid (Below w.heap.size w wr):=HB1.out.trans (hb.mono HB1.out.size)
  have hA:=(hb.block w.heap.size (q9 HA.out)).trans HA.out
  have hB:=(hb.block (w.heap.size+1) (q9 HB.out)).trans HB.out
  have a1:wr.cell? ⟨w.heap.size,1,none⟩=some (.slice p2 x.funcs.length c2):=(blk hA).1 1
  have b1:wr.cell? ⟨w.heap.size+1,1,none⟩=some (.slice q2 x.funcs.length d2):=(blk hB).1 1
  have za:=q9 hA
  have zb:=q9 hB
  clear hb hA hB
  by_cases hlt:k<x.funcs.length
  ·obtain⟨bp,op,qa,ca,hp,e0,e1,e2,e3,n1,_,_,l1,s1⟩:=vX HF.out HBw.out hlt
   obtain⟨bq,oq,qb,cb,hq,f0,f1,f2,f3,n2,_,_,l2,s2⟩:=vX GF.out HBw.out hlt
   subst hp hq
   have hz1:=q8 e0
   have hz2:=q8 f0
   have HS1:=q7 s1
   have HS2:=q7 s2
   clear s1 s2
   have g1:(0:Int)≤(k:Int):=by omega
   have g2:(k:Int)<x.funcs.length:=by omega
   go_wp2_with fail
   go_region_held3 (fun w'=>w'.cell? ⟨w.heap.size,1,none⟩=some (.slice (some ⟨bp,op,none⟩) x.funcs.length c2)∧w'.cell? ⟨w.heap.size+1,1,none⟩=some (.slice (some ⟨bq,oq,none⟩) x.funcs.length d2)∧w'.cell? ⟨bp,op+k*4,none⟩=some (.string x.funcs[k].name)∧w'.cell? ⟨bp,op+k*4+1,none⟩=some (.int .i64 x.funcs[k].params)∧w'.cell? ⟨bp,op+k*4+2,none⟩=some (.int .i64 x.funcs[k].regs)∧w'.cell? ⟨bp,op+k*4+3,none⟩=some (.slice qa x.funcs[k].blocks.length ca)∧w'.cell? ⟨bq,oq+k*4,none⟩=some (.string x.funcs[k].name)∧w'.cell? ⟨bq,oq+k*4+1,none⟩=some (.int .i64 x.funcs[k].params)∧w'.cell? ⟨bq,oq+k*4+2,none⟩=some (.int .i64 x.funcs[k].regs)∧w'.cell? ⟨bq,oq+k*4+3,none⟩=some (.slice qb x.funcs[k].blocks.length cb)) (go_keep)
    (first|(go_at_call 36;refine(func_same x.funcs[k] _ _ _ _ _ n1 l1 (xp HS1.out bZ) (xp HS2.out bZ)).mono ?_;rintro e w2 ⟨rfl,hb2⟩;have hq1:=fun o=>hb2.cell (p:=⟨bp,o,none⟩) (by simpa using hz1);have hq2:=fun o=>hb2.cell (p:=⟨bq,o,none⟩) (by simpa using hz2);have hq5:=hb2.cell (p:=⟨w.heap.size,1,none⟩) (by simpa using za);have hq6:=hb2.cell (p:=⟨w.heap.size+1,1,none⟩) (by simpa using zb)))
   all_goals
    have HN:Hid (Below w1.heap.size w1 w2):=HBr.out.trans (Below.trans bZ (hb2.mono (by simp;exact HBr.out.size)))
    clear hb2 hq1 hq2 hq5 hq6
    go_wp2
    exact⟨⟨k+1,by omega,by go_num,HN.out⟩,by simp[intOf];omega⟩
  obtain rfl:k=x.funcs.length:=by omega
  go_wp2_with fail
  go_ret
  exact⟨rfl,HBw.out⟩

theorem JE (w:World):Calls Tryz.prog 11 #[.agg #[.slice none 0 0,.slice none 0 0]] w fun e w'=>e = .returned (.bool true)∧Below w.heap.size w w':=by
 go_enter Tryz.func11,Tryz.ntmps11
 go_wp2_with fail
 go_ret
 exact⟨rfl,by exact bZ⟩
end Go.Proofs.YtecdphhdmjmmnaaGreatDoor
namespace Go.Proofs.YtecdphhdmjmmnaaGreatDoor
open Go.RowKit Go.Shelf

theorem vB:ZO zh:=fun f hp b hb=>by
 cases e:f.blocks.any y9 with
 | true=>rw[Xr e]at hp;cases hp
 | false=>exact(Zf e).1 b hb
def TlO (u:UniL) (V:List FunL):Prop:=ChkOk u∧V=(qZ (xx zh (qZ u))).funcs
theorem TlO.len {u:UniL} {V:List FunL} (h:TlO u V):V.length=u.funcs.length:=by
 rw[h.2]
 simp[qZ,xx]
theorem TlO.eq {u:UniL} {V:List FunL} (h:TlO u V):({ globals:=u.globals,funcs:=V }:UniL)=qZ (xx zh (qZ u)):=by
 rw[h.2]
 rfl
theorem TlO.okY {u:UniL} {V:List FunL} (h:TlO u V):ChkOk (xx zh (qZ u)):=(h.1.tidy.2.tail vB).2
theorem TlO.ok {u:UniL} {V:List FunL} (h:TlO u V):chk { globals:=u.globals,funcs:=V }=(0,0):=by
 rw[h.eq]
 exact h.okY.tidy.1
theorem TlO.again {u:UniL} {V:List FunL} (h:TlO u V):qZ (xx zh (qZ { globals:=u.globals,funcs:=V }))={ globals:=u.globals,funcs:=V }:=by
 have h2:qZ (qZ (xx zh (qZ u)))=qZ (xx zh (qZ u)):=h.okY.twice
 rw[h.eq,h2,KL vB h.1,h2]
def TlG (u:UniL) (V:List FunL) (e:Ending) (w':World):Prop:=∃p1 c1 p2 c2,e = .returned (.tuple #[.agg #[.slice p1 u.globals.length c1,.slice p2 u.funcs.length c2],.agg #[.int .i64 0,.int .i64 0]])∧SlF w' 3 48 (GloR w') (.slice p1 u.globals.length c1) u.globals∧SlF w' 4 56 (FunR w') (.slice p2 u.funcs.length c2) V
def TlB (e:Ending):Prop:=∃c k:Int,(c != 0)=true∧e = .returned (.tuple #[.agg #[.slice none 0 0,.slice none 0 0],.agg #[.int .i64 c,.int .i64 k]])
theorem UniO.readT {w:World} {p1 p2:Option Addr} {n1 c1 n2 c2:Nat} {x:UniL} {S:Blks} (h:UniO w [.slice p1 n1 c1,.slice p2 n2 c2] x S):SlF w 3 48 (GloR w) (.slice p1 n1 c1) x.globals∧SlF w 4 56 (FunR w) (.slice p2 n2 c2) x.funcs:=by
 obtain⟨v1,v2,h0,h1,h2⟩:=h.read
 simp only[List.cons.injEq,and_true]at h0
 obtain⟨rfl,rfl⟩:=h0
 exact⟨h1,h2⟩
theorem tlo_any (u:UniL) (gp fp:Option Addr) (gc fc:Nat) (w:World) (hG:SlF w 3 48 (GloR w) (.slice gp u.globals.length gc) u.globals) (hF:SlF w 4 56 (FunR w) (.slice fp u.funcs.length fc) u.funcs) (hw0:Ways w) :
  Calls Tryz.prog 9 #[.agg #[.slice gp u.globals.length gc,.slice fp u.funcs.length fc]] w fun e w'=>(TlB e∨(ChkOk u∧∃V,TlO u V∧TlG u V e w'))∧Below w.heap.size w w':=by
 have hgl:u.globals.length*48≤140737488351232:=hG.bdC
 have hfl:u.funcs.length*56≤140737488351232:=hF.bdC
 by_cases h:(chk u).1=0
 ·have hc:=(vk h).2
  refine(tld_ok u gp fp gc fc w hgl hG hfl hF hw0 h).mono ?_
  rintro e w' ⟨⟨p1,c1,p2,c2,rfl,S,hS,_⟩,hb⟩
  exact⟨.inr ⟨hc,_,⟨hc,rfl⟩,p1,c1,p2,c2,rfl,hS.readT⟩,hb⟩
 have hG':SliceAt w 3 (GloR w) gp u.globals:=by
  obtain⟨p,c,e,_,_,h⟩:=hG.outC
  cases e
  exact h
 have hF':SliceAt w 4 (FunR w) fp u.funcs:=by
  obtain⟨p,c,e,_,_,h⟩:=hF.outC
  cases e
  exact h
 refine(tld_bad u gp fp gc fc w hgl hG' hfl hF' hw0 h).mono ?_
 rintro e w' ⟨rfl,hb⟩
 exact⟨.inl ⟨_,_,by simpa using h,rfl⟩,hb⟩
theorem tlo_again {u:UniL} {V:List FunL} (hV:TlO u V) (gp fp:Option Addr) (gc fc:Nat) (w:World) (hG:SlF w 3 48 (GloR w) (.slice gp u.globals.length gc) u.globals) (hF:SlF w 4 56 (FunR w) (.slice fp u.funcs.length fc) V) (hw0:Ways w) :
  Calls Tryz.prog 9 #[.agg #[.slice gp u.globals.length gc,.slice fp u.funcs.length fc]] w fun e w'=>TlG u V e w'∧Below w.heap.size w w':=by
 have hl:=hV.len
 have hgl:u.globals.length*48≤140737488351232:=hG.bdC
 have hfl:V.length*56≤140737488351232:=hF.bdC
 rw[←hl]at hF
 have h:=tld_ok { globals:=u.globals,funcs:=V } gp fp gc fc w hgl hG hfl hF hw0 (by rw[hV.ok])
 rw[←hl]
 refine h.mono ?_
 rintro e w' ⟨⟨p1,c1,p2,c2,rfl,S,hS,_⟩,hb⟩
 rw[hV.again]at hS
 refine⟨⟨p1,c1,p2,c2,by rw[hl],?_⟩,hb⟩
 rw[←hl]
 exact hS.readT

theorem tar_all (u:UniL) (gp fp:Option Addr) (gc fc:Nat) (w:World) (hG:SlF w 3 48 (GloR w) (.slice gp u.globals.length gc) u.globals) (hF:SlF w 4 56 (FunR w) (.slice fp u.funcs.length fc) u.funcs) (hw0:Ways w) :
  Calls Tryz.prog 5 #[.agg #[.slice gp u.globals.length gc,.slice fp u.funcs.length fc]] w fun e w'=>e = .returned (.bool true)∧Below w.heap.size w w':=by
 have hF0:SliceAt w 4 (FunR w) fp u.funcs:=by
  obtain⟨p,c,e,_,_,h⟩:=hF.outC
  cases e
  exact h
 have hgl:u.globals.length*48≤140737488351232:=hG.bdC
 have hfl:u.funcs.length*56≤140737488351232:=hF.bdC
 have HGs:=q7 hG
 have HFs:=q7 hF
 have HW:=q7 hw0
 have HF0:=q7 hF0
 clear hG hF hF0 hw0
 go_enter Tryz.func5,Tryz.ntmps5
 go_wp2_with fail
 obtain⟨w1,hw1⟩:∃w1,w1=w.alloc (.cells #[.slice gp u.globals.length gc,.slice fp u.funcs.length fc] 25):=⟨_,rfl⟩
 rw[←hw1]
 have hb1:Below w.heap.size w w1:=by rw[hw1];exact bZ
 have hO1:w1.heap[w.heap.size]?=some (.cells #[.slice gp u.globals.length gc,.slice fp u.funcs.length fc] 25 (0,0)):=by rw[hw1];exact qj rfl
 have hz1:w1.heap.size=w.heap.size+1:=by rw[hw1];simp
 have hgm:=SlF.mono HGs.out hb1 (by omega) fun _ _ h=>h.below hb1
 have hfm:=SlF.mono HFs.out hb1 (by omega) fun _ _ h=>h.below hb1
 have HB1:=q7 hb1
 have HO1:=q7 hO1
 clear hw1 hb1 hO1
 refine(tlo_any u gp fp gc fc w1 hgm hfm (HW.out.below HB1.out)).mono ?_
 rintro e w2 ⟨h,hb2⟩
 have HB2:=q7 (HB1.out.trans (hb2.mono HB1.out.size))
 have HO2:=q7 ((hb2.block _ (by omega)).trans HO1.out)
 have hz2:=hb2.size
 clear hgm hfm hb2
 rcases h with⟨c,k,hne,rfl⟩|⟨hc,V,hV,p1,c1,p2,c2,rfl,hgr,hfr⟩
 ·go_wp2_with fail
  refine(JE _).mono ?_
  rintro e w3 ⟨rfl,hb3⟩
  have HB3:Hid (Below w.heap.size w w3):=q7 (HB2.out.trans (Below.trans bZ (hb3.mono (by simp;omega))))
  clear hb3
  go_wp2_with fail
  go_ret
  exact⟨rfl,HB3.out⟩
 obtain⟨m,hm,_⟩:=hc.main
 have hpos:0<u.funcs.length:=Nat.lt_of_le_of_lt (Nat.zero_le _) (Zh hm)
 have HC:=q7 hc
 have HV:=q7 hV
 have HGr:=q7 hgr
 have HFr:=q7 hfr
 clear hc hm hV hgr hfr
 have hp1:decide (0<(u.funcs.length:Int))=true:=decide_eq_true (by omega)
 go_wp2_with fail
 obtain⟨W3,hW3⟩:∃W3,W3=(w2.alloc (.cells #[.slice p1 u.globals.length c1,.slice p2 u.funcs.length c2] 25)).alloc (.cells #[.int .i64 0,.int .i64 0] 27):=⟨_,rfl⟩
 rw[←hW3]
 have hz3:W3.heap.size=w2.heap.size+1+1:=by rw[hW3];simp
 have hb3:Below w2.heap.size w2 W3:=by rw[hW3];exact bZ
 have hO3:W3.heap[w2.heap.size]?=some (.cells #[.slice p1 u.globals.length c1,.slice p2 u.funcs.length c2] 25 (0,0)):=by rw[hW3];exact qh (qj rfl)
 have HO4:=q7 ((hb3.block _ (by omega)).trans HO2.out)
 have HB3:=q7 hb3
 have HBw:=q7 (HB2.out.trans (hb3.mono HB2.out.size))
 have HO3:=q7 hO3
 clear hW3 hb3 hO3
 have hgr:=HGr.out.mono HB3.out (by omega) fun _ _ h=>h.below HB3.out
 have hfr:=HFr.out.mono HB3.out (by omega) fun _ _ h=>h.below HB3.out
 have hje:=q7 hgr
 have hjf:=q7 hfr
 refine(tlo_again HV.out p1 p2 c1 c2 W3 hgr hfr (HW.out.below HBw.out)).mono ?_
 rintro e w5 ⟨⟨q1,d1,q2,d2,rfl,hr1,hr2⟩,hb5⟩
 have HR1:=q7 hr1
 have HR2:=q7 hr2
 have HB5:=q7 hb5
 have hdP:=q7 (HBw.out.trans (hb5.mono HBw.out.size))
 have hz5:=hb5.size
 have hzw:=hdP.out.size
 have hjg:=q7 ((hb5.block _ (by omega)).trans HO3.out)
 have v0:w5.cell? ⟨w2.heap.size,0,none⟩=some (.slice p1 u.globals.length c1):=(blk hjg.out).1 0
 have v1:w5.cell? ⟨w2.heap.size,1,none⟩=some (.slice p2 u.funcs.length c2):=(blk hjg.out).1 1
 have vz:=q9 hjg.out
 clear hr1 hr2 hb5 hgr hfr
 obtain⟨W6,hW6⟩:∃W6,W6=(w5.alloc (.cells #[.slice q1 u.globals.length d1,.slice q2 u.funcs.length d2] 25)).alloc (.cells #[.int .i64 0,.int .i64 0] 27):=⟨_,rfl⟩
 have hb6:Below w5.heap.size w5 W6:=by rw[hW6];exact bZ
 have hcS:Below W3.heap.size W3 W6:=HB5.out.trans (hb6.mono HB5.out.size)
 have hVl:=HV.out.len
 have hu:=yj { globals:=u.globals,funcs:=V } p1 p2 q1 q2 c1 c2 d1 d2 W6 (hje.out.mono hcS (by omega) fun _ _ h=>h.below hcS) (by rw[hVl];exact hjf.out.mono hcS (by omega) fun _ _ h=>h.below hcS) (HR1.out.mono hb6 (by omega) fun _ _ h=>h.below hb6) (by rw[hVl];exact HR2.out.mono hb6 (by omega) fun _ _ h=>h.below hb6)
 rw[hVl,hW6]at hu
 rw[hW6]at hb6
 have HU:=q7 hu
 have HB6:=q7 hb6
 clear hW6 hb6 hcS hu hVl
 go_wp2_with (go_at_call 14;refine HU.out.mono ?_;rintro e w7 ⟨rfl,hb7⟩;have HB7:Hid (Below w.heap.size w w7):=q7 ((hdP.out.trans (HB6.out.mono hdP.out.size)).trans (hb7.mono (by simp;omega)));clear hb7)
 go_ret
 exact⟨rfl,HB7.out⟩
end Go.Proofs.YtecdphhdmjmmnaaGreatDoor
namespace Go.Proofs.YtecdphhdmjmmnaaGreatDoor
open Go.ChangeShapes Go.WideShapes Go.ChangeAt Go.RowKit

def jz:List (String×DataW Unit):=Rows.tailSaysRow.laid
def nameWays : String := (Rows.tailSaysRow.laid.map (·.1)).headD ""
theorem gWays:Tryz.prog.globalNamed nameWays=some 0:=by kernel_rfl
theorem tWays:(Tryz.prog.globals[0]?).map (·.type)=some 135:=by kernel_rfl
theorem own:ownKnob Tryz.prog.godebug=none:=by kernel_rfl
theorem laidOut:laidOutB Tryz.prog=true:=by kernel_rfl
theorem JF (os:Os) (args:Array Value):laidMetH Tryz.prog jz ((World.doorLaid Tryz.prog 400 os).forCall (fun _ _=>0) ⟨#[],args,[]⟩).memory:=
 laidMetH_of_parts3 (fuel:=8) (laidMet_of_run' 8 (by kernel_rfl) (by kernel_rfl)) (by kernel_rfl) (by kernel_rfl)

theorem Qj {W:World} (h:laidMetH Tryz.prog jz W):Ways W:=by
 rw[MakeChecks.laidMetH_plain _ _ _ (by kernel_rfl)]at h
 obtain⟨ps,⟨g1,t1,cs1,f1,p1,q1,hg1,ht1,hv1,hd1,_,_⟩,_,_⟩:=h
 obtain rfl:=Option.some.inj (gWays.symm.trans hg1)
 obtain rfl:=Option.some.inj (tWays.symm.trans ht1)
 obtain⟨xs,m1,rfl,hx1,hlen,hn4,hel⟩:=DataW.trod_array Tryz.underlying135 hd1
 have c3:Tryz.prog.cellsOf 3=1:=by kernel_rfl
 have c4:Tryz.prog.cellsOf 135=4:=by kernel_rfl
 rw[c4]at hlen
 obtain⟨l1⟩:=cs1
 obtain⟨a0,a1,a2,a3,rfl⟩:=Kf (show l1.length=4 from hlen)
 obtain⟨x0,x1,x2,x3,rfl⟩:=Kf hn4
 simp only[Rows.laid_turnery_code_ways,List.map_cons,List.map_nil,Prod.mk.injEq,DataW.agg.injEq,List.cons.injEq]at hx1
 rw[c3]at hel
 have hv:=World.var?_cell hg1 hv1
 have one:∀(i:Nat) (a:Value) (x:DataW Unit×List MemPlace) (n:Int),DataW.trod (fun _=>()) Tryz.prog W 0 (fun _=>true) false m1 3 [a]=some x→DataW.lit (.int .i64 n)=x.1→a = .int .i64 n:=fun i a x n h e=>by
  obtain⟨k,e1,e2,_⟩:=DataW.trod_int Tryz.underlying3 (show DataW.trod _ Tryz.prog W 0 _ false m1 3 _=some x from h)
  rw[e2]at e
  simp at e e1
  rw[e1,e]
 obtain⟨⟨e0,e1,e2,e3,_⟩,_⟩:=hx1
 obtain rfl:=one 0 a0 x0 0 (hel 0 (by decide)) e0
 obtain rfl:=one 1 a1 x1 0 (hel 1 (by decide)) e1
 obtain rfl:=one 2 a2 x2 1 (hel 2 (by decide)) e2
 obtain rfl:=one 3 a3 x3 2 (hel 3 (by decide)) e3
 exact⟨by simpa using hv 0,by simpa using hv 1,by simpa using hv 2,by simpa using hv 3⟩
end Go.Proofs.YtecdphhdmjmmnaaGreatDoor
