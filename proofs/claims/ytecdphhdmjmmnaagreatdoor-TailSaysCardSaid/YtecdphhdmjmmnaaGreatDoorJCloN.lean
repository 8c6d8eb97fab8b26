/-
  The contracts of slices.Clone at phis, instructions, blocks, functions and globals: the sa
-/
import Derived.Test.YtecdphhdmjmmnaaGreatDoorJRegA
set_option maxRecDepth 100000
set_option maxHeartbeats 16000000
namespace Go.Proofs.YtecdphhdmjmmnaaGreatDoor
open Go.RowKit

def LastR (w:World) (k:Nat) (b:BlkL) (e:Ending):Prop:=∃(x:InsL) (qs:Option Addr) (cs:Nat),e = .returned (.tuple #[.agg (k9 x qs cs),.bool (xx k b)])∧∀y,zK k b=some y→x=y∧SliceAt w 2 vO qs y.args∧y.args.length*16≤140737488351232
theorem kV {k:Nat} {b:BlkL} (h:zK k b=none):xx k b=false:=by unfold xx;rw[h];rfl

theorem kW {k:Nat} {b:BlkL} {c:InsL} (h:zK k b=some c):b.list.getLast?=some c:=by
 rw[(zP h).1]
 simp
theorem lastR_no {w0 w w':World} {k:Nat} {b:BlkL} {e:Ending} (h:Hid (zK k b=none)) {x:InsL} {qs:Option Addr} {cs:Nat} (he:e = .returned (.tuple #[.agg (k9 x qs cs),.bool false])) (hb:Below w.heap.size w w'):LastR w0 k b e∧Below w.heap.size w w':=
 ⟨⟨x,qs,cs,by rw[kV h.out];exact he,fun y hx=>by rw[h.out]at hx;cases hx⟩,hb⟩

theorem Qg {w':World} {R:Nat} {A:Array Value} {v0 v1 v2 v3 v4 v5 v6 v7:Value} {ok:Bool} {a:Act} {P:Ending→World→Prop} (hA:A=#[v0,v1,v2,v3,v4,v5,v6,v7]) (h:w'.heap[R]?=some (.cells A 53 (0,0))) (ha:a.tmps[4]?.getD undef = .pointer (some ⟨R,0,none⟩)) (hb:a.tmps[5]?.getD undef = .bool ok) (hd:a.defers=[]) (hP:P (.returned (.tuple #[.agg #[v0,v1,v2,v3,v4,v5,v6,v7],.bool ok])) w'):bodyPost Tryz.prog Tryz.f50 P .ret a w':=by
 subst hA
 have c0:=(blk h).1 0
 have c1:=(blk h).1 1
 have c2:=(blk h).1 2
 have c3:=(blk h).1 3
 have c4:=(blk h).1 4
 have c5:=(blk h).1 5
 have c6:=(blk h).1 6
 have c7:=(blk h).1 7
 simp only[List.getElem?_toArray,List.getElem?_cons_zero,List.getElem?_cons_succ]at c0 c1 c2 c3 c4 c5 c6 c7
 refine bodyPost_ret (v:=.tuple #[.agg #[v0,v1,v2,v3,v4,v5,v6,v7],.bool ok]) ?_ hd hP
 simp[results,Tryz.results50,go_sem,ha,hb,c0,c1,c2,c3,c4,c5,c6,c7]
theorem QM {w0 w:World} {k:Nat} {b:BlkL} {A:Array Value} {a:Act} {W:World} (h:Hid (zK k b=none)) (hb:Below w.heap.size w W) (hc:W.heap[w.heap.size+1]?=some (.cells #[.int .i64 0,.int .i64 0,.bool false,.int .i64 0,.bool false,.int .i64 0,.int .i64 0,.slice none 0 0] 53 (0,0))) (ha:a={ tmps:=A,defers:=[] }) (h4:A[4]?.getD undef = .pointer (some ⟨w.heap.size+1,0,none⟩)) (h5:A[5]?.getD undef = .bool false):bodyPost Tryz.prog Tryz.f50 (fun e w'=>LastR w0 k b e∧Below w.heap.size w w') .ret a W:=by
 subst ha
 exact Qg rfl hc h4 h5 rfl (lastR_no (x:=⟨0,0,false,0,false,0,0,[]⟩) (qs:=none) (cs:=0) h rfl hb)

theorem ZW (b:BlkL) (q1 q2 q3:Option Addr) (c1 c2 c3 k:Nat) (w0 w:World) (hb0:Below w0.heap.size w0 w) (hl:b.list.length*80≤140737488351232) (hs:SliceAt w0 8 (InsR w0) q2 b.list) :
  Calls Tryz.prog 50 #[.agg #[.slice q1 b.phis.length c1,.slice q2 b.list.length c2,.int .i64 b.fin.kind,.bool b.fin.onr,.int .i64 b.fin.onn,.slice q3 b.fin.to.length c3],.int .i64 k] w fun e w'=>LastR w0 k b e∧Below w.heap.size w w':=by
 have HSl:=q7 hs
 clear hs
 by_cases h0:b.list.length=0
 ·have hn:zK k b=none:=by unfold zK;rw[List.eq_nil_of_length_eq_zero h0];rfl
  have HN:=q7 hn
  have hz:((b.list.length:Int) == 0)=true:=by rw[h0];rfl
  clear hn
  go_enter Tryz.func50,Tryz.ntmps50
  go_wp2_with fail
  exact QM HN bZ (qh (by simp)) rfl rfl rfl
 have hz:((b.list.length:Int) == 0)=false:=beq_eq_false_iff_ne.2 (by omega)
 by_cases hk1:b.fin.kind=1
 rotate_left
 ·have hkk:(b.fin.kind != 1)=true:=by simp[hk1]
  have hn:zK k b=none:=by
   cases e:zK k b with
   | none=>rfl
   | some x=>exact absurd (zP e).2.1 hk1
  have HN:=q7 hn
  clear hn
  go_enter Tryz.func50,Tryz.ntmps50
  go_wp2_with fail
  exact QM HN bZ (qh (by simp)) rfl rfl rfl
 have hkk:(b.fin.kind != 1)=false:=by simp[hk1]
 cases hon:b.fin.onr
 ·have hn:zK k b=none:=by
   cases e:zK k b with
   | none=>rfl
   | some x=>have:=(zP e).2.2.1;rw[hon]at this;cases this
  have HN:=q7 hn
  clear hn
  go_enter Tryz.func50,Tryz.ntmps50
  go_wp2_with fail
  exact QM HN bZ (qh (by simp)) rfl rfl rfl
 have hj:b.list.length - 1<b.list.length:=by omega
 obtain⟨lb,lo,qs,cs,hlp,i0,i1,i2,i3,i4,i5,i6,i7,_,_,_,_,_,hla,hss⟩:=Q1 HSl.out (Below.refl _ _) hj
 subst hlp
 have i0:=(hb0.cell (q8 i0)).trans i0
 have i1:=(hb0.cell (q8 i1)).trans i1
 have i2:=(hb0.cell (q8 i2)).trans i2
 have i3:=(hb0.cell (q8 i3)).trans i3
 have i4:=(hb0.cell (q8 i4)).trans i4
 have i5:=(hb0.cell (q8 i5)).trans i5
 have i6:=(hb0.cell (q8 i6)).trans i6
 have i7:=(hb0.cell (q8 i7)).trans i7
 have hgl:b.list.getLast?=some b.list[b.list.length - 1]:=by rw[List.getLast?_eq_getElem?,List.getElem?_eq_getElem hj]
 have hcast:(b.list.length:Int) - 1=((b.list.length - 1:Nat):Int):=by omega
 have hwr:IntKind.i64.wrap ((b.list.length:Int) - 1)=((b.list.length - 1:Nat):Int):=by rw[IntKind.wrap_i64];omega
 obtain⟨x,hx⟩:∃x,x=b.list[b.list.length - 1]:=⟨_,rfl⟩
 rw[←hx]at i0 i1 i2 i3 i4 i5 i6 i7 hla hss hgl
 have lz:=q8 i0
 have HG:=q7 hgl
 have HSs:=q7 (And.intro hss hla)
 have HK:=q7 (And.intro hk1 hon)
 obtain⟨j,hjj⟩:∃j,j=b.list.length - 1:=⟨_,rfl⟩
 rw[←hjj]at hwr i0 i1 i2 i3 i4 i5 i6 i7 hj
 have j0:(0:Int)≤(j:Int):=by omega
 have j1:(j:Int)<b.list.length:=by omega
 clear hgl hss hla hx hk1 hcast hjj
 go_enter Tryz.func50,Tryz.ntmps50
 go_wp2_with fail
 obtain⟨W1,hW1⟩:∃W1,W1=((w.alloc (.cells #[.slice q1 b.phis.length c1,.slice (some ⟨lb,lo,none⟩) b.list.length c2,.int .i64 b.fin.kind,.bool true,.int .i64 b.fin.onn,.slice q3 b.fin.to.length c3] 48)).alloc (.cells #[.int .i64 0,.int .i64 0,.bool false,.int .i64 0,.bool false,.int .i64 0,.int .i64 0,.slice none 0 0] 53)).alloc (.cells #[.int .i64 x.op,.int .i64 x.dst,.bool x.ar,.int .i64 x.an,.bool x.br,.int .i64 x.bn,.int .i64 x.fn,.slice qs x.args.length cs] 53):=⟨_,rfl⟩
 rw[←hW1]
 have hb1:Below w.heap.size w W1:=by rw[hW1];exact bZ
 have hz1:W1.heap.size=w.heap.size+1+1+1:=by rw[hW1];simp
 have hB1:W1.heap[w.heap.size]?=some (.cells #[.slice q1 b.phis.length c1,.slice (some ⟨lb,lo,none⟩) b.list.length c2,.int .i64 b.fin.kind,.bool true,.int .i64 b.fin.onn,.slice q3 b.fin.to.length c3] 48 (0,0)):=by rw[hW1];exact qj (qj (qh rfl))
 have hR1:W1.heap[w.heap.size+1]?=some (.cells #[.int .i64 0,.int .i64 0,.bool false,.int .i64 0,.bool false,.int .i64 0,.int .i64 0,.slice none 0 0] 53 (0,0)):=by rw[hW1];exact qj (qh (by simp))
 have hI1:W1.heap[w.heap.size+1+1]?=some (.cells #[.int .i64 x.op,.int .i64 x.dst,.bool x.ar,.int .i64 x.an,.bool x.br,.int .i64 x.bn,.int .i64 x.fn,.slice qs x.args.length cs] 53 (0,0)):=by rw[hW1];exact qh (by simp)
 have o4:W1.cell? ⟨w.heap.size,4,none⟩=some (.int .i64 b.fin.onn):=(blk hB1).1 4
 have ii:=(blk hI1).1
 have ii0:=ii 0
 have ii1:=ii 1
 have ii2:=ii 2
 have ii3:=ii 3
 have ii4:=ii 4
 have ii5:=ii 5
 have ii6:=ii 6
 have ii7:=ii 7
 have rr:=(blk hR1).1
 have rr0:=rr 0
 have rr1:=rr 1
 have rr2:=rr 2
 have rr3:=rr 3
 have rr4:=rr 4
 have rr5:=rr 5
 have rr6:=rr 6
 have rr7:=rr 7
 have rf:=(blk hR1).2
 simp only[List.getElem?_toArray,List.getElem?_cons_zero,List.getElem?_cons_succ]at ii0 ii1 ii2 ii3 ii4 ii5 ii6 ii7 rr0 rr1 rr2 rr3 rr4 rr5 rr6 rr7
 have lz1:=q9 hB1
 have lz2:=q9 hR1
 have lz3:=q9 hI1
 have HB1:=q7 hb1
 have HR1:=q7 hR1
 have hst:∃WF,WF=((((((((W1.setCell ⟨w.heap.size+1,0,none⟩ (.int .i64 x.op)).setCell ⟨w.heap.size+1,1,none⟩ (.int .i64 x.dst)).setCell ⟨w.heap.size+1,2,none⟩ (.bool x.ar)).setCell ⟨w.heap.size+1,3,none⟩ (.int .i64 x.an)).setCell ⟨w.heap.size+1,4,none⟩ (.bool x.br)).setCell ⟨w.heap.size+1,5,none⟩ (.int .i64 x.bn)).setCell ⟨w.heap.size+1,6,none⟩ (.int .i64 x.fn)).setCell ⟨w.heap.size+1,7,none⟩ (.slice qs x.args.length cs)).drew∧WF.heap[w.heap.size+1]?=some (.cells (k9 x qs cs) 53 (0,0))∧Below w.heap.size w WF:=by
  refine⟨_,rfl,heap_drew ?_,Below.drew ?_⟩
  ·rw[qg (qg (qg (qg (qg (qg (qg (qg hR1 0 _) 1 _) 2 _) 3 _) 4 _) 5 _) 6 _) 7 _]
   rfl
  have hp:∀o,w.heap.size≤(Addr.mk (w.heap.size+1) o none).block:=fun o=>by show w.heap.size≤w.heap.size+1;omega
  exact(((((((hb1.setCell (hp 0) _).setCell (hp 1) _).setCell (hp 2) _).setCell (hp 3) _).setCell (hp 4) _).setCell (hp 5) _).setCell (hp 6) _).setCell (hp 7) _
 have HSt:=q7 hst
 clear hW1 hb1 hB1 hR1 hI1 ii rr hst i0 i1 i2 i3 i4 i5 i6 i7
 by_cases h20:x.op=20
 rotate_left
 ·have e20:(x.op == 20)=false:=by simp[h20]
  have hn:zK k b=none:=by
   cases e:zK k b with
   | none=>rfl
   | some y=>
    exfalso
    have h1:=kW e
    rw[HG.out]at h1
    cases h1
    exact h20 (zP e).2.2.2.1
  have HN:=q7 hn
  clear h20 hn
  go_region
  all_goals
   go_wp2
   obtain⟨WF,hWF,hF⟩:=HSt.out
   rw[←hWF]
   refine Qg (A:=k9 x qs cs) (R:=w.heap.size+1) (ok:=false) rfl hF.1 rfl rfl rfl ⟨⟨x,qs,cs,by rw[kV HN.out];rfl,fun y hy=>?_⟩,hF.2⟩
   rw[HN.out]at hy;cases hy
 have e20:(x.op == 20)=true:=by simp[h20]
 by_cases hfn:x.fn=(k:Int)
 ·have efn:(x.fn == (k:Int))=true:=by simp[hfn]
  obtain⟨ed,hed⟩:∃ed,ed=(x.dst == b.fin.onn):=⟨_,rfl⟩
  have edd:(x.dst == b.fin.onn)=ed:=hed.symm
  have hgo:xx k b=ed:=by
   rw[hed,Bool.eq_iff_iff,goes_iff,beq_iff_eq]
   constructor
   ·rintro⟨y,h1,_,_,_,_,h6⟩
    rw[HG.out]at h1
    cases h1
    exact h6
   intro h6
   exact⟨x,HG.out,HK.out.1,HK.out.2,h20,hfn,h6⟩
  have hls:∀y,zK k b=some y→x=y∧SliceAt w0 2 vO qs y.args∧y.args.length*16≤140737488351232:=fun y hy=>by
   have h1:=kW hy
   rw[HG.out]at h1
   cases h1
   exact⟨rfl,HSs.out.1,HSs.out.2⟩
  have HGo:=q7 hgo
  have HLs:=q7 hls
  clear h20 hfn hed hgo hls
  go_region
  all_goals
   go_wp2
   obtain⟨WF,hWF,hF⟩:=HSt.out
   rw[←hWF]
   refine Qg (A:=k9 x qs cs) (R:=w.heap.size+1) (ok:=ed) rfl hF.1 rfl rfl rfl ⟨⟨x,qs,cs,by rw[HGo.out];rfl,fun y hy=>?_⟩,hF.2⟩
   exact HLs.out y hy
 have efn:(x.fn == (k:Int))=false:=by simp[hfn]
 have hn:zK k b=none:=by
  cases e:zK k b with
  | none=>rfl
  | some y=>
   exfalso
   have h1:=kW e
   rw[HG.out]at h1
   cases h1
   exact hfn (zP e).2.2.2.2.1
 have HN:=q7 hn
 clear h20 hfn hn
 go_region
 all_goals
  go_wp2
  obtain⟨WF,hWF,hF⟩:=HSt.out
  rw[←hWF]
  refine Qg (A:=k9 x qs cs) (R:=w.heap.size+1) (ok:=false) rfl hF.1 rfl rfl rfl ⟨⟨x,qs,cs,by rw[kV HN.out];rfl,fun y hy=>?_⟩,hF.2⟩
  rw[HN.out]at hy;cases hy

theorem many_any (f:FunL) (bp:Option Addr) (bc:Nat) (w:World) (h40:f.blocks.length≤40) (hb:SliceAt w 6 (BlkR w) bp f.blocks) :
  Calls Tryz.prog 51 #[.agg #[.string f.name,.int .i64 f.params,.int .i64 f.regs,.slice bp f.blocks.length bc]] w fun e w'=>e = .returned (.int .i64 (zi f))∧Below w.heap.size w w':=by
 have HB:=q7 hb
 clear hb
 go_enter Tryz.func51,Tryz.ntmps51
 go_wp2
 go_loopw [3,9] (fun m i wr=>∃(k:Nat) (x:Int),k≤f.blocks.length∧i = .int .i64 k∧m = .int .i64 x∧(x=jh f k∧jh f k≤k*10000000000000)∧Below (w.heap.size+1) (w.alloc (.cells #[.string f.name,.int .i64 f.params,.int .i64 f.regs,.slice bp f.blocks.length bc] 37)) wr) (fun _ i _=>f.blocks.length - (intOf i).toNat)
 case atStart=>exact⟨0,0,by omega,rfl,rfl,by simp[jh],Below.refl _ _⟩
 case round=>
  obtain⟨k,x,hk,rfl,rfl,hV,hb⟩:=hrel
  have HV:=q7 hV
  have HBw:=q7 hb
  have HBx:Hid (Below w.heap.size w wr):=((Below.refl _ _).alloc (Nat.le_refl _) _).trans (hb.mono (by omega))
  have hz:w.heap.size<wr.heap.size:=by have:=hb.size;simp at this;omega
  obtain⟨hcc,hcf⟩:=blk (qd hb (by omega) (qr w _))
  clear hV hb
  by_cases hlt:k<f.blocks.length
  ·obtain⟨b2,o2,q1,c1,q2,c2,q3,c3,hp,e0,e1,e2,e3,e4,e5,_,_,hl1,hl2,_,_,_,_⟩:=zE HB.out HBx.out hlt
   subst hp
   go_wp2
   refine⟨⟨k+1,_,by omega,by go_num,rfl,?_,?_⟩,by simp[intOf];omega⟩
   ·obtain⟨h1,h2⟩:=HV.out
    rw[k7 f k hlt]
    refine⟨?_,by omega⟩
    rw[IntWalk.wrap64_in _ ⟨by omega,by omega⟩,h1]
    omega
   exact HBw.out.alloc (by omega) _
  have HM:Hid (x=zi f):=by
   show _=_
   have:=HV.out.1
   rw[show k=f.blocks.length by omega,kO]at this
   exact this
  go_wp2
  go_ret
  refine⟨?_,HBx.out⟩
  rw[HM.out]
  rfl


theorem xd {w:World} {a:Addr} {u:Value} (h:w.cell? a=some u) (o:Obj):(w.alloc o).cell? a=some u:=(World.cell?_of_block (Below.heap_alloc w o a.block (World.block_lt_of_cell? w a h))).trans h

theorem VZ {R:List Value→PhiL→Prop} (h1:∀cs x,R cs x→∀u∈cs,u.oneCell'=true) (xs:List PhiL) (p:Option Addr) (c:Nat) (w:World) (h:SliceAt w 2 R p xs) (hp:p=none→xs.length=0∧c=0) (hl:xs.length*32≤reachBytes) :
  Calls Tryz.prog 95 #[.slice p xs.length c] w fun e w'=>∃p' c',e = .returned (.slice p' xs.length c')∧(∃S,SlQ 101 2 32 (DatO R) w' (.slice p' xs.length c') xs S∧LoB w.heap.size S)∧Below w.heap.size w w':=by
 have hlr:xs.length*32≤140737488351232:=hl
 rcases p with _|a
 ·obtain⟨h0,rfl⟩:=hp rfl
  obtain rfl:=List.length_eq_zero_iff.1 h0
  have he:∀w:World,(binOp .eql 40 (.slice none 0 0) (.slice none 0 0)).run Tryz.prog w = .ok (.bool true) w:=fun _=>rfl
  go_enter Tryz.func95,Tryz.ntmps95
  go_wp2_with fail
  go_ret
  exact⟨none,0,rfl,⟨fun _=>False,⟨SlO.nil _ _ _ _ (fun _ h=>h.elim),by simp⟩,fun _ h=>h.elim⟩,Below.refl _ _⟩
 obtain⟨i1,k1,k2,k3,k4⟩:=info_parts ZE
 have HO:=q7 fun i (hi:i<xs.length)=>h.old hi
 have HL:Hid (∀i,i<xs.length→(xO w (some a) 2 i).length=2):=q7 fun _ _=>jt _ _ _ _
 have HF:Hid (∀j u,((List.range xs.length).flatMap (xO w (some a) 2))[j]?=some u→w.cell? (a.add j)=some u):=q7 fun j u hu=>by
  have hj:j<xs.length*2:=by
   rw[←qI _ HL.out]
   exact(List.getElem?_eq_some_iff.1 hu).1
  have hi:j / 2<xs.length:=by omega
  have hm:j % 2<2:=by omega
  have e:j=j / 2*2+j % 2:=by omega
  rw[e,zm _ HL.out _ _ hi hm]at hu
  rw[e,(HO.out _ hi).2 _ hm a rfl,hu]
 have he:∀w:World,(binOp .eql 40 (.slice (some a) xs.length c) (.slice none 0 0)).run Tryz.prog w = .ok (.bool false) w:=fun _=>rfl
 have H1:=q7 h1
 clear h h1
 go_enter Tryz.func95,Tryz.ntmps95
 go_wp2_with (at_builtin;refine wpList_append_own _ rfl (.tmp 5) (.tmp 6) 40 rfl w.heap.size 101 i1 _ 2 32 Tryz.underlying40 k1 k2 k3 k4 rfl (by decide) _ 0 [] rfl ?c0 a xs.length c ((List.range xs.length).flatMap (xO w (some a) 2)) rfl ?c1 ?c2 ?c3 ?c4 ?c5 ?c6 ?_)
 case c0=>exact ji (qr _ _) (Nat.le_refl _)
 case c1=>exact qI _ HL.out
 case c2=>exact fun j u hu=>xd (HF.out j u hu) _
 case c3=>exact xk fun i hi=>H1.out _ _ (HO.out i hi).1
 case c4=>unfold maxLen;omega
 case c5=>omega
 case c6=>simp
 intro v' w' hown hg _
 have hval:∃p' c',v' = .slice p' xs.length c':=by
  rcases hown.2 with⟨h1,h2⟩|⟨g,cap,cur,h1,_⟩
  ·exact⟨none,0,by rw[h1,show xs.length=0 by omega]⟩
  exact⟨some ⟨g,0,none⟩,cap,by rw[h1]⟩
 obtain⟨p',c',rfl⟩:=hval
 go_wp2
 refine bodyPost_ret (v:=.slice p' xs.length c') ?_ rfl ⟨p',c',rfl,⟨_,⟨SlO.flat (base:=w.heap.size) (cs:=xO w (some a) 2) (by simpa using hown) HL.out (fun i hi=>H1.out _ _ (HO.out i hi).1) (fun i hi=>(HO.out i hi).1),hl⟩,fun k hk=>(hown.lt k hk).1⟩,?_⟩
 ·simp[results,Tryz.results95,go_sem]
 exact Below.grown bZ hg (by simp) (fun b e=>by cases e;exact Nat.le_refl _)

theorem K1 {R:List Value→InsL→Prop} (h1:∀cs x,R cs x→∀u∈cs,u.oneCell'=true) (xs:List InsL) (p:Option Addr) (c:Nat) (w:World) (h:SliceAt w 8 R p xs) (hp:p=none→xs.length=0∧c=0) (hl:xs.length*80≤reachBytes) :
  Calls Tryz.prog 97 #[.slice p xs.length c] w fun e w'=>∃p' c',e = .returned (.slice p' xs.length c')∧(∃S,SlQ 53 8 80 (DatO R) w' (.slice p' xs.length c') xs S∧LoB w.heap.size S)∧Below w.heap.size w w':=by
 have hlr:xs.length*80≤140737488351232:=hl
 rcases p with _|a
 ·obtain⟨h0,rfl⟩:=hp rfl
  obtain rfl:=List.length_eq_zero_iff.1 h0
  have he:∀w:World,(binOp .eql 41 (.slice none 0 0) (.slice none 0 0)).run Tryz.prog w = .ok (.bool true) w:=fun _=>rfl
  go_enter Tryz.func97,Tryz.ntmps97
  go_wp2_with fail
  go_ret
  exact⟨none,0,rfl,⟨fun _=>False,⟨SlO.nil _ _ _ _ (fun _ h=>h.elim),by simp⟩,fun _ h=>h.elim⟩,Below.refl _ _⟩
 obtain⟨i1,k1,k2,k3,k4⟩:=info_parts vC
 have HO:=q7 fun i (hi:i<xs.length)=>h.old hi
 have HL:Hid (∀i,i<xs.length→(xO w (some a) 8 i).length=8):=q7 fun _ _=>jt _ _ _ _
 have HF:Hid (∀j u,((List.range xs.length).flatMap (xO w (some a) 8))[j]?=some u→w.cell? (a.add j)=some u):=q7 fun j u hu=>by
  have hj:j<xs.length*8:=by
   rw[←qI _ HL.out]
   exact(List.getElem?_eq_some_iff.1 hu).1
  have hi:j / 8<xs.length:=by omega
  have hm:j % 8<8:=by omega
  have e:j=j / 8*8+j % 8:=by omega
  rw[e,zm _ HL.out _ _ hi hm]at hu
  rw[e,(HO.out _ hi).2 _ hm a rfl,hu]
 have he:∀w:World,(binOp .eql 41 (.slice (some a) xs.length c) (.slice none 0 0)).run Tryz.prog w = .ok (.bool false) w:=fun _=>rfl
 have H1:=q7 h1
 clear h h1
 go_enter Tryz.func97,Tryz.ntmps97
 go_wp2_with (at_builtin;refine wpList_append_own _ rfl (.tmp 5) (.tmp 6) 41 rfl w.heap.size 53 i1 _ 8 80 Tryz.underlying41 k1 k2 k3 k4 rfl (by decide) _ 0 [] rfl ?c0 a xs.length c ((List.range xs.length).flatMap (xO w (some a) 8)) rfl ?c1 ?c2 ?c3 ?c4 ?c5 ?c6 ?_)
 case c0=>exact ji (qr _ _) (Nat.le_refl _)
 case c1=>exact qI _ HL.out
 case c2=>exact fun j u hu=>xd (HF.out j u hu) _
 case c3=>exact xk fun i hi=>H1.out _ _ (HO.out i hi).1
 case c4=>unfold maxLen;omega
 case c5=>omega
 case c6=>simp
 intro v' w' hown hg _
 have hval:∃p' c',v' = .slice p' xs.length c':=by
  rcases hown.2 with⟨h1,h2⟩|⟨g,cap,cur,h1,_⟩
  ·exact⟨none,0,by rw[h1,show xs.length=0 by omega]⟩
  exact⟨some ⟨g,0,none⟩,cap,by rw[h1]⟩
 obtain⟨p',c',rfl⟩:=hval
 go_wp2
 refine bodyPost_ret (v:=.slice p' xs.length c') ?_ rfl ⟨p',c',rfl,⟨_,⟨SlO.flat (base:=w.heap.size) (cs:=xO w (some a) 8) (by simpa using hown) HL.out (fun i hi=>H1.out _ _ (HO.out i hi).1) (fun i hi=>(HO.out i hi).1),hl⟩,fun k hk=>(hown.lt k hk).1⟩,?_⟩
 ·simp[results,Tryz.results97,go_sem]
 exact Below.grown bZ hg (by simp) (fun b e=>by cases e;exact Nat.le_refl _)

theorem K2 {R:List Value→BlkL→Prop} (h1:∀cs x,R cs x→∀u∈cs,u.oneCell'=true) (xs:List BlkL) (p:Option Addr) (c:Nat) (w:World) (h:SliceAt w 6 R p xs) (hp:p=none→xs.length=0∧c=0) (hl:xs.length*96≤reachBytes) :
  Calls Tryz.prog 94 #[.slice p xs.length c] w fun e w'=>∃p' c',e = .returned (.slice p' xs.length c')∧(∃S,SlQ 48 6 96 (DatO R) w' (.slice p' xs.length c') xs S∧LoB w.heap.size S)∧Below w.heap.size w w':=by
 have hlr:xs.length*96≤140737488351232:=hl
 rcases p with _|a
 ·obtain⟨h0,rfl⟩:=hp rfl
  obtain rfl:=List.length_eq_zero_iff.1 h0
  have he:∀w:World,(binOp .eql 35 (.slice none 0 0) (.slice none 0 0)).run Tryz.prog w = .ok (.bool true) w:=fun _=>rfl
  go_enter Tryz.func94,Tryz.ntmps94
  go_wp2_with fail
  go_ret
  exact⟨none,0,rfl,⟨fun _=>False,⟨SlO.nil _ _ _ _ (fun _ h=>h.elim),by simp⟩,fun _ h=>h.elim⟩,Below.refl _ _⟩
 obtain⟨i1,k1,k2,k3,k4⟩:=info_parts jC
 have HO:=q7 fun i (hi:i<xs.length)=>h.old hi
 have HL:Hid (∀i,i<xs.length→(xO w (some a) 6 i).length=6):=q7 fun _ _=>jt _ _ _ _
 have HF:Hid (∀j u,((List.range xs.length).flatMap (xO w (some a) 6))[j]?=some u→w.cell? (a.add j)=some u):=q7 fun j u hu=>by
  have hj:j<xs.length*6:=by
   rw[←qI _ HL.out]
   exact(List.getElem?_eq_some_iff.1 hu).1
  have hi:j / 6<xs.length:=by omega
  have hm:j % 6<6:=by omega
  have e:j=j / 6*6+j % 6:=by omega
  rw[e,zm _ HL.out _ _ hi hm]at hu
  rw[e,(HO.out _ hi).2 _ hm a rfl,hu]
 have he:∀w:World,(binOp .eql 35 (.slice (some a) xs.length c) (.slice none 0 0)).run Tryz.prog w = .ok (.bool false) w:=fun _=>rfl
 have H1:=q7 h1
 clear h h1
 go_enter Tryz.func94,Tryz.ntmps94
 go_wp2_with (at_builtin;refine wpList_append_own _ rfl (.tmp 5) (.tmp 6) 35 rfl w.heap.size 48 i1 _ 6 96 Tryz.underlying35 k1 k2 k3 k4 rfl (by decide) _ 0 [] rfl ?c0 a xs.length c ((List.range xs.length).flatMap (xO w (some a) 6)) rfl ?c1 ?c2 ?c3 ?c4 ?c5 ?c6 ?_)
 case c0=>exact ji (qr _ _) (Nat.le_refl _)
 case c1=>exact qI _ HL.out
 case c2=>exact fun j u hu=>xd (HF.out j u hu) _
 case c3=>exact xk fun i hi=>H1.out _ _ (HO.out i hi).1
 case c4=>unfold maxLen;omega
 case c5=>omega
 case c6=>simp
 intro v' w' hown hg _
 have hval:∃p' c',v' = .slice p' xs.length c':=by
  rcases hown.2 with⟨h1,h2⟩|⟨g,cap,cur,h1,_⟩
  ·exact⟨none,0,by rw[h1,show xs.length=0 by omega]⟩
  exact⟨some ⟨g,0,none⟩,cap,by rw[h1]⟩
 obtain⟨p',c',rfl⟩:=hval
 go_wp2
 refine bodyPost_ret (v:=.slice p' xs.length c') ?_ rfl ⟨p',c',rfl,⟨_,⟨SlO.flat (base:=w.heap.size) (cs:=xO w (some a) 6) (by simpa using hown) HL.out (fun i hi=>H1.out _ _ (HO.out i hi).1) (fun i hi=>(HO.out i hi).1),hl⟩,fun k hk=>(hown.lt k hk).1⟩,?_⟩
 ·simp[results,Tryz.results94,go_sem]
 exact Below.grown bZ hg (by simp) (fun b e=>by cases e;exact Nat.le_refl _)

theorem K3 {R:List Value→FunL→Prop} (h1:∀cs x,R cs x→∀u∈cs,u.oneCell'=true) (xs:List FunL) (p:Option Addr) (c:Nat) (w:World) (h:SliceAt w 4 R p xs) (hp:p=none→xs.length=0∧c=0) (hl:xs.length*56≤reachBytes) :
  Calls Tryz.prog 59 #[.slice p xs.length c] w fun e w'=>∃p' c',e = .returned (.slice p' xs.length c')∧(∃S,SlQ 37 4 56 (DatO R) w' (.slice p' xs.length c') xs S∧LoB w.heap.size S)∧Below w.heap.size w w':=by
 have hlr:xs.length*56≤140737488351232:=hl
 rcases p with _|a
 ·obtain⟨h0,rfl⟩:=hp rfl
  obtain rfl:=List.length_eq_zero_iff.1 h0
  have he:∀w:World,(binOp .eql 23 (.slice none 0 0) (.slice none 0 0)).run Tryz.prog w = .ok (.bool true) w:=fun _=>rfl
  go_enter Tryz.func59,Tryz.ntmps59
  go_wp2_with fail
  go_ret
  exact⟨none,0,rfl,⟨fun _=>False,⟨SlO.nil _ _ _ _ (fun _ h=>h.elim),by simp⟩,fun _ h=>h.elim⟩,Below.refl _ _⟩
 obtain⟨i1,k1,k2,k3,k4⟩:=info_parts ZH
 have HO:=q7 fun i (hi:i<xs.length)=>h.old hi
 have HL:Hid (∀i,i<xs.length→(xO w (some a) 4 i).length=4):=q7 fun _ _=>jt _ _ _ _
 have HF:Hid (∀j u,((List.range xs.length).flatMap (xO w (some a) 4))[j]?=some u→w.cell? (a.add j)=some u):=q7 fun j u hu=>by
  have hj:j<xs.length*4:=by
   rw[←qI _ HL.out]
   exact(List.getElem?_eq_some_iff.1 hu).1
  have hi:j / 4<xs.length:=by omega
  have hm:j % 4<4:=by omega
  have e:j=j / 4*4+j % 4:=by omega
  rw[e,zm _ HL.out _ _ hi hm]at hu
  rw[e,(HO.out _ hi).2 _ hm a rfl,hu]
 have he:∀w:World,(binOp .eql 23 (.slice (some a) xs.length c) (.slice none 0 0)).run Tryz.prog w = .ok (.bool false) w:=fun _=>rfl
 have H1:=q7 h1
 clear h h1
 go_enter Tryz.func59,Tryz.ntmps59
 go_wp2_with (at_builtin;refine wpList_append_own _ rfl (.tmp 5) (.tmp 6) 23 rfl w.heap.size 37 i1 _ 4 56 Tryz.underlying23 k1 k2 k3 k4 rfl (by decide) _ 0 [] rfl ?c0 a xs.length c ((List.range xs.length).flatMap (xO w (some a) 4)) rfl ?c1 ?c2 ?c3 ?c4 ?c5 ?c6 ?_)
 case c0=>exact ji (qr _ _) (Nat.le_refl _)
 case c1=>exact qI _ HL.out
 case c2=>exact fun j u hu=>xd (HF.out j u hu) _
 case c3=>exact xk fun i hi=>H1.out _ _ (HO.out i hi).1
 case c4=>unfold maxLen;omega
 case c5=>omega
 case c6=>simp
 intro v' w' hown hg _
 have hval:∃p' c',v' = .slice p' xs.length c':=by
  rcases hown.2 with⟨h1,h2⟩|⟨g,cap,cur,h1,_⟩
  ·exact⟨none,0,by rw[h1,show xs.length=0 by omega]⟩
  exact⟨some ⟨g,0,none⟩,cap,by rw[h1]⟩
 obtain⟨p',c',rfl⟩:=hval
 go_wp2
 refine bodyPost_ret (v:=.slice p' xs.length c') ?_ rfl ⟨p',c',rfl,⟨_,⟨SlO.flat (base:=w.heap.size) (cs:=xO w (some a) 4) (by simpa using hown) HL.out (fun i hi=>H1.out _ _ (HO.out i hi).1) (fun i hi=>(HO.out i hi).1),hl⟩,fun k hk=>(hown.lt k hk).1⟩,?_⟩
 ·simp[results,Tryz.results59,go_sem]
 exact Below.grown bZ hg (by simp) (fun b e=>by cases e;exact Nat.le_refl _)

theorem K4 {R:List Value→GloL→Prop} (h1:∀cs x,R cs x→∀u∈cs,u.oneCell'=true) (xs:List GloL) (p:Option Addr) (c:Nat) (w:World) (h:SliceAt w 3 R p xs) (hp:p=none→xs.length=0∧c=0) (hl:xs.length*48≤reachBytes) :
  Calls Tryz.prog 58 #[.slice p xs.length c] w fun e w'=>∃p' c',e = .returned (.slice p' xs.length c')∧(∃S,SlQ 68 3 48 (DatO R) w' (.slice p' xs.length c') xs S∧LoB w.heap.size S)∧Below w.heap.size w w':=by
 have hlr:xs.length*48≤140737488351232:=hl
 rcases p with _|a
 ·obtain⟨h0,rfl⟩:=hp rfl
  obtain rfl:=List.length_eq_zero_iff.1 h0
  have he:∀w:World,(binOp .eql 22 (.slice none 0 0) (.slice none 0 0)).run Tryz.prog w = .ok (.bool true) w:=fun _=>rfl
  go_enter Tryz.func58,Tryz.ntmps58
  go_wp2_with fail
  go_ret
  exact⟨none,0,rfl,⟨fun _=>False,⟨SlO.nil _ _ _ _ (fun _ h=>h.elim),by simp⟩,fun _ h=>h.elim⟩,Below.refl _ _⟩
 obtain⟨i1,k1,k2,k3,k4⟩:=info_parts ZG
 have HO:=q7 fun i (hi:i<xs.length)=>h.old hi
 have HL:Hid (∀i,i<xs.length→(xO w (some a) 3 i).length=3):=q7 fun _ _=>jt _ _ _ _
 have HF:Hid (∀j u,((List.range xs.length).flatMap (xO w (some a) 3))[j]?=some u→w.cell? (a.add j)=some u):=q7 fun j u hu=>by
  have hj:j<xs.length*3:=by
   rw[←qI _ HL.out]
   exact(List.getElem?_eq_some_iff.1 hu).1
  have hi:j / 3<xs.length:=by omega
  have hm:j % 3<3:=by omega
  have e:j=j / 3*3+j % 3:=by omega
  rw[e,zm _ HL.out _ _ hi hm]at hu
  rw[e,(HO.out _ hi).2 _ hm a rfl,hu]
 have he:∀w:World,(binOp .eql 22 (.slice (some a) xs.length c) (.slice none 0 0)).run Tryz.prog w = .ok (.bool false) w:=fun _=>rfl
 have H1:=q7 h1
 clear h h1
 go_enter Tryz.func58,Tryz.ntmps58
 go_wp2_with (at_builtin;refine wpList_append_own _ rfl (.tmp 5) (.tmp 6) 22 rfl w.heap.size 68 i1 _ 3 48 Tryz.underlying22 k1 k2 k3 k4 rfl (by decide) _ 0 [] rfl ?c0 a xs.length c ((List.range xs.length).flatMap (xO w (some a) 3)) rfl ?c1 ?c2 ?c3 ?c4 ?c5 ?c6 ?_)
 case c0=>exact ji (qr _ _) (Nat.le_refl _)
 case c1=>exact qI _ HL.out
 case c2=>exact fun j u hu=>xd (HF.out j u hu) _
 case c3=>exact xk fun i hi=>H1.out _ _ (HO.out i hi).1
 case c4=>unfold maxLen;omega
 case c5=>omega
 case c6=>simp
 intro v' w' hown hg _
 have hval:∃p' c',v' = .slice p' xs.length c':=by
  rcases hown.2 with⟨h1,h2⟩|⟨g,cap,cur,h1,_⟩
  ·exact⟨none,0,by rw[h1,show xs.length=0 by omega]⟩
  exact⟨some ⟨g,0,none⟩,cap,by rw[h1]⟩
 obtain⟨p',c',rfl⟩:=hval
 go_wp2
 refine bodyPost_ret (v:=.slice p' xs.length c') ?_ rfl ⟨p',c',rfl,⟨_,⟨SlO.flat (base:=w.heap.size) (cs:=xO w (some a) 3) (by simpa using hown) HL.out (fun i hi=>H1.out _ _ (HO.out i hi).1) (fun i hi=>(HO.out i hi).1),hl⟩,fun k hk=>(hown.lt k hk).1⟩,?_⟩
 ·simp[results,Tryz.results58,go_sem]
 exact Below.grown bZ hg (by simp) (fun b e=>by cases e;exact Nat.le_refl _)

end Go.Proofs.YtecdphhdmjmmnaaGreatDoor
