/-
  The listed variable code.ways: what the row's condition gives the walks; the door's own he
-/
import Derived.Test.YtecdphhdmjmmnaaGreatDoorJMucA
import Derived.LaidMore
import Derived.OpenShut
import Derived.Stop.Joined
import Derived.LaidHandle
set_option maxRecDepth 100000
set_option maxHeartbeats 16000000
namespace Go.Proofs.YtecdphhdmjmmnaaGreatDoor
open Go.RowKit Go.Shelf Go.Sort

theorem troom_any {nf:Nat} {P:Nat→Int} (f:FunL) (k:Nat) (hC:FunC nf P f) (q:Option Addr) (e1:Nat) (w:World) (hRd:SliceAt w 6 (BlkR w) q f.blocks) :
  Calls Tryz.prog 16 #[.agg #[.string f.name,.int .i64 f.params,.int .i64 f.regs,.slice q f.blocks.length e1],.int .i64 k] w fun e w'=>e = .returned (.bool (VF k f))∧Below w.heap.size w w':=by
 have hn1:=hC.n1
 have ham:=hC.n40
 have haL:=hC.par
 have hbA:=hC.reg
 obtain⟨gq,oq,q1,c1,q2,c2,q3,c3,hq,_⟩:=zp hRd (Below.refl _ _) hn1
 subst hq
 have HC:=q7 hC
 have HRd:=q7 hRd
 clear hC hRd
 go_enter Tryz.func16,Tryz.ntmps16
 go_wp2_with fail
 obtain⟨W1,hW1⟩:∃W1,W1=w.alloc (.cells #[.string f.name,.int .i64 f.params,.int .i64 f.regs,.slice (some ⟨gq,oq,none⟩) f.blocks.length e1] 37):=⟨_,rfl⟩
 rw[←hW1]
 have hb1:Below w.heap.size w W1:=by rw[hW1];exact bZ
 have hF1:W1.heap[w.heap.size]?=some (.cells #[.string f.name,.int .i64 f.params,.int .i64 f.regs,.slice (some ⟨gq,oq,none⟩) f.blocks.length e1] 37 (0,0)):=by rw[hW1];exact qh rfl
 have HB1:=q7 hb1
 have HF1:=q7 hF1
 clear hW1 hb1 hF1
 go_loopg [5,6] f.blocks.length (fun q m i wr=>∃j:Nat,j≤f.blocks.length∧q=f.blocks.length - j∧i = .int .i64 j∧m = .int .i64 (cntG k (f.blocks.take j))∧Below W1.heap.size W1 wr)
 case atStart=>exact⟨0,by omega,rfl,rfl,rfl,Below.refl _ _⟩
 case round=>
  obtain⟨j,hj,rfl,rfl,rfl,hb⟩:=hrel
  have hbw:=HB1.out.trans (hb.mono HB1.out.size)
  have hFw:=(hb.block _ (q9 HF1.out)).trans HF1.out
  obtain⟨fb,ff⟩:=blk hFw
  have fb0:=fb 0
  have fb1:=fb 1
  have fb2:=fb 2
  have fb3:=fb 3
  simp only[List.getElem?_toArray,List.getElem?_cons_zero,List.getElem?_cons_succ]at fb0 fb1 fb2 fb3
  have fz:=q9 hFw
  have HB2:=q7 hb
  have HBw:=q7 hbw
  clear hb hbw fb hFw
  by_cases hlt:j<f.blocks.length
  ·obtain⟨b',o',q1,c1,q2,c2,q3,c3,hp,e0,e1',e2,e3,e4,e5,_,_,_,hl2,_,_,hsl,_⟩:=zp HRd.out HBw.out hlt
   cases hp
   have ez:=q8 e0
   have hon:f.blocks[j].fin.onr=true→0≤f.blocks[j].fin.onn:=fun h=>((HC.out.fin j hlt).on h).1
   have HSl:=q7 hsl
   have HOn:=q7 hon
   have HCn:=q7 (XE (k:=k) hlt)
   have hei:=ZD k f.blocks j
   generalize hbk:f.blocks[j]=bk at *
   generalize hcn:cntG k (f.blocks.take j)=cn at *
   obtain⟨gb,hgb⟩:∃gb,gb=zd k bk:=⟨_,rfl⟩
   rw[←hgb]at HCn
   have HGb:=q7 hgb
   have hwn:IntKind.i64.wrap ((cn:Int)+1)=((cn+1:Nat):Int):=by rw[IntKind.wrap_i64];omega
   have htb:=Vn bk q1 q2 q3 c1 c2 c3 k wr hl2 hsl hon
   rw[←hgb]at htb
   have HTb:=q7 htb
   clear hsl hbk hcn hgb hon htb
   cases gb
   all_goals
    go_wp2_with (go_at_call 17;refine HTb.out.mono ?_;rintro e w2 ⟨rfl,hb2⟩;have HB3:=q7 (HB2.out.trans (hb2.mono HB2.out.size));clear hb2)
    go_roundg (f.blocks.length - (j+1))
    case measure=>omega
    case rel=>exact⟨j+1,by omega,rfl,by go_num,by rw[HCn.out];go_num,HB3.out⟩
  obtain rfl:j=f.blocks.length:=by omega
  rw[List.take_of_length_le (Nat.le_refl _)]
  obtain⟨m,hm⟩:∃m:Nat,m=kV k f:=⟨_,rfl⟩
  have hjJ:m≤40:=by
   rw[hm]
   have:=ZD k f.blocks f.blocks.length
   rw[List.take_of_length_le (Nat.le_refl _)]at this
   exact Nat.le_trans this ham
  rw[show cntG k f.blocks=m from hm.symm]
  obtain⟨d,hd⟩:∃d:Int,d=2*f.params - 1:=⟨_,rfl⟩
  have hdb:-1≤d∧d≤11:=by omega
  obtain⟨M,hM⟩:∃M:Int,M=(m:Int)*d:=⟨_,rfl⟩
  have hMb:-40≤M∧M≤440:=by
   have h1:=Int.mul_le_mul_of_nonneg_left hdb.1 (show(0:Int)≤m by omega)
   have h2:=Int.mul_le_mul_of_nonneg_left hdb.2 (show(0:Int)≤m by omega)
   omega
  have hml:=HC.out.many
  have hmy:VF k f=(decide (0<(m:Int))&&decide (f.regs+f.params≤100)&&decide ((f.blocks.length:Int)+1≤40)&&decide ((z6 f:Int)+M≤300)):=by
   rw[Bool.eq_iff_iff,mayR_iff,←hm,hM,hd]
   simp only[Bool.and_eq_true,decide_eq_true_eq]
   omega
  have hcM:∀(dd:Nat) (os:Array Obj),Calls Tryz.prog 38 #[.agg #[.string f.name,.int .i64 f.params,.int .i64 f.regs,.slice (some ⟨gq,oq,none⟩) f.blocks.length e1]] (grow (redrawn wr dd) os) fun e w'=>e = .returned (.int .i64 (z6 f))∧Below (grow (redrawn wr dd) os).heap.size (grow (redrawn wr dd) os) w':=fun dd os=>manyR_any f _ _ _ ham (xp HRd.out (HBw.out.trans ((below_regrown wr dd os).mono HBw.out.size)))
  have hwa:IntKind.i64.wrap (f.regs+f.params)=f.regs+f.params:=by rw[IntKind.wrap_i64];omega
  have hwb:IntKind.i64.wrap (2*f.params)=2*f.params:=by rw[IntKind.wrap_i64];omega
  have hwc:IntKind.i64.wrap (2*f.params - 1)=d:=by rw[IntKind.wrap_i64];omega
  have hwd:IntKind.i64.wrap ((m:Int)*d)=M:=by rw[IntKind.wrap_i64,←hM];omega
  have hwe:IntKind.i64.wrap ((z6 f:Int)+M)=(z6 f:Int)+M:=by rw[IntKind.wrap_i64];omega
  have hwf:IntKind.i64.wrap ((f.blocks.length:Int)+1)=(f.blocks.length:Int)+1:=by rw[IntKind.wrap_i64];omega
  obtain⟨s1,hs1⟩:∃b,b=decide (0<(m:Int)):=⟨_,rfl⟩
  obtain⟨s2,hs2⟩:∃b,b=decide (f.regs+f.params≤100):=⟨_,rfl⟩
  obtain⟨s3,hs3⟩:∃b,b=decide ((f.blocks.length:Int)+1≤40):=⟨_,rfl⟩
  obtain⟨s4,hs4⟩:∃b,b=decide ((z6 f:Int)+M≤300):=⟨_,rfl⟩
  rw[←hs1,←hs2,←hs3,←hs4]at hmy
  have HMy:=q7 hmy
  have hhg:decide (0<(m:Int))=s1:=hs1.symm
  have hrV:decide (0<m)=s1:=by rw[←hhg,decide_eq_decide];omega
  have hjL:decide (f.regs+f.params≤100)=s2:=hs2.symm
  have hjK:decide ((f.blocks.length:Int)+1≤40)=s3:=hs3.symm
  have hjM:decide ((z6 f:Int)+M≤300)=s4:=hs4.symm
  have HSs:=q7 (And.intro hs1 (And.intro hs2 (And.intro hs3 (And.intro hs4 (And.intro hM (And.intro hd hm))))))
  clear hs1 hs2 hs3 hs4 hmy hM hd hm
  have gb0:=cell_regrown fb0
  have gb1:=cell_regrown fb1
  have gb2:=cell_regrown fb2
  have gb3:=cell_regrown fb3
  go_wp2_with fail
  refine wp_region_quiet_below (by kernel_rfl) (by kernel_rfl) ?_
  cases s1
  rotate_left
  cases s2
  rotate_left
  cases s3
  rotate_left
  all_goals
   repeat go_big_quiet_step (exact Calls.regrown_of (hcM _ _))
   refine wpQuiet_nil ?_
   intro Wq hWq
   have hbq:Below wr.heap.size wr Wq:=by
    obtain⟨p,rfl⟩:=hWq
    exact below_regrown _ _ _
   have HBq:=q7 (HBw.out.trans (hbq.mono HBw.out.size))
   clear hWq hcM gb0 gb1 gb2 gb3 fb0 fb1 fb2 fb3 fz ff hbq
   go_wp2_with fail
   go_ret
   exact⟨by rw[HMy.out];rfl,HBq.out⟩
end Go.Proofs.YtecdphhdmjmmnaaGreatDoor
namespace Go.Proofs.YtecdphhdmjmmnaaGreatDoor
open Go.RowKit Go.Shelf Go.Deep

theorem vy (b:Bool) (n r:Int) (w:World) :
  Calls Tryz.prog 39 #[.agg #[.bool b,.int .i64 n],.int .i64 r] w fun e w'=>e = .returned (.bool (isV r (b,n)))∧Below w.heap.size w w':=Zf b n r w

theorem lahd_any {nf:Nat} {P:Nat→Int} (f:FunL) (r:Nat) (hC:FunC nf P f) (_hr:(r:Int)<f.regs) (q:Option Addr) (e1:Nat) (w:World) (hRd:SliceAt w 6 (BlkR w) q f.blocks) :
  Calls Tryz.prog 37 #[.agg #[.string f.name,.int .i64 f.params,.int .i64 f.regs,.slice q f.blocks.length e1],.int .i64 0,.int .i64 r] w fun e w'=>(∃lv:Bool,e = .returned (.bool lv)∧(lv=true↔LiveP f r 0))∧Below w.heap.size w w':=by
 have hn1:=hC.n1
 have ham:=hC.n40
 have hbA:=hC.reg
 obtain⟨gq,oq,q1,c1,q2,c2,q3,c3,hq,_⟩:=zp hRd (Below.refl _ _) hn1
 subst hq
 obtain⟨iJ,k1,k2,k3,k4⟩:=info_parts XY
 obtain⟨iB,m1,m2,m3,m4⟩:=info_parts Xi
 have hmY:=run_make_row 111 4 iB (.bool false) Qo m1 m2 m3 rfl .i64 .i64 f.blocks.length (by rw[m4];omega) (by omega)
 have hmk:∀W:World,Sem.run Tryz.prog (Instr.makeSlice 111 (.int .i64 f.blocks.length) (.int .i64 f.blocks.length)) W = .ok (.slice (some ⟨W.heap.size,0,none⟩) f.blocks.length f.blocks.length) (W.alloc (.cells (madeCells #[.bool false] f.blocks.length) 4)):=hmY
 have HC:=q7 hC
 have HRd:=q7 hRd
 clear hC hRd hmY
 go_enter Tryz.func37,Tryz.ntmps37
 go_wp2_with fail
 obtain⟨wb,hwb⟩:∃wb,wb=w.alloc (.cells #[.string f.name,.int .i64 f.params,.int .i64 f.regs,.slice (some ⟨gq,oq,none⟩) f.blocks.length e1] 37):=⟨_,rfl⟩
 obtain⟨W1,hW1⟩:∃W1,W1=((w.alloc (.cells #[.string f.name,.int .i64 f.params,.int .i64 f.regs,.slice (some ⟨gq,oq,none⟩) f.blocks.length e1] 37)).alloc (.cells (madeCells #[.bool false] f.blocks.length) 4)).alloc (.cells #[.int .i64 0] 3):=⟨_,rfl⟩
 rw[←hW1]
 have hb1:Below w.heap.size w W1:=by rw[hW1];exact bZ
 have hz1:W1.heap.size=w.heap.size+1+1+1:=by rw[hW1];simp
 have hF1:W1.heap[w.heap.size]?=some (.cells #[.string f.name,.int .i64 f.params,.int .i64 f.regs,.slice (some ⟨gq,oq,none⟩) f.blocks.length e1] 37 (0,0)):=by rw[hW1];exact qj (qj (qh rfl))
 have hH1:W1.rowIs (w.heap.size+1) 4 f.blocks.length (fun _=>.bool false):=by
  rw[hW1]
  have h9:=World.rowIs_made wb (.bool false) f.blocks.length 4
  rw[show wb.heap.size=w.heap.size+1 by rw[hwb];simp,hwb]at h9
  exact h9.alloc _
 have hT1:W1.heap[w.heap.size+1+1]?=some (.cells #[.int .i64 0] 3 (0,0)):=by rw[hW1];exact qh (by simp)
 have hS1:SlO 3 1 Qe W1 (.slice (some ⟨w.heap.size+1+1,0,none⟩) 1 1) [0] (fun b=>w.heap.size+1<b∧b<W1.heap.size):=by
  refine SlO.ofRowI ⟨rfl,.inr ⟨w.heap.size+1+1,1,#[.int .i64 0],rfl,Nat.zero_le _,hT1,Nat.le_refl _,by unfold maxLen;omega,rfl,rfl⟩⟩ (fun x hx=>by rw[List.mem_singleton.1 hx];unfold I64;omega) (fun g h=>?_) (fun b h=>h.2)
  cases h
  exact⟨by show w.heap.size+1<w.heap.size+1+1;omega,by show w.heap.size+1+1<_;omega⟩
 have HB1:=q7 hb1
 have HF1:=q7 hF1
 have HH1:=q7 hH1
 have HS1:=q7 hS1
 clear hW1 hwb hb1 hF1 hH1 hT1 hS1
 go_loopg [8] (3*umN (fun _=>false) f.blocks.length+1) (fun qq s wr=>∃(had:Nat→Bool) (todo:List Int) (p:Option Addr) (c:Nat) (S:Blks),qq=3*umN had f.blocks.length+todo.length∧s = .slice p todo.length c∧3*umN had f.blocks.length+todo.length≤200∧DfsI f r had todo∧wr.rowIs (w.heap.size+1) 4 f.blocks.length (fun j=>.bool (had j))∧SlO 3 1 Qe wr (.slice p todo.length c) todo S∧(∀b,S b→w.heap.size+1<b)∧Below w.heap.size w wr∧wr.heap[w.heap.size]?=some (.cells #[.string f.name,.int .i64 f.params,.int .i64 f.regs,.slice (some ⟨gq,oq,none⟩) f.blocks.length e1] 37 (0,0)))
 case atStart=>exact⟨fun _=>false,[0],_,_,_,rfl,rfl,by have:=umN_le (fun _=>false) f.blocks.length;simp only[List.length_cons,List.length_nil];omega,DfsI.start hn1,HH1.out,HS1.out,fun b h=>h.1,HB1.out,HF1.out⟩
 case round=>
  obtain⟨had,todo,p,c,S,rfl,rfl,hmx,hD,hR,hS,hSn,hb,hF⟩:=hrel
  obtain⟨wo,hwo⟩:∃wo,wo=wr:=⟨_,rfl⟩
  subst hwo
  have HD:=q7 hD
  have HR:=q7 hR
  have HS:=q7 hS
  have HSn:=q7 hSn
  have HB:=q7 hb
  have HF:=q7 hF
  clear hD hR hS hSn hb hF
  by_cases h0:todo=[]
  ·subst h0
   go_wp2_with fail
   go_ret
   exact⟨⟨false,rfl,by simp only[Bool.false_eq_true,false_iff];exact HD.out.ends⟩,HB.out⟩
  obtain⟨td,t,rfl⟩:∃td t,todo=td++[t]:=⟨todo.dropLast,todo.getLast h0,(List.dropLast_concat_getLast h0).symm⟩
  have htb:=HD.out.bd t (by simp)
  obtain⟨b,rfl⟩:∃b:Nat,t=(b:Int):=⟨t.toNat,by omega⟩
  have hbn:b<f.blocks.length:=by omega
  have hlen:(td++[(b:Int)]).length=td.length+1:=by simp
  rw[hlen]at hmx
  obtain⟨g,c',cs,T,hv,hgz,hSg,hcl,hx,_,_,hce,hfz,_⟩:=HS.out.focus qX (by omega) (i:=td.length) (by rw[hlen];omega)
  obtain⟨rfl,rfl⟩:p=some ⟨g,0,none⟩∧c=c':=by injection hv with h1 _ h2;exact⟨h1,h2⟩
  have hc2:td.length≤c:=by
   obtain⟨_,_,e,_,h⟩:=HS.out.val
   injection e with _ _ e2
   rw[←e2]at h
   omega
  have x0:=hce 0 (by omega)
  rw[Nat.mul_one,Nat.add_zero,hx.1]at x0
  simp only[List.getElem?_cons_zero,List.getElem_append_right (Nat.le_refl _),Nat.sub_self,List.getElem_cons_zero]at x0
  have hpre:=HS.out.pre (by omega) (by rw[hlen];omega) (m:=td.length) (by rw[hlen];omega)
  rw[List.take_left]at hpre
  have heQ:=q7 hpre
  have HLen:=q7 hlen
  have hwr:IntKind.i64.wrap ((td.length:Int)+1 - 1)=((td.length:Nat):Int):=by rw[IntKind.wrap_i64];omega
  have hhc:=HR.out.cell hbn
  have hhf:=HR.out.frozen b
  have hhz:=HR.out.lt
  have b0:(0:Int)≤(b:Int):=by omega
  obtain⟨hd,hhd⟩:∃hd,hd=had b:=⟨_,rfl⟩
  rw[←hhd]at hhc
  have HHd:=q7 hhd
  clear hv hcl hx hce hpre hlen hhd h0
  rw[HLen.out]
  cases hd
  ·obtain⟨b',o',q1,c1,q2,c2,q3,c3,hp,y0,y1,y2,y3,y4,y5,_,_,_,hl2,hl3,_,hsl,hst⟩:=zp HRd.out (Below.refl _ _) hbn
   cases hp
   have hfM:=q8 y0
   have y0:=(HB.out.cell (q8 y0)).trans y0
   have y1:=(HB.out.cell (q8 y1)).trans y1
   have y2:=(HB.out.cell (q8 y2)).trans y2
   have y3:=(HB.out.cell (q8 y3)).trans y3
   have y4:=(HB.out.cell (q8 y4)).trans y4
   have y5:=(HB.out.cell (q8 y5)).trans y5
   have yz:=q8 y0
   have hfb:=(blk HF.out).1 3
   have hqt:=q9 HF.out
   simp only[List.getElem?_toArray,List.getElem?_cons_zero,List.getElem?_cons_succ]at hfb
   have hne:¬ (gq=w.heap.size+1):=by omega
   obtain⟨bk,hbk⟩:∃bk,bk=f.blocks[b]:=⟨_,rfl⟩
   rw[←hbk]at y0 y1 y2 y3 y4 y5 hl2 hl3 hsl hst
   have hat:atF f b=bk:=by rw[hbk,qD hbn]
   have hins:∀x∈bk.list,InsC f.regs nf P x:=fun x hx=>insC_iff.1 (HC.out.ins b hbn x (by rw[←hbk];exact hx))
   have haR:∀t∈bk.fin.to,0≤t∧t<(f.blocks.length:Int):=fun t ht=>by have:=(HC.out.fin b hbn).to t (by rw[←hbk];exact ht);omega
   have htl:bk.fin.to.length≤2:=by
    have h1:=(HC.out.fin b hbn).len
    have h2:=(HC.out.fin b hbn).kind
    rw[←hbk]at h1 h2
    omega
   have HSl:=q7 hsl
   have HSt:=q7 hst
   have HAt:=q7 hat
   have hhI:=q7 hins
   have hlW:=q7 haR
   clear hbk hat hins haR hsl hst
   go_wp2_with fail
   obtain⟨W8,hW8⟩:∃W8,W8=(wo.setCell ⟨w.heap.size+1,b,none⟩ (.bool true)).alloc (.cells #[.slice q1 bk.phis.length c1,.slice q2 bk.list.length c2,.int .i64 bk.fin.kind,.bool bk.fin.onr,.int .i64 bk.fin.onn,.slice q3 bk.fin.to.length c3] 48):=⟨_,rfl⟩
   rw[←hW8]
   have hk8:Kept (fun i=>i=w.heap.size+1) wo W8:=by rw[hW8];exact((Kept.refl (fun i=>i=w.heap.size+1) wo).setCell (p:=⟨w.heap.size+1,b,none⟩) rfl _).alloc _
   have hX8:W8.heap[wo.heap.size]?=some (.cells #[.slice q1 bk.phis.length c1,.slice q2 bk.list.length c2,.int .i64 bk.fin.kind,.bool bk.fin.onr,.int .i64 bk.fin.onn,.slice q3 bk.fin.to.length c3] 48 (0,0)):=by rw[hW8];exact qh (by simp)
   have hR8:W8.rowIs (w.heap.size+1) 4 f.blocks.length (fun j=>.bool (if j=b then true else had j)):=by
    rw[hW8]
    refine((HR.out.set b (.bool true)).alloc _).congr fun j _=>?_
    split<;>rfl
   have hz8:=hk8.size
   have hzb:=HB.out.size
   have hb8:Below w.heap.size w W8:=HB.out.trans (hk8.below HB.out.size (fun i e=>by omega))
   have hF8:=(hk8.block _ (q9 HF.out) (by omega)).trans HF.out
   have hS8:=heQ.out.kept qX hk8 (fun i e h=>by have:=HSn.out i h;omega)
   obtain⟨X,hX⟩:∃X,X=wo.heap.size:=⟨_,rfl⟩
   rw[←hX]at hX8 ⊢
   have HX8:=q7 hX8
   have HR8:=q7 hR8
   have HB8:=q7 hb8
   have HF8:=q7 hF8
   have HS8:=q7 hS8
   have hum:=Vm HHd.out.symm f.blocks.length hbn
   have hto:=fun(hl:xN r bk false=false)=>HD.out.step hbn (by rw[HAt.out];exact hlW.out) (by rw[HAt.out];exact hl) rfl
   have hfd:=fun(hl:xN r bk false=true)=>HD.out.found (by rw[HAt.out];exact hl)
   rw[HAt.out]at hto
   have HTo:=q7 hto
   have HFd:=q7 hfd
   have HUm:=q7 hum
   clear hW8 hk8 hX8 hR8 hb8 hF8 hS8 hX hum hto hfd y0 y1 y2 y3 y4 y5 hfb hqt yz x0 hhc hhf hhz hgz hfz
   go_loopg [11,12] bk.list.length (fun qq s t wr=>∃i:Nat,i≤bk.list.length∧qq=bk.list.length - i∧t = .int .i64 i∧((s = .bool false∧∀l,xN r bk l=ZL r bk i l)∨(s = .bool true∧xN r bk true=false))∧Below W8.heap.size W8 wr)
   case atStart=>exact⟨0,by omega,rfl,rfl,.inl ⟨rfl,fun l=>rfl⟩,Below.refl _ _⟩
   case round=>
    obtain⟨i,hi,rfl,rfl,hsc,hb⟩:=hrel
    obtain⟨wp,hwp⟩:∃wp,wp=wr:=⟨_,rfl⟩
    subst hwp
    have hXp:=(hb.block _ (q9 HX8.out)).trans HX8.out
    have hbw:=HB8.out.trans (hb.mono HB8.out.size)
    obtain⟨xb,xf⟩:=blk hXp
    have xb1:=xb 1
    have xb2:=xb 2
    have xb3:=xb 3
    have xb4:=xb 4
    have xb5:=xb 5
    have xz:=q9 hXp
    simp only[List.getElem?_toArray,List.getElem?_cons_zero,List.getElem?_cons_succ]at xb1 xb2 xb3 xb4 xb5
    have HBp:=q7 hb
    have HBw:=q7 hbw
    clear hb hbw hXp xb
    rcases hsc with⟨rfl,hsc⟩|⟨rfl,hsc⟩
    rotate_left
    ·have hlf:xN r bk false=false:=by
      cases e:xN r bk false with
      | false=>rfl
      | true=>rw[Zb (fun h=>by cases h) e]at hsc;cases hsc
     have hD':=HTo.out hlf
     rw[hsc]at hD'
     simp only[Bool.false_eq_true,if_false,List.append_nil]at hD'
     have HD':=q7 hD'
     have hR':=HR8.out.of_block (HBp.out.block _ HR8.out.lt)
     have hS':=HS8.out.below qX HBp.out
     have hF':=(HBp.out.block _ (q9 HF8.out)).trans HF8.out
     have HR':=q7 hR'
     have HS':=q7 hS'
     have HF':=q7 hF'
     clear hsc hlf hD' hR' hS' hF'
     by_cases hil:i<bk.list.length
     all_goals
      go_wp2_with fail
      go_roundg (3*umN (fun c=>if c=b then true else had c) f.blocks.length+td.length)
      case measure=>have h9:=HLen.out;have h8:=HUm.out;omega
      case rel=>exact⟨_,td,_,_,S,rfl,rfl,by have h8:=HUm.out;omega,HD'.out,HR'.out,HS'.out,HSn.out,HBw.out,HF'.out⟩
    have HSc:=q7 hsc
    clear hsc
    by_cases hil:i<bk.list.length
    rotate_left
    ·obtain rfl:i=bk.list.length:=by omega
     have hsc:∀l,xN r bk l=(isV r (bk.fin.onr,bk.fin.onn) || l):=fun l=>by rw[HSc.out,scan_end]
     have hcf:=fun W=>vy bk.fin.onr bk.fin.onn r W
     obtain⟨a1,ha1⟩:∃a,a=isV r (bk.fin.onr,bk.fin.onn):=⟨_,rfl⟩
     rw[←ha1]at hcf
     have hsc:∀l,xN r bk l=(a1 || l):=fun l=>by rw[hsc,ha1]
     have hj8:=q7 hsc
     have HCf:=q7 hcf
     clear hsc hcf ha1
     cases a1
     ·have hlf:xN r bk false=false:=hj8.out false
      have hD':=HTo.out hlf
      rw[hj8.out true]at hD'
      simp only[Bool.false_or,if_true]at hD'
      have HD':=q7 hD'
      clear hlf hD'
      go_wp2_with fail
      refine(HCf.out _).mono ?_
      rintro e w2 ⟨rfl,hb2⟩
      have hcG:=HBp.out.trans (hb2.mono HBp.out.size)
      have hXq:=(hcG.block _ (q9 HX8.out)).trans HX8.out
      have hbw2:=HB8.out.trans (hcG.mono HB8.out.size)
      have hS2:=HS8.out.below qX hcG
      have hgK:SliceAt w2 1 ju q3 bk.fin.to:=HSt.out.mono hbw2 (by omega) fun _ _ h=>h
      have h9:=HUm.out
      obtain⟨v',w9,hrun,S',hO9,hsub,hK9⟩:=QK (P:=Tryz.prog) w2 44 44 iJ _ Tryz.underlying44 k1 k2 k3 k4 rfl hS2 (c:=c3) hgK (by omega)
      obtain⟨p9,c9,hv9,_⟩:=hO9.val
      subst hv9
      have hR9:=(HR8.out.of_block (hcG.block _ HR8.out.lt)).of_block (hK9.block (w.heap.size+1) (Nat.lt_of_lt_of_le HR8.out.lt hcG.size) (fun h=>by have:=HSn.out _ h;omega))
      have hF9:=(hK9.block w.heap.size (Nat.lt_of_lt_of_le (q9 HF8.out) hcG.size) (fun h=>by have:=HSn.out _ h;omega)).trans ((hcG.block _ (q9 HF8.out)).trans HF8.out)
      have hb9:Below w.heap.size w w9:=hbw2.trans (hK9.below hbw2.size (fun i h=>by have:=HSn.out _ h;omega))
      have hmZ:∀i,S' i→w.heap.size+1<i:=fun i h=>by
       rcases hsub i h with h|h|h
       ·exact HSn.out i h
       ·exact h.elim
       have:=HR8.out.lt;have:=hcG.size;omega
      have hl9:(td++bk.fin.to).length=td.length+bk.fin.to.length:=List.length_append
      obtain⟨xb,xf⟩:=blk hXq
      have xb5':=xb 5
      have xz':=q9 hXq
      simp only[List.getElem?_toArray,List.getElem?_cons_zero,List.getElem?_cons_succ]at xb5'
      have HO9:=q7 hO9
      have HR9:=q7 hR9
      have HF9:=q7 hF9
      have HB9:=q7 hb9
      have hqu:=q7 hmZ
      have HL9:=q7 hl9
      clear hb2 hcG hXq hbw2 hS2 hgK h9 hO9 hsub hK9 hR9 hF9 hb9 hmZ hl9 xb
      go_wp2_with (at_builtin;refine Lib.wpList_append_run _ rfl _ _ _ _ rfl _ _ rfl rfl _ _ hrun ?_)
      go_roundg (3*umN (fun c=>if c=b then true else had c) f.blocks.length+(td++bk.fin.to).length)
      case measure=>have h9:=HLen.out;have h8:=HUm.out;have h7:=HL9.out;omega
      case rel=>exact⟨_,td++bk.fin.to,p9,c9,S',rfl,by simp,by have h8:=HUm.out;have h7:=HL9.out;omega,HD'.out,HR9.out,HO9.out,hqu.out,HB9.out,HF9.out⟩
     have hlt:xN r bk false=true:=hj8.out false
     have hlv:=HFd.out hlt
     have HLv:=q7 hlv
     clear hlt hlv
     go_wp2_with (go_at_call 39;refine(HCf.out _).mono ?_;rintro e w2 ⟨rfl,hb2⟩;have HB2:Hid (Below w.heap.size w w2):=q7 (HBw.out.trans (hb2.mono HBw.out.size));clear hb2)
     go_ret
     exact⟨⟨true,rfl,by simp only[true_iff];exact HLv.out⟩,HB2.out⟩
    obtain⟨b2,o2,qs,cs2,hlp,i0,i1,i2,i3,i4,i5,i6,i7,_,_,_,_,_,hla,hss⟩:=QS HSl.out HBw.out hil
    obtain⟨b3,o3,qs',cs3,hn5,_,_,_,_,_,_,_,j7,_,_,_,_,_,_,hj9⟩:=QS HSl.out (Below.refl _ _) hil
    have hqw:=hlp.symm.trans hn5
    cases hqw
    subst hlp
    obtain⟨rfl,rfl⟩:qs'=qs∧cs3=cs2:=by
     have h1:=(HBw.out.cell (q8 j7)).trans j7
     rw[i7]at h1
     injection h1 with h1
     injection h1 with h1 _ h2
     exact⟨h1.symm,h2.symm⟩
    have yz:=q8 i0
    have hic:=hhI.out _ (List.getElem_mem hil)
    have hue:=use_eq hic r
    have hsa:=fun l=>scan_at (r:=r) hil l
    obtain⟨y,hy⟩:∃y,y=bk.list[i]:=⟨_,rfl⟩
    rw[←hy]at i0 i1 i2 i3 i4 i5 i6 i7 hla hj9 hue
    have hsa:∀l,ZL r bk i l=(useI r y || (ZL r bk (i+1) l&&!(y.dst == r))):=fun l=>by rw[hy];exact hsa l
    have HSa:=q7 hsa
    have HSs:=q7 hj9
    obtain⟨a1,ha1⟩:∃a,a=isV r (y.ar,y.an):=⟨_,rfl⟩
    obtain⟨a2,ha2⟩:∃a,a=isV r (y.br,y.bn):=⟨_,rfl⟩
    rw[←ha1,←ha2]at hue
    have hca:=fun W=>vy y.ar y.an r W
    have hcb:=fun W=>vy y.br y.bn r W
    rw[←ha1]at hca
    rw[←ha2]at hcb
    have HUe:=q7 hue
    have HCa:=q7 hca
    have HCb:=q7 hcb
    clear hic hue hsa hy ha1 ha2 hca hcb hss hj9 j7 hn5
    have hlv:useI r y=true→LiveP f r 0:=fun h=>HFd.out (by rw[HSc.out,HSa.out,h];rfl)
    have HLv:=q7 hlv
    clear hlv
    cases a1
    ·cases a2
     ·go_wp2_with fail
      obtain⟨W9,hW9⟩:∃W9,W9=wp.alloc (.cells #[.int .i64 y.op,.int .i64 y.dst,.bool y.ar,.int .i64 y.an,.bool y.br,.int .i64 y.bn,.int .i64 y.fn,.slice qs' y.args.length cs3] 53):=⟨_,rfl⟩
      rw[←hW9]
      have hb9:Below wp.heap.size wp W9:=by rw[hW9];exact bZ
      have hY9:W9.heap[wp.heap.size]?=some (.cells #[.int .i64 y.op,.int .i64 y.dst,.bool y.ar,.int .i64 y.an,.bool y.br,.int .i64 y.bn,.int .i64 y.fn,.slice qs' y.args.length cs3] 53 (0,0)):=by rw[hW9];exact qh rfl
      refine(HCa.out _).mono ?_
      rintro e w2 ⟨rfl,hb2⟩
      have hY2:=(hb2.block _ (q9 hY9)).trans hY9
      obtain⟨yb,yf⟩:=blk hY2
      have yb1:=yb 1
      have yb4:=yb 4
      have yb5:=yb 5
      have yb7:=yb 7
      have yz2:=q9 hY2
      simp only[List.getElem?_toArray,List.getElem?_cons_zero,List.getElem?_cons_succ]at yb1 yb4 yb5 yb7
      have HB2:=q7 (hb9.trans (hb2.mono hb9.size))
      have HY2:=q7 hY2
      clear hb2 hW9 hb9 hY9 hY2 yb
      go_wp2_with fail
      refine(HCb.out _).mono ?_
      rintro e w3 ⟨rfl,hb3⟩
      have hn6:=HB2.out.trans (hb3.mono HB2.out.size)
      have hY3:=(hb3.block _ (q9 HY2.out)).trans HY2.out
      obtain⟨yb,yf3⟩:=blk hY3
      have yb1':=yb 1
      have yb7':=yb 7
      have yz3:=q9 hY3
      simp only[List.getElem?_toArray,List.getElem?_cons_zero,List.getElem?_cons_succ]at yb1' yb7'
      have HB3:=q7 hn6
      have HY3:=q7 hY3
      clear hb3 hn6 hY3 yb yb1 yb4 yb5 yb7 yz2
      go_wp2_with fail
      go_loopg [14] y.args.length (fun qq s wr=>∃j:Nat,j≤y.args.length∧qq=y.args.length - j∧s = .int .i64 j∧(∀v∈y.args.take j,isV r v=false)∧Below w3.heap.size w3 wr)
      case atStart=>exact⟨0,by omega,rfl,rfl,fun v hv=>by simp at hv,Below.refl _ _⟩
      case round=>
       obtain⟨j,hj,rfl,rfl,hno,hb⟩:=hrel
       have hYr:=(hb.block _ (q9 HY3.out)).trans HY3.out
       obtain⟨yb,yfr⟩:=blk hYr
       have yb1:=yb 1
       have yb7:=yb 7
       have yzr:=q9 hYr
       simp only[List.getElem?_toArray,List.getElem?_cons_zero,List.getElem?_cons_succ]at yb1 yb7
       have HNo:=q7 hno
       have HBr:=q7 (HB3.out.trans (hb.mono HB3.out.size))
       have HBs:=q7 hb
       have hje:=q7 (HBw.out.trans ((HB3.out.trans (hb.mono HB3.out.size)).mono HBw.out.size))
       clear hno hb hYr yb yb1' yb7' yz3
       by_cases hjl:j<y.args.length
       ·obtain⟨vb,vo,hqx,va0,va1,va2⟩:=ZZ HSs.out hje.out hjl
        subst hqx
        have vz:=q8 va0
        have hcv:=fun W=>vy y.args[j].1 y.args[j].2 r W
        have hmem:=List.getElem_mem hjl
        have htk:y.args.take (j+1)=y.args.take j++[y.args[j]]:=List.take_succ_eq_append_getElem hjl
        generalize hav:y.args[j]=av at *
        obtain⟨a3,ha3⟩:∃a,a=isV r (av.1,av.2):=⟨_,rfl⟩
        rw[←ha3]at hcv
        have HCv:=q7 hcv
        have hjf:=q7 hmem
        have HTk:=q7 htk
        have HA3:=q7 ha3
        clear hcv hmem htk ha3 hav
        cases a3
        ·go_wp2_with (go_at_call 39;refine(HCv.out _).mono ?_;rintro e w4 ⟨rfl,hb4⟩;have HB4:=q7 (HBs.out.trans (hb4.mono HBs.out.size));clear hb4)
         go_roundg (y.args.length - (j+1))
         case measure=>omega
         case rel=>exact⟨j+1,by omega,rfl,by go_num,fun v hv=>by
          rw[HTk.out]at hv
          rcases List.mem_append.1 hv with h|h
          ·exact HNo.out v h
          rw[List.mem_singleton.1 h]
          exact HA3.out.symm,HB4.out⟩
        have hlv:=HLv.out (by rw[HUe.out,List.any_eq_true.2 ⟨av,hjf.out,HA3.out.symm⟩,Bool.or_true])
        have HL:=q7 hlv
        clear hlv
        go_wp2_with (go_at_call 39;refine(HCv.out _).mono ?_;rintro e w4 ⟨rfl,hb4⟩;have HB4:=q7 (hje.out.trans (hb4.mono hje.out.size));clear hb4)
        go_ret
        exact⟨⟨true,rfl,by simp only[true_iff];exact HL.out⟩,HB4.out⟩
       obtain rfl:j=y.args.length:=by omega
       have hu:useI r y=false:=by
        rw[HUe.out]
        simp only[Bool.false_or,List.any_eq_false]
        intro v hv
        rw[HNo.out v (by rw[List.take_of_length_le (Nat.le_refl _)];exact hv)]
        decide
       have hb8:=HBp.out.trans ((HB3.out.trans (HBs.out.mono HB3.out.size)).mono HBp.out.size)
       obtain⟨dd,hdd⟩:∃dd,dd=(y.dst == (r:Int)):=⟨_,rfl⟩
       have hde:(y.dst == (r:Int))=dd:=hdd.symm
       have hn:(dd=false∧∀l,xN r bk l=ZL r bk (i+1) l)∨(dd=true∧xN r bk true=false):=by
        cases dd
        ·exact .inl ⟨rfl,fun l=>by rw[HSc.out,HSa.out,hu,hde];simp⟩
        exact .inr ⟨rfl,by rw[HSc.out,HSa.out,hu,hde];simp⟩
       have HNx:=q7 hn
       have hqy:=q7 hb8
       clear hu hb8 hdd hn
       go_wp2_with fail
       go_roundg (bk.list.length - (i+1))
       case measure=>omega
       case rel=>exact⟨i+1,by omega,rfl,by go_num,HNx.out.imp (fun h=>⟨by rw[h.1],h.2⟩) (fun h=>⟨by rw[h.1],h.2⟩),hqy.out⟩
     have hlv:=HLv.out (by rw[HUe.out];rfl)
     have HL:=q7 hlv
     clear hlv
     go_wp2_with fail
     obtain⟨W9,hW9⟩:∃W9,W9=wp.alloc (.cells #[.int .i64 y.op,.int .i64 y.dst,.bool y.ar,.int .i64 y.an,.bool y.br,.int .i64 y.bn,.int .i64 y.fn,.slice qs' y.args.length cs3] 53):=⟨_,rfl⟩
     rw[←hW9]
     have hb9:Below wp.heap.size wp W9:=by rw[hW9];exact bZ
     have hY9:W9.heap[wp.heap.size]?=some (.cells #[.int .i64 y.op,.int .i64 y.dst,.bool y.ar,.int .i64 y.an,.bool y.br,.int .i64 y.bn,.int .i64 y.fn,.slice qs' y.args.length cs3] 53 (0,0)):=by rw[hW9];exact qh rfl
     refine(HCa.out _).mono ?_
     rintro e w2 ⟨rfl,hb2⟩
     have hY2:=(hb2.block _ (q9 hY9)).trans hY9
     obtain⟨yb,yf⟩:=blk hY2
     have yb1:=yb 1
     have yb4:=yb 4
     have yb5:=yb 5
     have yb7:=yb 7
     have yz2:=q9 hY2
     simp only[List.getElem?_toArray,List.getElem?_cons_zero,List.getElem?_cons_succ]at yb1 yb4 yb5 yb7
     have HB2:=q7 (hb9.trans (hb2.mono hb9.size))
     have HY2:=q7 hY2
     clear hb2 hW9 hb9 hY9 hY2 yb
     go_wp2_with fail
     refine(HCb.out _).mono ?_
     rintro e w3 ⟨rfl,hb3⟩
     have HB3:=q7 (HBw.out.trans ((HB2.out.trans (hb3.mono HB2.out.size)).mono HBw.out.size))
     clear hb3
     go_wp2_with fail
     go_ret
     exact⟨⟨true,rfl,by simp only[true_iff];exact HL.out⟩,HB3.out⟩
    have hlv:=HLv.out (by rw[HUe.out];rfl)
    have HL:=q7 hlv
    clear hlv
    go_wp2_with fail
    refine(HCa.out _).mono ?_
    rintro e w2 ⟨rfl,hb2⟩
    have HB2:=q7 (HBw.out.trans ((((Below.refl wp.heap.size wp).alloc (Nat.le_refl _) _).trans (hb2.mono (by simp))).mono HBw.out.size))
    clear hb2
    go_wp2_with fail
    go_ret
    exact⟨⟨true,rfl,by simp only[true_iff];exact HL.out⟩,HB2.out⟩
  go_wp2_with fail
  go_roundg (3*umN had f.blocks.length+td.length)
  case measure=>have h9:=HLen.out;omega
  case rel=>exact⟨had,td,_,_,S,rfl,rfl,by omega,HD.out.skip HHd.out.symm,HR.out,heQ.out,HSn.out,HB.out,HF.out⟩
end Go.Proofs.YtecdphhdmjmmnaaGreatDoor
namespace Go.Proofs.YtecdphhdmjmmnaaGreatDoor
open Go.RowKit

theorem no_take {p:BlkL→Prop} {l:List BlkL} {j:Nat} (h:j<l.length) (h1:∀b∈l.take j,p b) (h2:p l[j]):∀b∈l.take (j+1),p b:=fun b hb=>by
 rw[List.take_succ_eq_append_getElem h]at hb
 rcases List.mem_append.1 hb with h3|h3
 ·exact h1 b h3
 rw[List.mem_singleton.1 h3];exact h2

theorem plf_any {nf:Nat} {P:Nat→Int} (f:FunL) (hC:FunC nf P f) (q:Option Addr) (e1:Nat) (w:World) (hRd:SliceAt w 6 (BlkR w) q f.blocks) :
  Calls Tryz.prog 15 #[.agg #[.string f.name,.int .i64 f.params,.int .i64 f.regs,.slice q f.blocks.length e1]] w fun e w'=>e = .returned (.bool (qQ f))∧Below w.heap.size w w':=by
 have hn1:=hC.n1
 have ham:=hC.n40
 have haL:=hC.par
 have hbA:=hC.reg
 obtain⟨gq,oq,q1,c1,q2,c2,q3,c3,hq,_⟩:=zp hRd (Below.refl _ _) hn1
 subst hq
 have HC:=q7 hC
 have HRd:=q7 hRd
 clear hC hRd
 go_enter Tryz.func15,Tryz.ntmps15
 go_wp2_with fail
 obtain⟨W1,hW1⟩:∃W1,W1=w.alloc (.cells #[.string f.name,.int .i64 f.params,.int .i64 f.regs,.slice (some ⟨gq,oq,none⟩) f.blocks.length e1] 37):=⟨_,rfl⟩
 rw[←hW1]
 have hb1:Below w.heap.size w W1:=by rw[hW1];exact bZ
 have hF1:W1.heap[w.heap.size]?=some (.cells #[.string f.name,.int .i64 f.params,.int .i64 f.regs,.slice (some ⟨gq,oq,none⟩) f.blocks.length e1] 37 (0,0)):=by rw[hW1];exact qh rfl
 have HB1:=q7 hb1
 have HF1:=q7 hF1
 clear hW1 hb1 hF1
 go_loopg [3] f.blocks.length (fun qq s wr=>∃j:Nat,j≤f.blocks.length∧qq=f.blocks.length - j∧s = .int .i64 j∧(∀b∈f.blocks.take j,b.phis=[])∧Below W1.heap.size W1 wr)
 case atStart=>exact⟨0,by omega,rfl,rfl,fun b hb=>by simp at hb,Below.refl _ _⟩
 case round=>
  obtain⟨j,hj,rfl,rfl,hno,hb⟩:=hrel
  obtain⟨wo,hwo⟩:∃wo,wo=wr:=⟨_,rfl⟩
  subst hwo
  have hbw:=HB1.out.trans (hb.mono HB1.out.size)
  have hFw:=(hb.block _ (q9 HF1.out)).trans HF1.out
  obtain⟨fb,ff⟩:=blk hFw
  have fb1:=fb 1
  have fb2:=fb 2
  have fb3:=fb 3
  simp only[List.getElem?_toArray,List.getElem?_cons_zero,List.getElem?_cons_succ]at fb1 fb2 fb3
  have fz:=q9 hFw
  have HB2:=q7 hb
  have HBw:=q7 hbw
  have HNo:=q7 hno
  have HFw:=q7 hFw
  clear hb hbw fb hFw hno
  by_cases hlt:j<f.blocks.length
  ·obtain⟨b',o',q1,c1,q2,c2,q3,c3,hp,e0,_⟩:=zp HRd.out HBw.out hlt
   cases hp
   have ez:=q8 e0
   have hmem:=List.getElem_mem hlt
   have hnx:=fun h=>no_take (p:=fun b=>b.phis=[]) hlt HNo.out h
   generalize hbk:f.blocks[j]=bk at *
   have hjf:=q7 hmem
   have HNx:=q7 hnx
   clear hmem hnx hbk
   by_cases hph:bk.phis.length=0
   ·have h9:=HNx.out (List.eq_nil_of_length_eq_zero hph)
    have HN9:=q7 h9
    have hg:decide ((0:Int)<(bk.phis.length:Int))=false:=decide_eq_false (by omega)
    have hg2:decide (0<bk.phis.length)=false:=decide_eq_false (by omega)
    clear h9 hph
    go_wp2_with fail
    go_roundg (f.blocks.length - (j+1))
    case measure=>omega
    case rel=>exact⟨j+1,by omega,rfl,by go_num,HN9.out,HB2.out⟩
   have hg:decide ((0:Int)<(bk.phis.length:Int))=true:=decide_eq_true (by omega)
   have hg2:decide (0<bk.phis.length)=true:=decide_eq_true (by omega)
   have hpl:qQ f=false:=by
    refine Bool.eq_false_iff.2 fun h=>?_
    have:=((QH HC.out).1 h).1 bk hjf.out
    rw[this]at hph
    exact hph rfl
   have HPl:=q7 hpl
   clear hpl hph
   go_wp2_with fail
   go_ret
   exact⟨by rw[HPl.out];rfl,HBw.out⟩
  obtain rfl:j=f.blocks.length:=by omega
  have hno:∀b∈f.blocks,b.phis=[]:=fun b hb=>HNo.out b (by rw[List.take_of_length_le (Nat.le_refl _)];exact hb)
  have HNa:=q7 hno
  obtain⟨pn,hpn⟩:∃n:Nat,f.params=n:=⟨f.params.toNat,by omega⟩
  have HPn:=q7 hpn
  have hpr:(pn:Int)≤f.regs:=by omega
  clear hno HNo hpn
  go_wp2_with fail
  go_loopg [4] (f.regs.toNat - pn) (fun qq s wr=>∃r:Nat,pn≤r∧(r:Int)≤f.regs∧qq=f.regs.toNat - r∧s = .int .i64 r∧(∀t:Nat,pn≤t→t<r→¬ LiveP f t 0)∧Below wo.heap.size wo wr)
  case atStart=>exact⟨pn,by omega,hpr,rfl,by rw[HPn.out],fun t h1 h2=>by omega,Below.refl _ _⟩
  case round=>
   obtain⟨r,hr1,hr2,rfl,rfl,hnl,hb⟩:=hrel
   have hbw:=HBw.out.trans (hb.mono HBw.out.size)
   have hFr:=(hb.block _ (q9 HFw.out)).trans HFw.out
   obtain⟨gb,gf⟩:=blk hFr
   have gb0:=gb 0
   have gb1:=gb 1
   have gb2:=gb 2
   have gb3:=gb 3
   simp only[List.getElem?_toArray,List.getElem?_cons_zero,List.getElem?_cons_succ]at gb0 gb1 gb2 gb3
   have gz:=q9 hFr
   have HB3:=q7 hb
   have hgJ:=q7 hbw
   have HNl:=q7 hnl
   clear hb hbw gb hFr hnl
   by_cases hlr:(r:Int)<f.regs
   rotate_left
   ·have hpl:qQ f=true:=(QH HC.out).2 ⟨HNa.out,fun t h1 h2=>HNl.out t (by rw[HPn.out]at h1;omega) (by omega)⟩
    have HPl:=q7 hpl
    clear hpl
    go_wp2_with fail
    go_ret
    exact⟨by rw[HPl.out];rfl,hgJ.out⟩
   have hla:=lahd_any f r HC.out hlr (some ⟨gq,oq,none⟩) e1 wr (xp HRd.out hgJ.out)
   have HLa:=q7 hla
   clear hla
   go_wp2_with fail
   refine HLa.out.mono ?_
   rintro e w2 ⟨⟨lv,rfl,hlv⟩,hb2⟩
   have HB4:=q7 (HB3.out.trans (hb2.mono HB3.out.size))
   have hqA:=q7 (hgJ.out.trans (hb2.mono hgJ.out.size))
   have HLv:=q7 hlv
   clear hb2 hlv
   cases lv
   ·go_wp2_with fail
    go_roundg (f.regs.toNat - (r+1))
    case measure=>omega
    case rel=>exact⟨r+1,by omega,by omega,rfl,by go_num,fun t h1 h2 h3=>by
     rcases Nat.lt_or_ge t r with h|h
     ·exact HNl.out t h1 h h3
     obtain rfl:t=r:=by omega
     exact absurd (HLv.out.2 h3) (by decide),HB4.out⟩
   have hpl:qQ f=false:=by
    refine Bool.eq_false_iff.2 fun h=>?_
    exact((QH HC.out).1 h).2 r (by rw[HPn.out];omega) hlr (HLv.out.1 rfl)
   have HPl:=q7 hpl
   clear hpl
   go_wp2_with fail
   go_ret
   exact⟨by rw[HPl.out];rfl,hqA.out⟩
end Go.Proofs.YtecdphhdmjmmnaaGreatDoor
namespace Go.Proofs.YtecdphhdmjmmnaaGreatDoor
open Go.RowKit Go.Shelf

theorem TlO.gone {u:UniL} {V:List FunL} (h:TlO u V) {k:Nat} (hk:k<V.length) (hk2:k<(xt u).funcs.length) (hp:qQ (xt u).funcs[k]=true) (hr:VF k (xt u).funcs[k]=true):∀b∈V[k].blocks,zd k b=false:=by
 have hu:k<u.funcs.length:=by rw[←h.len];exact hk
 have e1:V[k]=doT (tailF qQ k (doT u.funcs[k])):=by
  obtain⟨_,rfl⟩:=h
  simp[xt,jq]
 have e2:(xt u).funcs[k]=doT u.funcs[k]:=by simp[xt]
 rw[e2]at hp hr
 have hf:=h.1.funC hu
 have hd:=hf.done
 have hP:QP u k=(doT u.funcs[k]).params:=by rw[(Q5 _).2];exact Jl hu
 have e3:tailF qQ k (doT u.funcs[k])=zm k (doT u.funcs[k]):=by unfold tailF;rw[if_pos ⟨hp,hr⟩]
 rw[e1,e3]
 exact goes_gone hd (hd.round hP (jX _ hp) hr) (jX _ hp) hf.isCalm (mayR_iff.1 hr).1
theorem TlO.on {u:UniL} {V:List FunL} (h:TlO u V) {k b:Nat} (hk:k<V.length) (hb:b<V[k].blocks.length):V[k].blocks[b].fin.onr=true→0≤V[k].blocks[b].fin.onn:=fun e=>by
 have ho:=h.okY.tidy.2
 rw[←h.eq]at ho
 exact((ho.funC (k:=k) hk).fin b hb).on e |>.1

theorem tgo_all (u:UniL) (gp fp:Option Addr) (gc fc:Nat) (w:World) (hG:SlF w 3 48 (GloR w) (.slice gp u.globals.length gc) u.globals) (hF:SlF w 4 56 (FunR w) (.slice fp u.funcs.length fc) u.funcs) (hw0:Ways w) :
  Calls Tryz.prog 4 #[.agg #[.slice gp u.globals.length gc,.slice fp u.funcs.length fc]] w fun e w'=>e = .returned (.bool true)∧Below w.heap.size w w':=by
 have hgl:u.globals.length*48≤140737488351232:=hG.bdC
 have hfl:u.funcs.length*56≤140737488351232:=hF.bdC
 have HGs:=q7 hG
 have HFs:=q7 hF
 have HW:=q7 hw0
 clear hG hF hw0
 go_enter Tryz.func4,Tryz.ntmps4
 go_wp2_with fail
 obtain⟨w1,hw1⟩:∃w1,w1=w.alloc (.cells #[.slice gp u.globals.length gc,.slice fp u.funcs.length fc] 25):=⟨_,rfl⟩
 rw[←hw1]
 have hb1:Below w.heap.size w w1:=by rw[hw1];exact bZ
 have hO1:w1.heap[w.heap.size]?=some (.cells #[.slice gp u.globals.length gc,.slice fp u.funcs.length fc] 25 (0,0)):=by rw[hw1];exact qh rfl
 have hz1:w1.heap.size=w.heap.size+1:=by rw[hw1];simp
 have hgm:=SlF.mono HGs.out hb1 (by omega) fun _ _ h=>h.below hb1
 have hfm:=SlF.mono HFs.out hb1 (by omega) fun _ _ h=>h.below hb1
 have HB1:=q7 hb1
 have HO1:=q7 hO1
 clear hw1 hb1 hO1
 refine(tlo_any u gp fp gc fc w1 hgm hfm (HW.out.below HB1.out)).mono ?_
 rintro e w2 ⟨h,hb2⟩
 have HB2:=q7 (HB1.out.trans (hb2.mono HB1.out.size))
 have HO2:=q7 ((hb2.block _ (by omega)).trans HO1.out)
 have hz2:=hb2.size
 clear hgm hfm hb2
 rcases h with⟨c,k,hne,rfl⟩|⟨hc,V,hV,p1,c1,p2,c2,rfl,hgr,hfr⟩
 ·go_wp2_with fail
  refine(none_none _).mono ?_
  rintro e w3 ⟨rfl,hb3⟩
  have HB3:Hid (Below w.heap.size w w3):=q7 (HB2.out.trans (Below.trans bZ (hb3.mono (by simp;omega))))
  clear hb3
  go_wp2_with fail
  go_ret
  exact⟨rfl,HB3.out⟩
 obtain⟨m,hm,_⟩:=hc.main
 have hpos:0<u.funcs.length:=Nat.lt_of_le_of_lt (Nat.zero_le _) (XS hm)
 have hF2:SliceAt w2 4 (FunR w2) p2 V:=by
  obtain⟨p,c,e,_,_,h⟩:=hfr.outC
  injection e with e1 e2 e3
  rw[e1]
  exact h
 have HF2:=q7 hF2
 have HC:=q7 hc
 have HV:=q7 hV
 clear hc hm hV hgr hfr hF2
 have b0:w2.cell? ⟨w.heap.size,0,none⟩=some (.slice gp u.globals.length gc):=(blk HO2.out).1 0
 have b1:w2.cell? ⟨w.heap.size,1,none⟩=some (.slice fp u.funcs.length fc):=(blk HO2.out).1 1
 have bz:=q9 HO2.out
 go_wp2_with fail
 obtain⟨W3,hW3⟩:∃W3,W3=(w2.alloc (.cells #[.slice p1 u.globals.length c1,.slice p2 u.funcs.length c2] 25)).alloc (.cells #[.int .i64 0,.int .i64 0] 27):=⟨_,rfl⟩
 rw[←hW3]
 have hz3:W3.heap.size=w2.heap.size+1+1:=by rw[hW3];simp
 have hb3:Below w2.heap.size w2 W3:=by rw[hW3];exact bZ
 have hO3:W3.heap[w2.heap.size]?=some (.cells #[.slice p1 u.globals.length c1,.slice p2 u.funcs.length c2] 25 (0,0)):=by rw[hW3];exact qj (qh rfl)
 have hB3:=HB2.out.trans (hb3.mono HB2.out.size)
 have HB3:=q7 hb3
 have HBw:=q7 hB3
 have HO3:=q7 hO3
 have htd:=tdo_ok u gp fp gc fc W3 hgl (HGs.out.mono hB3 (by omega) fun _ _ h=>h.below hB3) hfl (HFs.out.mono hB3 (by omega) fun _ _ h=>h.below hB3) (HW.out.below hB3) (by rw[HC.out.zero])
 clear hW3 hb3 hO3 b0 b1 bz hB3
 refine htd.mono ?_
 rintro e w5 ⟨⟨q1,d1,q2,d2,rfl,S,hS,_⟩,hb5⟩
 have htl:(xt u).funcs.length=u.funcs.length:=by simp[xt]
 obtain⟨hr1,hr2⟩:=hS.readT
 have hT2:SliceAt w5 4 (FunR w5) q2 (xt u).funcs:=by
  obtain⟨p,c,e,_,_,h⟩:=hr2.outC
  injection e with e1 e2 e3
  rw[e1]
  exact h
 have HT2:=q7 hT2
 have HTl:=q7 htl
 have HB5:=q7 (HBw.out.trans (hb5.mono HBw.out.size))
 have hn7:=q7 (HB3.out.trans (hb5.mono HB3.out.size))
 have hz5:=hb5.size
 have HO5:=q7 ((hb5.block _ (by omega)).trans HO3.out)
 have v1:w5.cell? ⟨w2.heap.size,1,none⟩=some (.slice p2 u.funcs.length c2):=(blk HO5.out).1 1
 have vz:=q9 HO5.out
 have hnn:((u.funcs.length:Int) == 0)=false:=beq_eq_false_iff_ne.2 (by omega)
 have hnq:((u.funcs.length:Int) != u.funcs.length)=false:=by simp
 clear hS hr1 hr2 hT2 hb5 htd htl
 go_wp2_with fail
 obtain⟨W6,hW6⟩:∃W6,W6=(w5.alloc (.cells #[.slice q1 u.globals.length d1,.slice q2 u.funcs.length d2] 25)).alloc (.cells #[.int .i64 0,.int .i64 0] 27):=⟨_,rfl⟩
 rw[←hW6]
 have hb6:Below w5.heap.size w5 W6:=by rw[hW6];exact bZ
 have hT6:W6.heap[w5.heap.size]?=some (.cells #[.slice q1 u.globals.length d1,.slice q2 u.funcs.length d2] 25 (0,0)):=by rw[hW6];exact qj (qh rfl)
 have HB6:=q7 (HB5.out.trans (hb6.mono HB5.out.size))
 have hn8:=q7 (hn7.out.trans (hb6.mono hn7.out.size))
 have hn9:=q7 hb6
 have HT6:=q7 hT6
 have HO6:=q7 ((hb6.block _ (q9 HO5.out)).trans HO5.out)
 have hvl:=HV.out.len
 have HVl:=q7 hvl
 clear hW6 hb6 hT6 v1 vz hvl hnn hnq
 go_loopg [7] u.funcs.length (fun qq s wr=>∃k:Nat,k≤u.funcs.length∧qq=u.funcs.length - k∧s = .int .i64 k∧Below W6.heap.size W6 wr)
 case atStart=>exact⟨0,by omega,rfl,rfl,Below.refl _ _⟩
 case round=>
  obtain⟨k,hk,rfl,rfl,hb⟩:=hrel
  obtain⟨wo,hwo⟩:∃wo,wo=wr:=⟨_,rfl⟩
  subst hwo
  have hjg:∀W,Below W6.heap.size W6 W→Below w.heap.size w W∧W.cell? ⟨w2.heap.size,1,none⟩=some (.slice p2 u.funcs.length c2)∧w2.heap.size<W.heap.size∧W.cell? ⟨w5.heap.size,1,none⟩=some (.slice q2 u.funcs.length d2)∧w5.heap.size<W.heap.size∧Below w2.heap.size w2 W∧Below w5.heap.size w5 W:=fun W h=>by
   have h1:=(h.block _ (q9 HO6.out)).trans HO6.out
   have h2:=(h.block _ (q9 HT6.out)).trans HT6.out
   exact⟨HB6.out.trans (h.mono HB6.out.size),(blk h1).1 1,q9 h1,(blk h2).1 1,q9 h2,hn8.out.trans (h.mono hn8.out.size),hn9.out.trans (h.mono hn9.out.size)⟩
  have hng:=q7 hjg
  obtain⟨hbw,o1,oz,t1,tz,hdP,hbQ⟩:=hjg wo hb
  have HBo:=q7 hb
  have hqB:=q7 hbw
  have hrW:=q7 hdP
  have hqD:=q7 hbQ
  clear hb hbw hdP hbQ hjg
  by_cases hlt:k<u.funcs.length
  rotate_left
  ·obtain rfl:k=u.funcs.length:=by omega
   go_wp2_with fail
   go_ret
   exact⟨rfl,hqB.out⟩
  have hkt:k<(xt u).funcs.length:=by rw[HTl.out];exact hlt
  have hkv:k<V.length:=by rw[HVl.out];exact hlt
  have k0:(0:Int)≤(k:Int):=by omega
  have k1:(k:Int)<u.funcs.length:=by omega
  obtain⟨f,hf⟩:∃f,f=(xt u).funcs[k]:=⟨_,rfl⟩
  have hfc:=HC.out.tidy.2.funC hkt
  rw[←hf]at hfc
  obtain⟨tb,to',q,c,rfl,e0,e1,e2,e3,_,_,_,_,hbl⟩:=vU HT2.out hqD.out hkt
  have hgo:=HV.out.gone hkv hkt
  rw[←hf]at e0 e1 e2 e3 hbl hgo
  have HGo:=q7 hgo
  have HFc:=q7 hfc
  have HFe:=q7 hf
  have HBl:=q7 hbl
  have ez:=q8 e0
  obtain⟨pl,hpl⟩:∃b,b=qQ f:=⟨_,rfl⟩
  obtain⟨mr,hmr⟩:∃b,b=VF k f:=⟨_,rfl⟩
  have hca:=plf_any f hfc q c wo hbl
  rw[←hpl]at hca
  have HCa:=q7 hca
  have HPl:=q7 hpl
  have HMr:=q7 hmr
  clear hgo hfc hf hbl hca hpl hmr
  cases pl
  ·go_wp2_with fail
   refine HCa.out.mono ?_
   rintro e wq ⟨rfl,hbq⟩
   have HBq:=q7 (HBo.out.trans (hbq.mono HBo.out.size))
   clear hbq
   go_wp2_with fail
   go_roundg (u.funcs.length - (k+1))
   case measure=>omega
   case rel=>exact⟨k+1,by omega,rfl,by go_num,HBq.out⟩
  go_wp2_with fail
  refine HCa.out.mono ?_
  rintro e wq ⟨rfl,hbq⟩
  have hju:=HBo.out.trans (hbq.mono HBo.out.size)
  obtain⟨hbw,o1',oz',t1',tz',hdP,hbQ⟩:=hng.out wq hju
  have g0:=(hbq.cell (q8 e0)).trans e0
  have g1:=(hbq.cell (q8 e1)).trans e1
  have g2:=(hbq.cell (q8 e2)).trans e2
  have g3:=(hbq.cell (q8 e3)).trans e3
  have gz:=q8 g0
  have hcb:=troom_any f k HFc.out q c wq (xp HBl.out hbq)
  rw[←HMr.out]at hcb
  have HCb:=q7 hcb
  have HBq:=q7 hju
  clear hbq hju hbw hdP hbQ hcb e0 e1 e2 e3 ez o1 oz t1 tz
  cases mr
  ·go_wp2_with fail
   refine HCb.out.mono ?_
   rintro e wp ⟨rfl,hbp⟩
   have HBp:=q7 (HBq.out.trans (hbp.mono HBq.out.size))
   clear hbp
   go_wp2_with fail
   go_roundg (u.funcs.length - (k+1))
   case measure=>omega
   case rel=>exact⟨k+1,by omega,rfl,by go_num,HBp.out⟩
  go_wp2_with fail
  refine HCb.out.mono ?_
  rintro e wp ⟨rfl,hbp⟩
  have HBp:=q7 (HBq.out.trans (hbp.mono HBq.out.size))
  have hgn:=HGo.out HPl.out.symm HMr.out.symm
  have HGn:=q7 hgn
  clear hbp hgn g0 g1 g2 g3 gz o1' oz' t1' tz'
  obtain⟨v,hv⟩:∃v,v=V[k]:=⟨_,rfl⟩
  have hon:=fun b hb=>HV.out.on (b:=b) hkv hb
  rw[←hv]at HGn
  have HOn:Hid (∀b (hb:b<v.blocks.length),v.blocks[b].fin.onr=true→0≤v.blocks[b].fin.onn):=q7 (by subst hv;exact hon)
  have HVe:=q7 hv
  clear hon hv
  go_wp2_with fail
  go_loopg [8] v.blocks.length (fun qq s wr=>∃b:Nat,b≤v.blocks.length∧qq=v.blocks.length - b∧s = .int .i64 b∧Below W6.heap.size W6 wr)
  case atStart=>exact⟨0,by omega,rfl,rfl,HBp.out⟩
  case round=>
   obtain⟨b,hbl,rfl,rfl,hb⟩:=hrel
   obtain⟨hbw,o1,oz,t1,tz,hdP,hbQ⟩:=hng.out wr hb
   obtain⟨vb,vo,q',c',rfl,e0,e1,e2,e3,_,_,_,h96,hbs⟩:=vU HF2.out hdP hkv
   rw[←HVe.out]at e0 e1 e2 e3 h96 hbs
   have ez:=q8 e0
   have HBr:=q7 hb
   have HBw:=q7 hbw
   have HBs:=q7 hbs
   clear hb hbw hdP hbQ t1 tz hbs
   by_cases hblt:b<v.blocks.length
   ·have hgb:=HGn.out _ (List.getElem_mem hblt)
    have hon:=HOn.out b hblt
    have b0:(0:Int)≤(b:Int):=by omega
    have b1:(b:Int)<v.blocks.length:=by omega
    obtain⟨xb,xo,r1,x1,r2,x2,r3,x3,rfl,y0,y1,y2,y3,y4,y5,_,_,_,hl2,_,_,hsl,_⟩:=zp HBs.out (Below.refl _ _) hblt
    have yz:=q8 y0
    have htb:=Vn v.blocks[b] r1 r2 r3 x1 x2 x3 k wr hl2 hsl hon
    rw[hgb]at htb
    generalize hbk:v.blocks[b]=bk at *
    have HTb:=q7 htb
    clear htb hgb hon hbk hsl
    go_wp2_with fail
    refine HTb.out.mono ?_
    rintro e wt ⟨rfl,hbt⟩
    have HBt:=q7 (HBr.out.trans (hbt.mono HBr.out.size))
    clear hbt
    go_wp2_with fail
    go_roundg (v.blocks.length - (b+1))
    case measure=>omega
    case rel=>exact⟨b+1,by omega,rfl,by go_num,HBt.out⟩
   obtain rfl:b=v.blocks.length:=by omega
   go_wp2_with fail
   go_roundg (u.funcs.length - (k+1))
   case measure=>omega
   case rel=>exact⟨k+1,by omega,rfl,by go_num,HBr.out⟩
end Go.Proofs.YtecdphhdmjmmnaaGreatDoor
namespace Go.Proofs.YtecdphhdmjmmnaaGreatDoor
open Go.ChangeShapes Go.WideShapes Go.ChangeAt Go.RowKit

def ks:List (String×DataW Unit):=Rows.tailSaysRow.laid
def nameWays : String := (Rows.tailSaysRow.laid.map (·.1)).headD ""
theorem gWays:Tryz.prog.globalNamed nameWays=some 0:=by kernel_rfl
theorem tWays:(Tryz.prog.globals[0]?).map (·.type)=some 135:=by kernel_rfl
theorem own:ownKnob Tryz.prog.godebug=none:=by kernel_rfl
theorem laidOut:laidOutB Tryz.prog=true:=by kernel_rfl
theorem door_ways (os:Os) (args:Array Value):laidMetH Tryz.prog ks ((World.doorLaid Tryz.prog 400 os).forCall (fun _ _=>0) ⟨#[],args,[]⟩).memory:=
 laidMetH_of_parts3 (fuel:=8) (laidMet_of_run' 8 (by kernel_rfl) (by kernel_rfl)) (by kernel_rfl) (by kernel_rfl)

theorem XT {W:World} (h:laidMetH Tryz.prog ks W):Ways W:=by
 rw[MakeChecks.laidMetH_plain _ _ _ (by kernel_rfl)]at h
 obtain⟨ps,⟨g1,t1,cs1,f1,p1,q1,hg1,ht1,hv1,hd1,_,_⟩,_,_⟩:=h
 obtain rfl:=Option.some.inj (gWays.symm.trans hg1)
 obtain rfl:=Option.some.inj (tWays.symm.trans ht1)
 obtain⟨xs,m1,rfl,hx1,hlen,hn4,hel⟩:=DataW.trod_array Tryz.underlying135 hd1
 have c3:Tryz.prog.cellsOf 3=1:=by kernel_rfl
 have c4:Tryz.prog.cellsOf 135=4:=by kernel_rfl
 rw[c4]at hlen
 obtain⟨l1⟩:=cs1
 obtain⟨a0,a1,a2,a3,rfl⟩:=Vp (show l1.length=4 from hlen)
 obtain⟨x0,x1,x2,x3,rfl⟩:=Vp hn4
 simp only[Rows.laid_turnery_code_ways,List.map_cons,List.map_nil,Prod.mk.injEq,DataW.agg.injEq,List.cons.injEq]at hx1
 rw[c3]at hel
 have hv:=World.var?_cell hg1 hv1
 have one:∀(i:Nat) (a:Value) (x:DataW Unit×List MemPlace) (n:Int),DataW.trod (fun _=>()) Tryz.prog W 0 (fun _=>true) false m1 3 [a]=some x→DataW.lit (.int .i64 n)=x.1→a = .int .i64 n:=fun i a x n h e=>by
  obtain⟨k,e1,e2,_⟩:=DataW.trod_int Tryz.underlying3 (show DataW.trod _ Tryz.prog W 0 _ false m1 3 _=some x from h)
  rw[e2]at e
  simp at e e1
  rw[e1,e]
 obtain⟨⟨e0,e1,e2,e3,_⟩,_⟩:=hx1
 obtain rfl:=one 0 a0 x0 0 (hel 0 (by decide)) e0
 obtain rfl:=one 1 a1 x1 0 (hel 1 (by decide)) e1
 obtain rfl:=one 2 a2 x2 1 (hel 2 (by decide)) e2
 obtain rfl:=one 3 a3 x3 2 (hel 3 (by decide)) e3
 exact⟨by simpa using hv 0,by simpa using hv 1,by simpa using hv 2,by simpa using hv 3⟩
end Go.Proofs.YtecdphhdmjmmnaaGreatDoor
