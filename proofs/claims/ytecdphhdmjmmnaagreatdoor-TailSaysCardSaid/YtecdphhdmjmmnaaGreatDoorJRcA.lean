/-
  append([]T(nil), x...) in the middle of a walk: a copy in memory of the call's own.
-/
import Derived.Test.YtecdphhdmjmmnaaGreatDoorJTbkB
import Derived.Laws.AppendOwnNone
set_option maxRecDepth 100000
set_option maxHeartbeats 16000000
namespace Go.Proofs.YtecdphhdmjmmnaaGreatDoor
open Go.RowKit Go.Shelf Go.Deep

theorem vM (b:Bool) (n r:Int) (w:World) :
  Calls Tryz.prog 39 #[.agg #[.bool b,.int .i64 n],.int .i64 r] w fun e w'=>e = .returned (.bool (isV r (b,n)))∧Below w.heap.size w w':=Zr b n r w

theorem lahd_any {nf:Nat} {P:Nat→Int} (f:FunL) (r:Nat) (hC:FunC nf P f) (_hr:(r:Int)<f.regs) (q:Option Addr) (e1:Nat) (w:World) (hRd:SliceAt w 6 (BlkR w) q f.blocks) :
  Calls Tryz.prog 37 #[.agg #[.string f.name,.int .i64 f.params,.int .i64 f.regs,.slice q f.blocks.length e1],.int .i64 0,.int .i64 r] w fun e w'=>(∃lv:Bool,e = .returned (.bool lv)∧(lv=true↔LiveP f r 0))∧Below w.heap.size w w':=by
 have hn1:=hC.n1
 have haA:=hC.n40
 have hbh:=hC.reg
 obtain⟨gq,oq,q1,c1,q2,c2,q3,c3,hq,_⟩:=zE hRd (Below.refl _ _) hn1
 subst hq
 obtain⟨iJ,k1,k2,k3,k4⟩:=info_parts Jm
 obtain⟨iB,m1,m2,m3,m4⟩:=info_parts XD
 have ho5:=run_make_row 111 4 iB (.bool false) QB m1 m2 m3 rfl .i64 .i64 f.blocks.length (by rw[m4];omega) (by omega)
 have hmk:∀W:World,Sem.run Tryz.prog (Instr.makeSlice 111 (.int .i64 f.blocks.length) (.int .i64 f.blocks.length)) W = .ok (.slice (some ⟨W.heap.size,0,none⟩) f.blocks.length f.blocks.length) (W.alloc (.cells (madeCells #[.bool false] f.blocks.length) 4)):=ho5
 have HC:=q7 hC
 have HRd:=q7 hRd
 clear hC hRd ho5
 go_enter Tryz.func37,Tryz.ntmps37
 go_wp2_with fail
 obtain⟨wb,hwb⟩:∃wb,wb=w.alloc (.cells #[.string f.name,.int .i64 f.params,.int .i64 f.regs,.slice (some ⟨gq,oq,none⟩) f.blocks.length e1] 37):=⟨_,rfl⟩
 obtain⟨W1,hW1⟩:∃W1,W1=((w.alloc (.cells #[.string f.name,.int .i64 f.params,.int .i64 f.regs,.slice (some ⟨gq,oq,none⟩) f.blocks.length e1] 37)).alloc (.cells (madeCells #[.bool false] f.blocks.length) 4)).alloc (.cells #[.int .i64 0] 3):=⟨_,rfl⟩
 rw[←hW1]
 have hb1:Below w.heap.size w W1:=by rw[hW1];exact bZ
 have hz1:W1.heap.size=w.heap.size+1+1+1:=by rw[hW1];simp
 have hF1:W1.heap[w.heap.size]?=some (.cells #[.string f.name,.int .i64 f.params,.int .i64 f.regs,.slice (some ⟨gq,oq,none⟩) f.blocks.length e1] 37 (0,0)):=by rw[hW1];exact qj (qj (qh rfl))
 have hH1:W1.rowIs (w.heap.size+1) 4 f.blocks.length (fun _=>.bool false):=by
  rw[hW1]
  have h9:=World.rowIs_made wb (.bool false) f.blocks.length 4
  rw[show wb.heap.size=w.heap.size+1 by rw[hwb];simp,hwb]at h9
  exact h9.alloc _
 have hT1:W1.heap[w.heap.size+1+1]?=some (.cells #[.int .i64 0] 3 (0,0)):=by rw[hW1];exact qh (by simp)
 have hS1:SlO 3 1 kP W1 (.slice (some ⟨w.heap.size+1+1,0,none⟩) 1 1) [0] (fun b=>w.heap.size+1<b∧b<W1.heap.size):=by
  refine SlO.ofRowI ⟨rfl,.inr ⟨w.heap.size+1+1,1,#[.int .i64 0],rfl,Nat.zero_le _,hT1,Nat.le_refl _,by unfold maxLen;omega,rfl,rfl⟩⟩ (fun x hx=>by rw[List.mem_singleton.1 hx];unfold I64;omega) (fun g h=>?_) (fun b h=>h.2)
  cases h
  exact⟨by show w.heap.size+1<w.heap.size+1+1;omega,by show w.heap.size+1+1<_;omega⟩
 have HB1:=q7 hb1
 have HF1:=q7 hF1
 have HH1:=q7 hH1
 have HS1:=q7 hS1
 clear hW1 hwb hb1 hF1 hH1 hT1 hS1
 go_loopg [8] (3*umN (fun _=>false) f.blocks.length+1) (fun qq s wr=>∃(had:Nat→Bool) (todo:List Int) (p:Option Addr) (c:Nat) (S:Blks),qq=3*umN had f.blocks.length+todo.length∧s = .slice p todo.length c∧3*umN had f.blocks.length+todo.length≤200∧DfsI f r had todo∧wr.rowIs (w.heap.size+1) 4 f.blocks.length (fun j=>.bool (had j))∧SlO 3 1 kP wr (.slice p todo.length c) todo S∧(∀b,S b→w.heap.size+1<b)∧Below w.heap.size w wr∧wr.heap[w.heap.size]?=some (.cells #[.string f.name,.int .i64 f.params,.int .i64 f.regs,.slice (some ⟨gq,oq,none⟩) f.blocks.length e1] 37 (0,0)))
 case atStart=>exact⟨fun _=>false,[0],_,_,_,rfl,rfl,by have:=umN_le (fun _=>false) f.blocks.length;simp only[List.length_cons,List.length_nil];omega,DfsI.start hn1,HH1.out,HS1.out,fun b h=>h.1,HB1.out,HF1.out⟩
 case round=>
  obtain⟨had,todo,p,c,S,rfl,rfl,hmx,hD,hR,hS,hSn,hb,hF⟩:=hrel
  obtain⟨wo,hwo⟩:∃wo,wo=wr:=⟨_,rfl⟩
  subst hwo
  have HD:=q7 hD
  have HR:=q7 hR
  have HS:=q7 hS
  have HSn:=q7 hSn
  have HB:=q7 hb
  have HF:=q7 hF
  clear hD hR hS hSn hb hF
  by_cases h0:todo=[]
  ·subst h0
   go_wp2_with fail
   go_ret
   exact⟨⟨false,rfl,by simp only[Bool.false_eq_true,false_iff];exact HD.out.ends⟩,HB.out⟩
  obtain⟨td,t,rfl⟩:∃td t,todo=td++[t]:=⟨todo.dropLast,todo.getLast h0,(List.dropLast_concat_getLast h0).symm⟩
  have htb:=HD.out.bd t (by simp)
  obtain⟨b,rfl⟩:∃b:Nat,t=(b:Int):=⟨t.toNat,by omega⟩
  have hbn:b<f.blocks.length:=by omega
  have hlen:(td++[(b:Int)]).length=td.length+1:=by simp
  rw[hlen]at hmx
  obtain⟨g,c',cs,T,hv,hgz,hSg,hcl,hx,_,_,hce,hfz,_⟩:=HS.out.focus qT (by omega) (i:=td.length) (by rw[hlen];omega)
  obtain⟨rfl,rfl⟩:p=some ⟨g,0,none⟩∧c=c':=by injection hv with h1 _ h2;exact⟨h1,h2⟩
  have hc2:td.length≤c:=by
   obtain⟨_,_,e,_,h⟩:=HS.out.val
   injection e with _ _ e2
   rw[←e2]at h
   omega
  have x0:=hce 0 (by omega)
  rw[Nat.mul_one,Nat.add_zero,hx.1]at x0
  simp only[List.getElem?_cons_zero,List.getElem_append_right (Nat.le_refl _),Nat.sub_self,List.getElem_cons_zero]at x0
  have hpre:=HS.out.pre (by omega) (by rw[hlen];omega) (m:=td.length) (by rw[hlen];omega)
  rw[List.take_left]at hpre
  have hfh:=q7 hpre
  have HLen:=q7 hlen
  have hwr:IntKind.i64.wrap ((td.length:Int)+1 - 1)=((td.length:Nat):Int):=by rw[IntKind.wrap_i64];omega
  have hhc:=HR.out.cell hbn
  have hhf:=HR.out.frozen b
  have hhz:=HR.out.lt
  have b0:(0:Int)≤(b:Int):=by omega
  obtain⟨hd,hhd⟩:∃hd,hd=had b:=⟨_,rfl⟩
  rw[←hhd]at hhc
  have HHd:=q7 hhd
  clear hv hcl hx hce hpre hlen hhd h0
  rw[HLen.out]
  cases hd
  ·obtain⟨b',o',q1,c1,q2,c2,q3,c3,hp,y0,y1,y2,y3,y4,y5,_,_,_,hl2,hl3,_,hsl,hst⟩:=zE HRd.out (Below.refl _ _) hbn
   cases hp
   have hgL:=q8 y0
   have y0:=(HB.out.cell (q8 y0)).trans y0
   have y1:=(HB.out.cell (q8 y1)).trans y1
   have y2:=(HB.out.cell (q8 y2)).trans y2
   have y3:=(HB.out.cell (q8 y3)).trans y3
   have y4:=(HB.out.cell (q8 y4)).trans y4
   have y5:=(HB.out.cell (q8 y5)).trans y5
   have yz:=q8 y0
   have hfb:=(blk HF.out).1 3
   have hrL:=q9 HF.out
   simp only[List.getElem?_toArray,List.getElem?_cons_zero,List.getElem?_cons_succ]at hfb
   have hne:¬ (gq=w.heap.size+1):=by omega
   obtain⟨bk,hbk⟩:∃bk,bk=f.blocks[b]:=⟨_,rfl⟩
   rw[←hbk]at y0 y1 y2 y3 y4 y5 hl2 hl3 hsl hst
   have hat:atF f b=bk:=by rw[hbk,qG hbn]
   have hins:∀x∈bk.list,InsC f.regs nf P x:=fun x hx=>insC_iff.1 (HC.out.ins b hbn x (by rw[←hbk];exact hx))
   have haW:∀t∈bk.fin.to,0≤t∧t<(f.blocks.length:Int):=fun t ht=>by have:=(HC.out.fin b hbn).to t (by rw[←hbk];exact ht);omega
   have htl:bk.fin.to.length≤2:=by
    have h1:=(HC.out.fin b hbn).len
    have h2:=(HC.out.fin b hbn).kind
    rw[←hbk]at h1 h2
    omega
   have HSl:=q7 hsl
   have HSt:=q7 hst
   have HAt:=q7 hat
   have hiA:=q7 hins
   have hmS:=q7 haW
   clear hbk hat hins haW hsl hst
   go_wp2_with fail
   obtain⟨W8,hW8⟩:∃W8,W8=(wo.setCell ⟨w.heap.size+1,b,none⟩ (.bool true)).alloc (.cells #[.slice q1 bk.phis.length c1,.slice q2 bk.list.length c2,.int .i64 bk.fin.kind,.bool bk.fin.onr,.int .i64 bk.fin.onn,.slice q3 bk.fin.to.length c3] 48):=⟨_,rfl⟩
   rw[←hW8]
   have hk8:Kept (fun i=>i=w.heap.size+1) wo W8:=by rw[hW8];exact((Kept.refl (fun i=>i=w.heap.size+1) wo).setCell (p:=⟨w.heap.size+1,b,none⟩) rfl _).alloc _
   have hX8:W8.heap[wo.heap.size]?=some (.cells #[.slice q1 bk.phis.length c1,.slice q2 bk.list.length c2,.int .i64 bk.fin.kind,.bool bk.fin.onr,.int .i64 bk.fin.onn,.slice q3 bk.fin.to.length c3] 48 (0,0)):=by rw[hW8];exact qh (by simp)
   have hR8:W8.rowIs (w.heap.size+1) 4 f.blocks.length (fun j=>.bool (if j=b then true else had j)):=by
    rw[hW8]
    refine((HR.out.set b (.bool true)).alloc _).congr fun j _=>?_
    split<;>rfl
   have hz8:=hk8.size
   have hzb:=HB.out.size
   have hb8:Below w.heap.size w W8:=HB.out.trans (hk8.below HB.out.size (fun i e=>by omega))
   have hF8:=(hk8.block _ (q9 HF.out) (by omega)).trans HF.out
   have hS8:=hfh.out.kept qT hk8 (fun i e h=>by have:=HSn.out i h;omega)
   obtain⟨X,hX⟩:∃X,X=wo.heap.size:=⟨_,rfl⟩
   rw[←hX]at hX8 ⊢
   have HX8:=q7 hX8
   have HR8:=q7 hR8
   have HB8:=q7 hb8
   have HF8:=q7 hF8
   have HS8:=q7 hS8
   have hum:=VC HHd.out.symm f.blocks.length hbn
   have hto:=fun(hl:xS r bk false=false)=>HD.out.step hbn (by rw[HAt.out];exact hmS.out) (by rw[HAt.out];exact hl) rfl
   have hfd:=fun(hl:xS r bk false=true)=>HD.out.found (by rw[HAt.out];exact hl)
   rw[HAt.out]at hto
   have HTo:=q7 hto
   have HFd:=q7 hfd
   have HUm:=q7 hum
   clear hW8 hk8 hX8 hR8 hb8 hF8 hS8 hX hum hto hfd y0 y1 y2 y3 y4 y5 hfb hrL yz x0 hhc hhf hhz hgz hfz
   go_loopg [11,12] bk.list.length (fun qq s t wr=>∃i:Nat,i≤bk.list.length∧qq=bk.list.length - i∧t = .int .i64 i∧((s = .bool false∧∀l,xS r bk l=X6 r bk i l)∨(s = .bool true∧xS r bk true=false))∧Below W8.heap.size W8 wr)
   case atStart=>exact⟨0,by omega,rfl,rfl,.inl ⟨rfl,fun l=>rfl⟩,Below.refl _ _⟩
   case round=>
    obtain⟨i,hi,rfl,rfl,hsc,hb⟩:=hrel
    obtain⟨wp,hwp⟩:∃wp,wp=wr:=⟨_,rfl⟩
    subst hwp
    have hXp:=(hb.block _ (q9 HX8.out)).trans HX8.out
    have hbw:=HB8.out.trans (hb.mono HB8.out.size)
    obtain⟨xb,xf⟩:=blk hXp
    have xb1:=xb 1
    have xb2:=xb 2
    have xb3:=xb 3
    have xb4:=xb 4
    have xb5:=xb 5
    have xz:=q9 hXp
    simp only[List.getElem?_toArray,List.getElem?_cons_zero,List.getElem?_cons_succ]at xb1 xb2 xb3 xb4 xb5
    have HBp:=q7 hb
    have HBw:=q7 hbw
    clear hb hbw hXp xb
    rcases hsc with⟨rfl,hsc⟩|⟨rfl,hsc⟩
    rotate_left
    ·have hlf:xS r bk false=false:=by
      cases e:xS r bk false with
      | false=>rfl
      | true=>rw[Zn (fun h=>by cases h) e]at hsc;cases hsc
     have hD':=HTo.out hlf
     rw[hsc]at hD'
     simp only[Bool.false_eq_true,if_false,List.append_nil]at hD'
     have HD':=q7 hD'
     have hR':=HR8.out.of_block (HBp.out.block _ HR8.out.lt)
     have hS':=HS8.out.below qT HBp.out
     have hF':=(HBp.out.block _ (q9 HF8.out)).trans HF8.out
     have HR':=q7 hR'
     have HS':=q7 hS'
     have HF':=q7 hF'
     clear hsc hlf hD' hR' hS' hF'
     by_cases hil:i<bk.list.length
     all_goals
      go_wp2_with fail
      go_roundg (3*umN (fun c=>if c=b then true else had c) f.blocks.length+td.length)
      case measure=>have h9:=HLen.out;have h8:=HUm.out;omega
      case rel=>exact⟨_,td,_,_,S,rfl,rfl,by have h8:=HUm.out;omega,HD'.out,HR'.out,HS'.out,HSn.out,HBw.out,HF'.out⟩
    have HSc:=q7 hsc
    clear hsc
    by_cases hil:i<bk.list.length
    rotate_left
    ·obtain rfl:i=bk.list.length:=by omega
     have hsc:∀l,xS r bk l=(isV r (bk.fin.onr,bk.fin.onn) || l):=fun l=>by rw[HSc.out,scan_end]
     have hcf:=fun W=>vM bk.fin.onr bk.fin.onn r W
     obtain⟨a1,ha1⟩:∃a,a=isV r (bk.fin.onr,bk.fin.onn):=⟨_,rfl⟩
     rw[←ha1]at hcf
     have hsc:∀l,xS r bk l=(a1 || l):=fun l=>by rw[hsc,ha1]
     have hjW:=q7 hsc
     have HCf:=q7 hcf
     clear hsc hcf ha1
     cases a1
     ·have hlf:xS r bk false=false:=hjW.out false
      have hD':=HTo.out hlf
      rw[hjW.out true]at hD'
      simp only[Bool.false_or,if_true]at hD'
      have HD':=q7 hD'
      clear hlf hD'
      go_wp2_with fail
      refine(HCf.out _).mono ?_
      rintro e w2 ⟨rfl,hb2⟩
      have hcU:=HBp.out.trans (hb2.mono HBp.out.size)
      have hXq:=(hcU.block _ (q9 HX8.out)).trans HX8.out
      have hbw2:=HB8.out.trans (hcU.mono HB8.out.size)
      have hS2:=HS8.out.below qT hcU
      have hhA:SliceAt w2 1 xC q3 bk.fin.to:=HSt.out.mono hbw2 (by omega) fun _ _ h=>h
      have h9:=HUm.out
      obtain⟨v',w9,hrun,S',hO9,hsub,hK9⟩:=QY (P:=Tryz.prog) w2 44 44 iJ _ Tryz.underlying44 k1 k2 k3 k4 rfl hS2 (c:=c3) hhA (by omega)
      obtain⟨p9,c9,hv9,_⟩:=hO9.val
      subst hv9
      have hR9:=(HR8.out.of_block (hcU.block _ HR8.out.lt)).of_block (hK9.block (w.heap.size+1) (Nat.lt_of_lt_of_le HR8.out.lt hcU.size) (fun h=>by have:=HSn.out _ h;omega))
      have hF9:=(hK9.block w.heap.size (Nat.lt_of_lt_of_le (q9 HF8.out) hcU.size) (fun h=>by have:=HSn.out _ h;omega)).trans ((hcU.block _ (q9 HF8.out)).trans HF8.out)
      have hb9:Below w.heap.size w w9:=hbw2.trans (hK9.below hbw2.size (fun i h=>by have:=HSn.out _ h;omega))
      have ho6:∀i,S' i→w.heap.size+1<i:=fun i h=>by
       rcases hsub i h with h|h|h
       ·exact HSn.out i h
       ·exact h.elim
       have:=HR8.out.lt;have:=hcU.size;omega
      have hl9:(td++bk.fin.to).length=td.length+bk.fin.to.length:=List.length_append
      obtain⟨xb,xf⟩:=blk hXq
      have xb5':=xb 5
      have xz':=q9 hXq
      simp only[List.getElem?_toArray,List.getElem?_cons_zero,List.getElem?_cons_succ]at xb5'
      have HO9:=q7 hO9
      have HR9:=q7 hR9
      have HF9:=q7 hF9
      have HB9:=q7 hb9
      have hrM:=q7 ho6
      have HL9:=q7 hl9
      clear hb2 hcU hXq hbw2 hS2 hhA h9 hO9 hsub hK9 hR9 hF9 hb9 ho6 hl9 xb
      go_wp2_with (at_builtin;refine Lib.wpList_append_run _ rfl _ _ _ _ rfl _ _ rfl rfl _ _ hrun ?_)
      go_roundg (3*umN (fun c=>if c=b then true else had c) f.blocks.length+(td++bk.fin.to).length)
      case measure=>have h9:=HLen.out;have h8:=HUm.out;have h7:=HL9.out;omega
      case rel=>exact⟨_,td++bk.fin.to,p9,c9,S',rfl,by simp,by have h8:=HUm.out;have h7:=HL9.out;omega,HD'.out,HR9.out,HO9.out,hrM.out,HB9.out,HF9.out⟩
     have hlt:xS r bk false=true:=hjW.out false
     have hlv:=HFd.out hlt
     have HLv:=q7 hlv
     clear hlt hlv
     go_wp2_with (go_at_call 39;refine(HCf.out _).mono ?_;rintro e w2 ⟨rfl,hb2⟩;have HB2:Hid (Below w.heap.size w w2):=q7 (HBw.out.trans (hb2.mono HBw.out.size));clear hb2)
     go_ret
     exact⟨⟨true,rfl,by simp only[true_iff];exact HLv.out⟩,HB2.out⟩
    obtain⟨b2,o2,qs,cs2,hlp,i0,i1,i2,i3,i4,i5,i6,i7,_,_,_,_,_,hla,hss⟩:=Q1 HSl.out HBw.out hil
    obtain⟨b3,o3,qs',cs3,ho7,_,_,_,_,_,_,_,j7,_,_,_,_,_,_,hjX⟩:=Q1 HSl.out (Below.refl _ _) hil
    have hrN:=hlp.symm.trans ho7
    cases hrN
    subst hlp
    obtain⟨rfl,rfl⟩:qs'=qs∧cs3=cs2:=by
     have h1:=(HBw.out.cell (q8 j7)).trans j7
     rw[i7]at h1
     injection h1 with h1
     injection h1 with h1 _ h2
     exact⟨h1.symm,h2.symm⟩
    have yz:=q8 i0
    have hic:=hiA.out _ (List.getElem_mem hil)
    have hue:=use_eq hic r
    have hsa:=fun l=>scan_at (r:=r) hil l
    obtain⟨y,hy⟩:∃y,y=bk.list[i]:=⟨_,rfl⟩
    rw[←hy]at i0 i1 i2 i3 i4 i5 i6 i7 hla hjX hue
    have hsa:∀l,X6 r bk i l=(useI r y || (X6 r bk (i+1) l&&!(y.dst == r))):=fun l=>by rw[hy];exact hsa l
    have HSa:=q7 hsa
    have HSs:=q7 hjX
    obtain⟨a1,ha1⟩:∃a,a=isV r (y.ar,y.an):=⟨_,rfl⟩
    obtain⟨a2,ha2⟩:∃a,a=isV r (y.br,y.bn):=⟨_,rfl⟩
    rw[←ha1,←ha2]at hue
    have hca:=fun W=>vM y.ar y.an r W
    have hcb:=fun W=>vM y.br y.bn r W
    rw[←ha1]at hca
    rw[←ha2]at hcb
    have HUe:=q7 hue
    have HCa:=q7 hca
    have HCb:=q7 hcb
    clear hic hue hsa hy ha1 ha2 hca hcb hss hjX j7 ho7
    have hlv:useI r y=true→LiveP f r 0:=fun h=>HFd.out (by rw[HSc.out,HSa.out,h];rfl)
    have HLv:=q7 hlv
    clear hlv
    cases a1
    ·cases a2
     ·go_wp2_with fail
      obtain⟨W9,hW9⟩:∃W9,W9=wp.alloc (.cells #[.int .i64 y.op,.int .i64 y.dst,.bool y.ar,.int .i64 y.an,.bool y.br,.int .i64 y.bn,.int .i64 y.fn,.slice qs' y.args.length cs3] 53):=⟨_,rfl⟩
      rw[←hW9]
      have hb9:Below wp.heap.size wp W9:=by rw[hW9];exact bZ
      have hY9:W9.heap[wp.heap.size]?=some (.cells #[.int .i64 y.op,.int .i64 y.dst,.bool y.ar,.int .i64 y.an,.bool y.br,.int .i64 y.bn,.int .i64 y.fn,.slice qs' y.args.length cs3] 53 (0,0)):=by rw[hW9];exact qh rfl
      refine(HCa.out _).mono ?_
      rintro e w2 ⟨rfl,hb2⟩
      have hY2:=(hb2.block _ (q9 hY9)).trans hY9
      obtain⟨yb,yf⟩:=blk hY2
      have yb1:=yb 1
      have yb4:=yb 4
      have yb5:=yb 5
      have yb7:=yb 7
      have yz2:=q9 hY2
      simp only[List.getElem?_toArray,List.getElem?_cons_zero,List.getElem?_cons_succ]at yb1 yb4 yb5 yb7
      have HB2:=q7 (hb9.trans (hb2.mono hb9.size))
      have HY2:=q7 hY2
      clear hb2 hW9 hb9 hY9 hY2 yb
      go_wp2_with fail
      refine(HCb.out _).mono ?_
      rintro e w3 ⟨rfl,hb3⟩
      have ho8:=HB2.out.trans (hb3.mono HB2.out.size)
      have hY3:=(hb3.block _ (q9 HY2.out)).trans HY2.out
      obtain⟨yb,yf3⟩:=blk hY3
      have yb1':=yb 1
      have yb7':=yb 7
      have yz3:=q9 hY3
      simp only[List.getElem?_toArray,List.getElem?_cons_zero,List.getElem?_cons_succ]at yb1' yb7'
      have HB3:=q7 ho8
      have HY3:=q7 hY3
      clear hb3 ho8 hY3 yb yb1 yb4 yb5 yb7 yz2
      go_wp2_with fail
      go_loopg [14] y.args.length (fun qq s wr=>∃j:Nat,j≤y.args.length∧qq=y.args.length - j∧s = .int .i64 j∧(∀v∈y.args.take j,isV r v=false)∧Below w3.heap.size w3 wr)
      case atStart=>exact⟨0,by omega,rfl,rfl,fun v hv=>by simp at hv,Below.refl _ _⟩
      case round=>
       obtain⟨j,hj,rfl,rfl,hno,hb⟩:=hrel
       have hYr:=(hb.block _ (q9 HY3.out)).trans HY3.out
       obtain⟨yb,yfr⟩:=blk hYr
       have yb1:=yb 1
       have yb7:=yb 7
       have yzr:=q9 hYr
       simp only[List.getElem?_toArray,List.getElem?_cons_zero,List.getElem?_cons_succ]at yb1 yb7
       have HNo:=q7 hno
       have HBr:=q7 (HB3.out.trans (hb.mono HB3.out.size))
       have HBs:=q7 hb
       have hjY:=q7 (HBw.out.trans ((HB3.out.trans (hb.mono HB3.out.size)).mono HBw.out.size))
       clear hno hb hYr yb yb1' yb7' yz3
       by_cases hjl:j<y.args.length
       ·obtain⟨vb,vo,hqx,va0,va1,va2⟩:=Xk HSs.out hjY.out hjl
        subst hqx
        have vz:=q8 va0
        have hcv:=fun W=>vM y.args[j].1 y.args[j].2 r W
        have hmem:=List.getElem_mem hjl
        have htk:y.args.take (j+1)=y.args.take j++[y.args[j]]:=List.take_succ_eq_append_getElem hjl
        generalize hav:y.args[j]=av at *
        obtain⟨a3,ha3⟩:∃a,a=isV r (av.1,av.2):=⟨_,rfl⟩
        rw[←ha3]at hcv
        have HCv:=q7 hcv
        have hjZ:=q7 hmem
        have HTk:=q7 htk
        have HA3:=q7 ha3
        clear hcv hmem htk ha3 hav
        cases a3
        ·go_wp2_with (go_at_call 39;refine(HCv.out _).mono ?_;rintro e w4 ⟨rfl,hb4⟩;have HB4:=q7 (HBs.out.trans (hb4.mono HBs.out.size));clear hb4)
         go_roundg (y.args.length - (j+1))
         case measure=>omega
         case rel=>exact⟨j+1,by omega,rfl,by go_num,fun v hv=>by
          rw[HTk.out]at hv
          rcases List.mem_append.1 hv with h|h
          ·exact HNo.out v h
          rw[List.mem_singleton.1 h]
          exact HA3.out.symm,HB4.out⟩
        have hlv:=HLv.out (by rw[HUe.out,List.any_eq_true.2 ⟨av,hjZ.out,HA3.out.symm⟩,Bool.or_true])
        have HL:=q7 hlv
        clear hlv
        go_wp2_with (go_at_call 39;refine(HCv.out _).mono ?_;rintro e w4 ⟨rfl,hb4⟩;have HB4:=q7 (hjY.out.trans (hb4.mono hjY.out.size));clear hb4)
        go_ret
        exact⟨⟨true,rfl,by simp only[true_iff];exact HL.out⟩,HB4.out⟩
       obtain rfl:j=y.args.length:=by omega
       have hu:useI r y=false:=by
        rw[HUe.out]
        simp only[Bool.false_or,List.any_eq_false]
        intro v hv
        rw[HNo.out v (by rw[List.take_of_length_le (Nat.le_refl _)];exact hv)]
        decide
       have hb8:=HBp.out.trans ((HB3.out.trans (HBs.out.mono HB3.out.size)).mono HBp.out.size)
       obtain⟨dd,hdd⟩:∃dd,dd=(y.dst == (r:Int)):=⟨_,rfl⟩
       have hde:(y.dst == (r:Int))=dd:=hdd.symm
       have hn:(dd=false∧∀l,xS r bk l=X6 r bk (i+1) l)∨(dd=true∧xS r bk true=false):=by
        cases dd
        ·exact .inl ⟨rfl,fun l=>by rw[HSc.out,HSa.out,hu,hde];simp⟩
        exact .inr ⟨rfl,by rw[HSc.out,HSa.out,hu,hde];simp⟩
       have HNx:=q7 hn
       have hrO:=q7 hb8
       clear hu hb8 hdd hn
       go_wp2_with fail
       go_roundg (bk.list.length - (i+1))
       case measure=>omega
       case rel=>exact⟨i+1,by omega,rfl,by go_num,HNx.out.imp (fun h=>⟨by rw[h.1],h.2⟩) (fun h=>⟨by rw[h.1],h.2⟩),hrO.out⟩
     have hlv:=HLv.out (by rw[HUe.out];rfl)
     have HL:=q7 hlv
     clear hlv
     go_wp2_with fail
     obtain⟨W9,hW9⟩:∃W9,W9=wp.alloc (.cells #[.int .i64 y.op,.int .i64 y.dst,.bool y.ar,.int .i64 y.an,.bool y.br,.int .i64 y.bn,.int .i64 y.fn,.slice qs' y.args.length cs3] 53):=⟨_,rfl⟩
     rw[←hW9]
     have hb9:Below wp.heap.size wp W9:=by rw[hW9];exact bZ
     have hY9:W9.heap[wp.heap.size]?=some (.cells #[.int .i64 y.op,.int .i64 y.dst,.bool y.ar,.int .i64 y.an,.bool y.br,.int .i64 y.bn,.int .i64 y.fn,.slice qs' y.args.length cs3] 53 (0,0)):=by rw[hW9];exact qh rfl
     refine(HCa.out _).mono ?_
     rintro e w2 ⟨rfl,hb2⟩
     have hY2:=(hb2.block _ (q9 hY9)).trans hY9
     obtain⟨yb,yf⟩:=blk hY2
     have yb1:=yb 1
     have yb4:=yb 4
     have yb5:=yb 5
     have yb7:=yb 7
     have yz2:=q9 hY2
     simp only[List.getElem?_toArray,List.getElem?_cons_zero,List.getElem?_cons_succ]at yb1 yb4 yb5 yb7
     have HB2:=q7 (hb9.trans (hb2.mono hb9.size))
     have HY2:=q7 hY2
     clear hb2 hW9 hb9 hY9 hY2 yb
     go_wp2_with fail
     refine(HCb.out _).mono ?_
     rintro e w3 ⟨rfl,hb3⟩
     have HB3:=q7 (HBw.out.trans ((HB2.out.trans (hb3.mono HB2.out.size)).mono HBw.out.size))
     clear hb3
     go_wp2_with fail
     go_ret
     exact⟨⟨true,rfl,by simp only[true_iff];exact HL.out⟩,HB3.out⟩
    have hlv:=HLv.out (by rw[HUe.out];rfl)
    have HL:=q7 hlv
    clear hlv
    go_wp2_with fail
    refine(HCa.out _).mono ?_
    rintro e w2 ⟨rfl,hb2⟩
    have HB2:=q7 (HBw.out.trans ((((Below.refl wp.heap.size wp).alloc (Nat.le_refl _) _).trans (hb2.mono (by simp))).mono HBw.out.size))
    clear hb2
    go_wp2_with fail
    go_ret
    exact⟨⟨true,rfl,by simp only[true_iff];exact HL.out⟩,HB2.out⟩
  go_wp2_with fail
  go_roundg (3*umN had f.blocks.length+td.length)
  case measure=>have h9:=HLen.out;omega
  case rel=>exact⟨had,td,_,_,S,rfl,rfl,by omega,HD.out.skip HHd.out.symm,HR.out,hfh.out,HSn.out,HB.out,HF.out⟩
end Go.Proofs.YtecdphhdmjmmnaaGreatDoor
namespace Go.Proofs.YtecdphhdmjmmnaaGreatDoor
open Go.RowKit

theorem no_take {p:BlkL→Prop} {l:List BlkL} {j:Nat} (h:j<l.length) (h1:∀b∈l.take j,p b) (h2:p l[j]):∀b∈l.take (j+1),p b:=fun b hb=>by
 rw[List.take_succ_eq_append_getElem h]at hb
 rcases List.mem_append.1 hb with h3|h3
 ·exact h1 b h3
 rw[List.mem_singleton.1 h3];exact h2

theorem plf_any {nf:Nat} {P:Nat→Int} (f:FunL) (hC:FunC nf P f) (q:Option Addr) (e1:Nat) (w:World) (hRd:SliceAt w 6 (BlkR w) q f.blocks) :
  Calls Tryz.prog 15 #[.agg #[.string f.name,.int .i64 f.params,.int .i64 f.regs,.slice q f.blocks.length e1]] w fun e w'=>e = .returned (.bool (qO f))∧Below w.heap.size w w':=by
 have hn1:=hC.n1
 have haA:=hC.n40
 have haJ:=hC.par
 have hbh:=hC.reg
 obtain⟨gq,oq,q1,c1,q2,c2,q3,c3,hq,_⟩:=zE hRd (Below.refl _ _) hn1
 subst hq
 have HC:=q7 hC
 have HRd:=q7 hRd
 clear hC hRd
 go_enter Tryz.func15,Tryz.ntmps15
 go_wp2_with fail
 obtain⟨W1,hW1⟩:∃W1,W1=w.alloc (.cells #[.string f.name,.int .i64 f.params,.int .i64 f.regs,.slice (some ⟨gq,oq,none⟩) f.blocks.length e1] 37):=⟨_,rfl⟩
 rw[←hW1]
 have hb1:Below w.heap.size w W1:=by rw[hW1];exact bZ
 have hF1:W1.heap[w.heap.size]?=some (.cells #[.string f.name,.int .i64 f.params,.int .i64 f.regs,.slice (some ⟨gq,oq,none⟩) f.blocks.length e1] 37 (0,0)):=by rw[hW1];exact qh rfl
 have HB1:=q7 hb1
 have HF1:=q7 hF1
 clear hW1 hb1 hF1
 go_loopg [3] f.blocks.length (fun qq s wr=>∃j:Nat,j≤f.blocks.length∧qq=f.blocks.length - j∧s = .int .i64 j∧(∀b∈f.blocks.take j,b.phis=[])∧Below W1.heap.size W1 wr)
 case atStart=>exact⟨0,by omega,rfl,rfl,fun b hb=>by simp at hb,Below.refl _ _⟩
 case round=>
  obtain⟨j,hj,rfl,rfl,hno,hb⟩:=hrel
  obtain⟨wo,hwo⟩:∃wo,wo=wr:=⟨_,rfl⟩
  subst hwo
  have hbw:=HB1.out.trans (hb.mono HB1.out.size)
  have hFw:=(hb.block _ (q9 HF1.out)).trans HF1.out
  obtain⟨fb,ff⟩:=blk hFw
  have fb1:=fb 1
  have fb2:=fb 2
  have fb3:=fb 3
  simp only[List.getElem?_toArray,List.getElem?_cons_zero,List.getElem?_cons_succ]at fb1 fb2 fb3
  have fz:=q9 hFw
  have HB2:=q7 hb
  have HBw:=q7 hbw
  have HNo:=q7 hno
  have HFw:=q7 hFw
  clear hb hbw fb hFw hno
  by_cases hlt:j<f.blocks.length
  ·obtain⟨b',o',q1,c1,q2,c2,q3,c3,hp,e0,_⟩:=zE HRd.out HBw.out hlt
   cases hp
   have ez:=q8 e0
   have hmem:=List.getElem_mem hlt
   have hnx:=fun h=>no_take (p:=fun b=>b.phis=[]) hlt HNo.out h
   generalize hbk:f.blocks[j]=bk at *
   have hjZ:=q7 hmem
   have HNx:=q7 hnx
   clear hmem hnx hbk
   by_cases hph:bk.phis.length=0
   ·have h9:=HNx.out (List.eq_nil_of_length_eq_zero hph)
    have HN9:=q7 h9
    have hg:decide ((0:Int)<(bk.phis.length:Int))=false:=decide_eq_false (by omega)
    have hg2:decide (0<bk.phis.length)=false:=decide_eq_false (by omega)
    clear h9 hph
    go_wp2_with fail
    go_roundg (f.blocks.length - (j+1))
    case measure=>omega
    case rel=>exact⟨j+1,by omega,rfl,by go_num,HN9.out,HB2.out⟩
   have hg:decide ((0:Int)<(bk.phis.length:Int))=true:=decide_eq_true (by omega)
   have hg2:decide (0<bk.phis.length)=true:=decide_eq_true (by omega)
   have hpl:qO f=false:=by
    refine Bool.eq_false_iff.2 fun h=>?_
    have:=((QV HC.out).1 h).1 bk hjZ.out
    rw[this]at hph
    exact hph rfl
   have HPl:=q7 hpl
   clear hpl hph
   go_wp2_with fail
   go_ret
   exact⟨by rw[HPl.out];rfl,HBw.out⟩
  obtain rfl:j=f.blocks.length:=by omega
  have hno:∀b∈f.blocks,b.phis=[]:=fun b hb=>HNo.out b (by rw[List.take_of_length_le (Nat.le_refl _)];exact hb)
  have HNa:=q7 hno
  obtain⟨pn,hpn⟩:∃n:Nat,f.params=n:=⟨f.params.toNat,by omega⟩
  have HPn:=q7 hpn
  have hpr:(pn:Int)≤f.regs:=by omega
  clear hno HNo hpn
  go_wp2_with fail
  go_loopg [4] (f.regs.toNat - pn) (fun qq s wr=>∃r:Nat,pn≤r∧(r:Int)≤f.regs∧qq=f.regs.toNat - r∧s = .int .i64 r∧(∀t:Nat,pn≤t→t<r→¬ LiveP f t 0)∧Below wo.heap.size wo wr)
  case atStart=>exact⟨pn,by omega,hpr,rfl,by rw[HPn.out],fun t h1 h2=>by omega,Below.refl _ _⟩
  case round=>
   obtain⟨r,hr1,hr2,rfl,rfl,hnl,hb⟩:=hrel
   have hbw:=HBw.out.trans (hb.mono HBw.out.size)
   have hFr:=(hb.block _ (q9 HFw.out)).trans HFw.out
   obtain⟨gb,gf⟩:=blk hFr
   have gb0:=gb 0
   have gb1:=gb 1
   have gb2:=gb 2
   have gb3:=gb 3
   simp only[List.getElem?_toArray,List.getElem?_cons_zero,List.getElem?_cons_succ]at gb0 gb1 gb2 gb3
   have gz:=q9 hFr
   have HB3:=q7 hb
   have hhv:=q7 hbw
   have HNl:=q7 hnl
   clear hb hbw gb hFr hnl
   by_cases hlr:(r:Int)<f.regs
   rotate_left
   ·have hpl:qO f=true:=(QV HC.out).2 ⟨HNa.out,fun t h1 h2=>HNl.out t (by rw[HPn.out]at h1;omega) (by omega)⟩
    have HPl:=q7 hpl
    clear hpl
    go_wp2_with fail
    go_ret
    exact⟨by rw[HPl.out];rfl,hhv.out⟩
   have hla:=lahd_any f r HC.out hlr (some ⟨gq,oq,none⟩) e1 wr (zF HRd.out hhv.out)
   have HLa:=q7 hla
   clear hla
   go_wp2_with fail
   refine HLa.out.mono ?_
   rintro e w2 ⟨⟨lv,rfl,hlv⟩,hb2⟩
   have HB4:=q7 (HB3.out.trans (hb2.mono HB3.out.size))
   have hrP:=q7 (hhv.out.trans (hb2.mono hhv.out.size))
   have HLv:=q7 hlv
   clear hb2 hlv
   cases lv
   ·go_wp2_with fail
    go_roundg (f.regs.toNat - (r+1))
    case measure=>omega
    case rel=>exact⟨r+1,by omega,by omega,rfl,by go_num,fun t h1 h2 h3=>by
     rcases Nat.lt_or_ge t r with h|h
     ·exact HNl.out t h1 h h3
     obtain rfl:t=r:=by omega
     exact absurd (HLv.out.2 h3) (by decide),HB4.out⟩
   have hpl:qO f=false:=by
    refine Bool.eq_false_iff.2 fun h=>?_
    exact((QV HC.out).1 h).2 r (by rw[HPn.out];omega) hlr (HLv.out.1 rfl)
   have HPl:=q7 hpl
   clear hpl
   go_wp2_with fail
   go_ret
   exact⟨by rw[HPl.out];rfl,hrP.out⟩

structure IsoF (f g:FunL) (p q:Nat→Nat):Prop where
 len:g.blocks.length=f.blocks.length
 name:g.name=f.name
 params:g.params=f.params
 regs:g.regs=f.regs
 p0:p 0=0
 hp:∀x,x<f.blocks.length→p x<f.blocks.length∧q (p x)=x
 hq:∀x,x<f.blocks.length→q x<f.blocks.length∧p (q x)=x
 phi:∀x,x<f.blocks.length→(atF f x).phis=[]
 blk:∀x,x<f.blocks.length→atF g (p x)={ atF f x with fin:={ (atF f x).fin with «to»:=(atF f x).fin.to.map fun t=>(p t.toNat:Int) } }

section
variable {f g : FunL} {p q : Nat → Nat} {nf : Nat} {P : Nat → Int}
theorem IsoF.inj (h:IsoF f g p q) {x y:Nat} (hx:x<f.blocks.length) (hy:y<f.blocks.length) (e:p x=p y):x=y:=by
 rw[←(h.hp x hx).2,←(h.hp y hy).2,e]
theorem IsoF.funC (h:IsoF f g p q) (hf:FunC nf P f):FunC nf P g:=by
 have hat:∀b (hb:b<g.blocks.length),q b<f.blocks.length∧g.blocks[b]={ atF f (q b)with fin:={ (atF f (q b)).fin with «to»:=(atF f (q b)).fin.to.map fun t=>(p t.toNat:Int) } }:=fun b hb=>by
  have h1:=h.hq b (by rw[←h.len];exact hb)
  refine⟨h1.1,?_⟩
  rw[←h.blk _ h1.1,h1.2,qG hb]
 refine⟨by rw[h.len];exact hf.n1,by rw[h.len];exact hf.n40,by rw[h.params];exact hf.par,by rw[h.params,h.regs];exact hf.reg,?_,fun b hb=>?_,fun b hb x hx=>?_,fun b hb x hx=>?_⟩
 ·refine Nat.le_trans ?_ hf.many
  rw[xH,xH,h.len]
  have e:(List.range f.blocks.length).map (fun b=>(atF g b).phis.length+(atF g b).list.length)=((List.range f.blocks.length).map q).map fun b=>(atF f b).phis.length+(atF f b).list.length:=by
   rw[List.map_map]
   refine List.map_congr_left fun b hb=>?_
   have hb:=List.mem_range.1 hb
   have:=(hat b (by rw[h.len];exact hb)).2
   rw[←qG]at this
   rw[this]
   rfl
  rw[e]
  refine ZP _ _ _ ?_ fun x hx=>?_
  ·refine List.pairwise_map.2 (List.nodup_range.imp_of_mem fun ha hb hne e=>hne ?_)
   rw[←(h.hq _ (List.mem_range.1 ha)).2,←(h.hq _ (List.mem_range.1 hb)).2,e]
  obtain⟨y,hy,rfl⟩:=List.mem_map.1 hx
  exact(h.hq y (List.mem_range.1 hy)).1
 ·obtain⟨h1,h2⟩:=hat b hb
  have hc:=hf.fin _ h1
  rw[←qG h1]at hc
  rw[h2,h.regs,h.len]
  refine⟨hc.kind,by rw[List.length_map];exact hc.len,fun t ht=>?_,?_,hc.jump,hc.on⟩
  ·obtain⟨s,hs,rfl⟩:=List.mem_map.1 ht
   have hs:=hc.to s hs
   have h3:=(h.hp s.toNat (by omega)).1
   have h4:p s.toNat≠0:=fun e=>by
    have:=h.inj (x:=s.toNat) (y:=0) (by omega) (by omega) (by rw[e,h.p0])
    omega
   omega
  refine List.pairwise_map.2 (hc.two.imp_of_mem fun ha hb hne e=>hne ?_)
  have ha:=hc.to _ ha
  have hb:=hc.to _ hb
  have:=h.inj (by omega) (by omega) (Int.ofNat.inj e)
  omega
 ·obtain⟨h1,h2⟩:=hat b hb
  rw[h2]at hx
  have:=h.phi _ h1
  simp only[this]at hx
  cases hx
 obtain⟨h1,h2⟩:=hat b hb
 rw[h2]at hx
 rw[h.regs]
 exact hf.ins _ h1 x (by rw[←qG h1];exact hx)
theorem IsoF.order (h:IsoF f g p q) (hf:FunC nf P f):xG g.blocks=(xG f.blocks).map p:=by
 have hT:∀x,x<f.blocks.length→(∀t∈tosB f.blocks x,t.toNat<f.blocks.length)∧tosB g.blocks (p x)=(tosB f.blocks x).map fun t=>(p t.toNat:Int):=fun x hx=>by
  refine⟨fun t ht=>?_,?_⟩
  ·rw[zk hx]at ht
   have:=(hf.fin x hx).to t ht
   omega
  have h1:=(h.hp x hx).1
  rw[jk g (by rw[h.len];exact h1),h.blk x hx,jk f hx]
 have hi:=ZN (R:=fun x=>x<f.blocks.length) (p:=p) (fun x y hx hy e=>h.inj hx hy e) hT (f.blocks.length+1) 0 (fun _=>false,[]) (fun _=>false,[]) hf.n1 ⟨fun _ _=>rfl,rfl⟩
 rw[h.p0]at hi
 have e:jD g.blocks=(jD f.blocks).map fun t=>(p t.toNat:Int):=by
  unfold jD
  rw[h.len]
  exact hi.left
 unfold xG j9
 rw[e,←List.map_reverse,List.map_map,List.map_map]
 exact List.map_congr_left fun x _=>by simp
theorem IsoF.ordT (h:IsoF f g p q) (hf:FunC nf P f):ordT g=ordT f:=by
 have ho:=hf.funD.toFunS.ordC
 unfold Go.Proofs.YtecdphhdmjmmnaaGreatDoor.ordT zl
 rw[h.order hf]
 have hpl:∀b,b∈xG f.blocks→qC ((xG f.blocks).map p) (p b)=qC (xG f.blocks) b:=fun b hb=>by
  obtain⟨h1,h2⟩:=xr hb
  have hnd:((xG f.blocks).map p).Nodup:=List.pairwise_map.2 (ho.once.imp_of_mem fun ha hb hne e=>hne (h.inj (ho.inb _ ha) (ho.inb _ hb) e))
  have:=placeT_at hnd (i:=(xG f.blocks).idxOf b) (by rw[List.length_map];exact h1)
  rw[List.getElem_map,h2]at this
  rw[this,xu hb]
 have hb:((xG f.blocks).map p).map (fun b=>Vd (qC ((xG f.blocks).map p)) (insN g b) (atF g b))=(xG f.blocks).map fun b=>Vd (qC (xG f.blocks)) (insN f b) (atF f b):=by
  rw[List.map_map]
  refine List.map_congr_left fun b hb=>?_
  have hx:=ho.inb b hb
  show Vd _ (insN g (p b)) (atF g (p b))=_
  rw[h.blk b hx]
  unfold Vd endK
  simp only[h.phi b hx,List.map_nil,List.map_map]
  congr 2
  refine List.map_congr_left fun t ht=>?_
  have:=ho.closed b hb t (by rw[jk f hx];exact ht)
  show qC _ ((p t.toNat:Int)).toNat=_
  rw[Int.toNat_natCast,hpl _ this]
 rw[hb,h.name,h.params,h.regs]
theorem IsoF.doT (h:IsoF f g p q) (hf:FunC nf P f):doT g=doT f:=by
 unfold Go.Proofs.YtecdphhdmjmmnaaGreatDoor.doT
 rw[h.ordT hf]
end
/-! ## the reference -/
def Q0 (k:Nat) (R:Int) (n:Nat) (b:BlkL):BlkL:=
 match zK k b with
 | some c=>⟨b.phis,b.list.dropLast++ku R c,⟨2,false,0,[(n:Int)]⟩⟩
 | none=>b
def JP (k:Nat) (f:FunL):FunL:={ f with regs:=f.regs+f.params,blocks:=(f.blocks.map (Q0 k f.regs f.blocks.length)).set 0 ⟨[],[],⟨2,false,0,[(f.blocks.length:Int)]⟩⟩++[Q0 k f.regs f.blocks.length (atF f 0)] }
theorem vN (k:Nat) (f:FunL):(JP k f).blocks.length=f.blocks.length+1:=by simp[JP]
def vk (n x:Nat):Nat:=if x=0 then 0 else if x=1 then n else x - 1
def backR (n x:Nat):Nat:=if x=0 then 0 else if x=n then 1 else x+1
theorem ref_iso {nf:Nat} {P:Nat→Int} {f:FunL} {k:Nat} (h:FunC nf P f) (hph:∀b∈f.blocks,b.phis=[]):IsoF (jc k f) (JP k f) (vk f.blocks.length) (backR f.blocks.length):=by
 have n1:=h.n1
 have hl:=QK k f
 refine⟨by rw[vN,hl],rfl,rfl,rfl,rfl,fun x hx=>?_,fun x hx=>?_,fun x hx=>?_,fun x hx=>?_⟩
 ·rw[hl]at hx ⊢
  unfold vk backR
  by_cases h0:x=0
  ·simp[h0]
  by_cases h1:x=1
  ·subst h1
   simp only[Nat.one_ne_zero,if_false,if_true]
   rw[if_neg (by omega)]
   omega
  rw[if_neg h0,if_neg h1,if_neg (by omega),if_neg (by omega)]
  omega
 ·rw[hl]at hx ⊢
  unfold vk backR
  by_cases h0:x=0
  ·simp[h0]
  by_cases h1:x=f.blocks.length
  ·subst h1
   rw[if_neg h0,if_pos rfl]
   simp
   omega
  rw[if_neg h0,if_neg h1,if_neg (by omega),if_neg (by omega)]
  omega
 ·rw[hl]at hx
  rw[qG (by rw[hl];exact hx)]
  cases x with
  | zero=>rfl
  | succ i=>rw[kv k f (by omega),Zi,hph _ (List.getElem_mem _)]
 rw[hl]at hx
 have e1:∀i (hi:i<f.blocks.length),vk f.blocks.length (i+1)=if i=0 then f.blocks.length else i:=fun i hi=>by
  unfold vk
  rw[if_neg (by omega)]
  by_cases e:i=0
  ·simp[e]
  rw[if_neg (by omega),if_neg e];omega
 rw[qG (f:=jc k f) (by rw[hl];exact hx)]
 cases x with
 | zero=>
  rw[show vk f.blocks.length 0=0 from rfl,qG (by rw[vN];omega)]
  have e2:(JP k f).blocks[0]'(by rw[vN];omega)=⟨[],[],⟨2,false,0,[(f.blocks.length:Int)]⟩⟩:=by
   unfold JP
   simp only
   rw[List.getElem_append_left (by simpa using n1),List.getElem_set_self]
  rw[e2]
  show _=BlkL.mk [] [] ⟨2,false,0,[((vk f.blocks.length 1:Nat):Int)]⟩
  rw[e1 0 n1,if_pos rfl]
 | succ i=>
  have hi:i<f.blocks.length:=by omega
  have e2:atF (JP k f) (vk f.blocks.length (i+1))=Q0 k f.regs f.blocks.length f.blocks[i]:=by
   rw[e1 i hi]
   by_cases e:i=0
   ·subst e
    rw[if_pos rfl,qG (by rw[vN];omega)]
    unfold JP
    simp only
    rw[List.getElem_append_right (by simp)]
    simp[qG n1]
   rw[if_neg e,qG (by rw[vN];omega)]
   unfold JP
   simp only
   rw[List.getElem_append_left (by simpa using hi),List.getElem_set_ne (by omega),List.getElem_map]
  rw[e2,kv k f hi]
  unfold Q0
  cases e:zK k f.blocks[i] with
  | some c=>
   rw[jY e]
   show _=BlkL.mk _ _ ⟨2,false,0,[((vk f.blocks.length 1:Nat):Int)]⟩
   rw[e1 0 n1,if_pos rfl]
  | none=>
   rw[jX e]
   simp only[List.map_map]
   have e3:f.blocks[i].fin.to.map ((fun t:Int=>((vk f.blocks.length t.toNat:Nat):Int))∘fun t=>t+1)=f.blocks[i].fin.to:=by
    refine(List.map_congr_left (g:=id) fun t ht=>?_).trans (by simp)
    have ht:=(h.fin i hi).to t ht
    show((vk f.blocks.length (t+1).toNat:Nat):Int)=t
    rw[show(t+1).toNat=t.toNat+1 by omega,e1 _ (by omega),if_neg (by omega)]
    omega
   rw[e3]
end Go.Proofs.YtecdphhdmjmmnaaGreatDoor
namespace Go.Proofs.YtecdphhdmjmmnaaGreatDoor
open Go.RowKit Go.Shelf

theorem RowPut.at1 {w w':World} {e:TypeId} {g o size j:Nat} {cs:List Value} (h:RowPut w w' e g o size cs) (hj:j<size):w'.cell? ⟨g,o+j,none⟩=cs[j]?:=by
 obtain⟨cur,cur',_,h2,_,h4,_⟩:=h
 rw[←h4 j hj,cell_of_row w' g _ cur' e (0,0) h2]
theorem RowPut.free1 {w w':World} {e:TypeId} {g o size:Nat} {cs:List Value} (h:RowPut w w' e g o size cs) (i:Nat):w'.frozen? ⟨g,i,none⟩=false:=by
 obtain⟨cur,cur',_,h2,_⟩:=h
 exact(blk h2).2 i
end Go.Proofs.YtecdphhdmjmmnaaGreatDoor
namespace Go.Proofs.YtecdphhdmjmmnaaGreatDoor
open Go.RowKit

structure OutC (L O g c:Nat) (p1:Option Addr) (c1:Nat) (gl:List GloL) (xs:List FunL) (S1 S2:Blks) (W:World):Prop where
 out:W.heap[O]?=some (.cells #[.slice p1 gl.length c1,.slice (some ⟨g,0,none⟩) xs.length c] 25 (0,0))
 glo:SlQ 68 3 48 GloO W (.slice p1 gl.length c1) gl S1
 fn:SlO 37 4 FunO W (.slice (some ⟨g,0,none⟩) xs.length c) xs S2
 ap:Apart S1 S2
 l1:∀k,S1 k→L≤k∧k≠O
 l2:∀k,S2 k→L≤k∧k≠O
section
variable {L O g c c1 : Nat} {p1 : Option Addr} {gl : List GloL} {xs : List FunL} {S1 S2 : Blks} {W W' : World}
theorem OutC.lt (h:OutC L O g c p1 c1 gl xs S1 S2 W):O<W.heap.size:=q9 h.out
theorem OutC.put (h:OutC L O g c p1 c1 gl xs S1 S2 W) {xs':List FunL} {S2':Blks} (hL:L≤W.heap.size) (hl:xs'.length=xs.length) (hk:Kept S2 W W') (hs:SlO 37 4 FunO W' (.slice (some ⟨g,0,none⟩) xs.length c) xs' S2') (h2:∀b,S2' b→S2 b∨W.heap.size≤b):OutC L O g c p1 c1 gl xs' S1 S2' W':=by
 have zO:=h.lt
 refine⟨?_,⟨h.glo.sl.loc zC (fun b hb=>hk.block b (h.glo.sl.inb b hb) (h.ap b hb)) hk.size,h.glo.bd⟩,by rw[hl];exact hs,fun b x y=>?_,h.l1,fun b hb=>?_⟩
 ·rw[hl]
  exact(hk.block O zO fun hu=>(h.l2 O hu).2 rfl).trans h.out
 ·rcases h2 b y with z|z
  ·exact h.ap b x z
  have:=h.glo.sl.inb b x;omega
 rcases h2 b hb with z|z
 ·exact h.l2 b z
 omega
theorem OutC.below (h:OutC L O g c p1 c1 gl xs S1 S2 W) (hL:L≤W.heap.size) (hb:Below W.heap.size W W'):OutC L O g c p1 c1 gl xs S1 S2 W':=
 h.put hL rfl (Kept.of_below hb) (h.fn.below zj hb) fun _ hb=>.inl hb
theorem OutC.cO (h:OutC L O g c p1 c1 gl xs S1 S2 W):W.cell? ⟨O,0,none⟩=some (.slice p1 gl.length c1)∧W.cell? ⟨O,1,none⟩=some (.slice (some ⟨g,0,none⟩) xs.length c):=⟨(blk h.out).1 0,(blk h.out).1 1⟩
end
theorem OutC.oth {L O g c c1:Nat} {p1:Option Addr} {gl:List GloL} {xs:List FunL} {S1 S2 Sv:Blks} {W W':World} (h:OutC L O g c p1 c1 gl xs S1 S2 W) (hk:Kept Sv W W') (n1:∀b,S1 b→¬ Sv b) (n2:∀b,S2 b→¬ Sv b) (nO:¬ Sv O):OutC L O g c p1 c1 gl xs S1 S2 W':=
 ⟨(hk.block O h.lt nO).trans h.out,⟨h.glo.sl.loc zC (fun b hb=>hk.block b (h.glo.sl.inb b hb) (n1 b hb)) hk.size,h.glo.bd⟩,h.fn.kept zj hk (fun b a e=>n2 b e a),h.ap,h.l1,h.l2⟩

theorem QZ {α:Type} {P:Program} {R:List Value→α→Prop} {RO:ElemO α} {w:World} {ops:Array Oper} {rest:List Oper} {o:Oper} {a:Act} {Q:Exit→Act→World→Prop} (hgd:o.guard=none) (s x:Operand) (t:TypeId)
  (ho:o.op = .call { callee:=.builtin .append,args:=#[s,x],argTypes:=#[t,t] }) (hs:a.eval s = .slice none 0 0)
  (e:TypeId) (i:TypeInfo) (z:Value) (size bytes:Nat) (ht:P.underlying t=some (.slice e)) (hi:P.info? e=some i) (hz:i.zero=some z) (hsize:i.size=size) (hby:i.bytes=bytes) (hzs:z.cells.size=size) (hsz:0<size)
  (xs:List α) (csf:Nat→List Value) (hlen:∀i,i<xs.length→(csf i).length=size) (hone:∀i,i<xs.length→∀u∈csf i,u.oneCell'=true) (hcs:∀i (hi:i<xs.length) c,R c xs[i]→c=csf i) (hro:∀w i (hi:i<xs.length),R (csf i) xs[i]→RO w (csf i) xs[i] fun _=>False)
  (p:Option Addr) (c:Nat) (hx:a.eval x = .slice p xs.length c) (h:SliceAt w size R p xs) (hp:p=none→xs.length=0∧c=0) (hl:xs.length*bytes≤reachBytes) (hm:xs.length≤maxLen)
  (hk:∀p' c' w',(∃S,SlQ e size bytes RO w' (.slice p' xs.length c') xs S∧LoB w.heap.size S)→Below w.heap.size w w'→wpList P ops Q rest (a.put o.dst (.slice p' xs.length c')) w'):wpList P ops Q (o::rest) a w:=by
 rcases p with _|ad
 ·obtain⟨h0,rfl⟩:=hp rfl
  obtain rfl:=List.length_eq_zero_iff.1 h0
  exact wpList_append_own_none hgd s x t ho 0 e i size ht hi (.slice none 0 0) 0 [] hs (World.ownsRow_nil _ _ _ _) hx (hk none 0 w ⟨fun _=>False,⟨SlO.nil _ _ _ _ (fun _ h=>h.elim),by simp⟩,fun _ h=>h.elim⟩ (Below.refl _ _))
 refine wpList_append_own w hgd s x t ho w.heap.size e i z size bytes ht hi hz hsize hby hzs hsz (.slice none 0 0) 0 [] hs (World.ownsRow_nil _ _ _ _) ad xs.length c ((List.range xs.length).flatMap csf) hx (qI _ hlen) (kQ h hsz hlen hcs) (xk fun i hi=>hone i hi) (by omega) (by rw[Nat.zero_add];unfold reachBytes at hl;omega) (Nat.le_refl _) fun v' w' hown hg _=>?_
 have hval:∃p' c',v' = .slice p' xs.length c':=by
  rcases hown.2 with⟨h1,h2⟩|⟨g,cap,cur,h1,_⟩
  ·exact⟨none,0,by rw[h1,show xs.length=0 by omega]⟩
  exact⟨some ⟨g,0,none⟩,cap,by rw[h1];congr 1;omega⟩
 obtain⟨p',c',rfl⟩:=hval
 rw[Nat.zero_add,List.nil_append]at hown
 have hel:∀i (hi:i<xs.length),R (csf i) xs[i]:=fun i hi=>by
  rcases h with rfl|⟨b,o,_,h⟩
  ·simp at hi
  obtain⟨cs,_,_,hr⟩:=h i hi
  rw[←hcs i hi cs hr]
  exact hr
 exact hk p' c' w' ⟨_,⟨SlO.flat (base:=w.heap.size) (cs:=csf) hown hlen hone (fun i hi=>hro _ i hi (hel i hi)),hl⟩,fun k hk=>(hown.lt k hk).1⟩ (Below.grown (Below.refl _ _) hg (Nat.le_refl _) (fun b e=>by cases e))
theorem valCs_eq {xs:List (Bool×Int)} {i:Nat} (hi:i<xs.length) {c:List Value} (h:vO c xs[i]):c=kj xs i:=by
 obtain⟨e,_⟩:=h
 rw[e]
 unfold kj
 simp[List.getD,hi]
theorem intCs_eq {xs:List Int} {i:Nat} (hi:i<xs.length) {c:List Value} (h:xC c xs[i]):c=Qs xs i:=by
 obtain⟨e,_⟩:=h
 rw[e]
 unfold Qs
 simp[List.getD,hi]
theorem vl {w:World} {ops:Array Oper} {rest:List Oper} {o:Oper} {a:Act} {Q:Exit→Act→World→Prop} (hgd:o.guard=none) (s x:Operand)
  (ho:o.op = .call { callee:=.builtin .append,args:=#[s,x],argTypes:=#[51,51] }) (hs:a.eval s = .slice none 0 0) (xs:List (Bool×Int))
  (p:Option Addr) (c:Nat) (hx:a.eval x = .slice p xs.length c) (h:SliceAt w 2 vO p xs) (hp:p=none→xs.length=0∧c=0) (hl:xs.length*16≤reachBytes)
  (hk:∀p' c' w',(∃S,SlQ 43 2 16 Xu w' (.slice p' xs.length c') xs S∧LoB w.heap.size S)→Below w.heap.size w w'→wpList Tryz.prog ops Q rest (a.put o.dst (.slice p' xs.length c')) w'):wpList Tryz.prog ops Q (o::rest) a w:=by
 obtain⟨i1,k1,k2,k3,k4⟩:=info_parts kl
 exact QZ (R:=vO) hgd s x _ ho hs 43 i1 _ 2 16 Tryz.underlying51 k1 k2 k3 k4 rfl (by decide) xs (kj xs) (fun _ _=>rfl) (fun i _=>ZD xs i) (fun i hi c h=>valCs_eq hi h) (fun _ _ _ h=>h) p c hx h hp hl (by unfold reachBytes at hl;unfold maxLen;omega) hk
theorem vm {w:World} {ops:Array Oper} {rest:List Oper} {o:Oper} {a:Act} {Q:Exit→Act→World→Prop} (hgd:o.guard=none) (s x:Operand)
  (ho:o.op = .call { callee:=.builtin .append,args:=#[s,x],argTypes:=#[44,44] }) (hs:a.eval s = .slice none 0 0) (xs:List Int)
  (p:Option Addr) (c:Nat) (hx:a.eval x = .slice p xs.length c) (h:SliceAt w 1 xC p xs) (hp:p=none→xs.length=0∧c=0) (hl:xs.length*8≤reachBytes)
  (hk:∀p' c' w',(∃S,SlQ 3 1 8 kP w' (.slice p' xs.length c') xs S∧LoB w.heap.size S)→Below w.heap.size w w'→wpList Tryz.prog ops Q rest (a.put o.dst (.slice p' xs.length c')) w'):wpList Tryz.prog ops Q (o::rest) a w:=by
 obtain⟨i1,k1,k2,k3,k4⟩:=info_parts V3
 exact QZ (R:=xC) hgd s x _ ho hs 3 i1 _ 1 8 Tryz.underlying44 k1 k2 k3 k4 rfl (by decide) xs (Qs xs) (fun _ _=>rfl) (fun i _=>Jv xs i) (fun i hi c h=>intCs_eq hi h) (fun _ _ _ h=>h) p c hx h hp hl (by unfold reachBytes at hl;unfold maxLen;omega) hk
end Go.Proofs.YtecdphhdmjmmnaaGreatDoor
