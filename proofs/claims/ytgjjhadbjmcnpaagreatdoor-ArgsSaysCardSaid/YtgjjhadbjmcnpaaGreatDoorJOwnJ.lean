/-
  Plain: functions of the call's own, an instruction after the other turned: one step, by th
-/
import Derived.Test.YtgjjhadbjmcnpaaGreatDoorJCalJ
import Derived.Deep.DeepCutAuto
import Derived.Outline
import Derived.RangeFuncWrites
set_option maxRecDepth 100000
set_option maxHeartbeats 16000000
namespace Go.Proofs.YtgjjhadbjmcnpaaGreatDoor
open Go.RowKit Go.Shelf

section
variable {P : Program} {md : Region.Mode} {ops : Array Oper} {Q : Exit → Act → World → Prop} {S : World → Prop} {z : Nat}
theorem takeZ (i d:Nat) (v:Value) {oi:Oper} {fuel:Nat} {listed:Array Bool} {a:Act} {w:World} (hi:ops[i]?=some oi) (hd:oi.dst=some d) (hw:Kt md ops z i=true)
  (hs:Region.noSelect ops=true) (hf:Region.free md ops listed i=true) (hr:(Region.ready md ops listed).contains i=true)
  (hQ:∀c a w,Q (.panic c) (a.put (some d) v) w->Q (.panic c) a w) (hy:YieldsIf P ops S oi v a) (hS:S w)
  (h:qZ P md ops Q S z fuel (listed.setIfInBounds i true) (a.put (some d) v) w):qZ P md ops Q S z (fuel+1) listed a w:=
 VF hi hw hs hf hr (by rw[hd];exact hQ) hy hS (by rw[hd];exact h)
theorem tkZ (i d:Nat) (v:Value) {oi:Oper} {fuel:Nat} {listed:Array Bool} {a:Act} {w:World} (hi:ops[i]?=some oi) (hd:oi.dst=some d) (hS:S w) (hy:∀w',S w'->(execOp a.eval oi).run P w' = .ok (.value v) w')
  (h:qZ P md ops Q S z fuel (listed.setIfInBounds i true) (a.put (some d) v) w) (hg:Region.wanted oi (yielded ops a.tmps)=true:=by rfl) (hw:Kt md ops z i=true:=by kernel_rfl)
  (hs:Region.noSelect ops=true:=by kernel_rfl) (hf:Region.free md ops listed i=true:=by kernel_rfl) (hr:(Region.ready md ops listed).contains i=true:=by kernel_rfl)
  (hQ:∀c a w,Q (.panic c) (a.put (some d) v) w->Q (.panic c) a w:=by exact fun _ _ _ h=>h):qZ P md ops Q S z (fuel+1) listed a w:=
 takeZ i d v hi hd hw hs hf hr hQ (xH ⟨hg,hy⟩) hS h
theorem JK {i:Nat} {o:Oper} {fuel:Nat} {listed:Array Bool} {a:Act} {w:World} {f:FuncId} {args:Array Value} {R:Ending->World->Prop} (hr:Region.ready md ops listed=[i]) (ho:ops[i]?=some o) (hg:Region.wanted o (yielded ops a.tmps)=true)
  (h:(execOp a.eval o).run P w = .ok (.enter f args) w) (hc:Calls P f args w R) (hk:∀e w',R e w'->∃v,e = .returned v/\(i≠z->S w')/\qZ P md ops Q S z fuel (listed.setIfInBounds i true) (a.put o.dst v) w'):qZ P md ops Q S z (fuel+1) listed a w:=
 QQ hr bV fun j hj=>by
  obtain rfl:j=i:=by simpa using hj
  unfold wpOp;rw[ho];simp only[hg,if_true];left;unfold Oper.wp;rw[h];refine hc.mono fun e w' he=>?_;obtain⟨v,rfl,h1,h2⟩:=hk e w' he;exact⟨h1,h2⟩
theorem stepZ_val {i:Nat} {o:Oper} {fuel:Nat} {listed:Array Bool} {a:Act} {w:World} (v:Value) (w':World) (ho:ops[i]?=some o) (hg:o.guard=none) (h:(execOp a.eval o).run P w = .ok (.value v) w') (hS:S w')
  (hk:qZ P md ops Q S z fuel (listed.setIfInBounds i true) (a.put o.dst v) w'):wpOp P ops Q i (fun a' w'=>(i≠z->S w')/\qZ P md ops Q S z fuel (listed.setIfInBounds i true) a' w') a w:=
 XN ho hg (wp_of_run h ⟨fun _=>hS,hk⟩)
theorem qC {i:Nat} {o:Oper} {fuel:Nat} {listed:Array Bool} {a:Act} {w:World} (d:Nat) (v:Value) (w':World) (ho:ops[i]?=some o) (hd:o.dst=some d) (hg:o.guard=none) (h:(execOp a.eval o).run P w = .ok (.value v) w') (hS:S w')
  (hk:qZ P md ops Q S z fuel (listed.setIfInBounds i true) (a.put (some d) v) w'):wpOp P ops Q i (fun a' w'=>(i≠z->S w')/\qZ P md ops Q S z fuel (listed.setIfInBounds i true) a' w') a w:=
 stepZ_val v w' ho hg h hS (by rw[hd];exact hk)
theorem Yn {i:Nat} {o:Oper} {fuel:Nat} {listed:Array Bool} {a:Act} {w:World} (w':World) (ho:ops[i]?=some o) (hg:o.guard=none) (h:(execOp a.eval o).run P w = .ok .skip w') (hS:i≠z->S w')
  (hk:qZ P md ops Q S z fuel (listed.setIfInBounds i true) (a.put o.dst undef) w'):wpOp P ops Q i (fun a' w'=>(i≠z->S w')/\qZ P md ops Q S z fuel (listed.setIfInBounds i true) a' w') a w:=
 XN ho hg (Ym h ⟨hS,hk⟩)
theorem Yo {i:Nat} {o:Oper} {fuel:Nat} {listed:Array Bool} {a:Act} {w:World} {f:FuncId} {args:Array Value} {R:Ending->World->Prop} (ho:ops[i]?=some o) (hg:o.guard=none)
  (h:(execOp a.eval o).run P w = .ok (.enter f args) w) (hc:Calls P f args w R) (hk:∀e w',R e w'->∃v,e = .returned v/\S w'/\qZ P md ops Q S z fuel (listed.setIfInBounds i true) (a.put o.dst v) w'):wpOp P ops Q i (fun a' w'=>(i≠z->S w')/\qZ P md ops Q S z fuel (listed.setIfInBounds i true) a' w') a w:=by
 refine XN ho hg ?_;unfold Oper.wp;rw[h];refine hc.mono fun e w' he=>?_;obtain⟨v,rfl,h1,h2⟩:=hk e w' he;exact⟨fun _=>h1,h2⟩
theorem qt {i:Nat} {o:Oper} {fuel:Nat} {listed:Array Bool} {a:Act} {w:World} {f:FuncId} {args:Array Value} {R:Ending->World->Prop} (d:Nat) (ho:ops[i]?=some o) (hd:o.dst=some d) (hg:o.guard=none)
  (h:(execOp a.eval o).run P w = .ok (.enter f args) w) (hc:Calls P f args w R) (hk:∀e w',R e w'->∃v,e = .returned v/\S w'/\qZ P md ops Q S z fuel (listed.setIfInBounds i true) (a.put (some d) v) w'):wpOp P ops Q i (fun a' w'=>(i≠z->S w')/\qZ P md ops Q S z fuel (listed.setIfInBounds i true) a' w') a w:=
 Yo ho hg h hc (by rw[hd];exact hk)
theorem qz {i:Nat} {o:Oper} {fuel:Nat} {listed:Array Bool} {a:Act} {w:World} (w':World) (ho:ops[i]?=some o) (hd:o.dst=none) (hg:o.guard=none) (h:(execOp a.eval o).run P w = .ok .skip w') (hS:i≠z->S w')
  (hk:qZ P md ops Q S z fuel (listed.setIfInBounds i true) a w'):wpOp P ops Q i (fun a' w'=>(i≠z->S w')/\qZ P md ops Q S z fuel (listed.setIfInBounds i true) a' w') a w:=
 Yn w' ho hg h hS (by rw[hd];exact hk)
theorem qm {i:Nat} {fuel:Nat} {listed:Array Bool} {a:Act} {w:World} (hr:Region.ready md ops listed=[i])
  (h1:wpOp P ops Q i (fun a' w'=>(i≠z->S w')/\qZ P md ops Q S z fuel (listed.setIfInBounds i true) a' w') a w):qZ P md ops Q S z (fuel+1) listed a w:=
 QQ hr bV fun m hm=>by
  obtain rfl:m=i:=by simpa using hm
  exact h1
theorem stepZ_2 {i j:Nat} {fuel:Nat} {listed:Array Bool} {a:Act} {w:World} (hr:Region.ready md ops listed=[i,j])
  (h1:wpOp P ops Q i (fun a' w'=>(i≠z->S w')/\qZ P md ops Q S z fuel (listed.setIfInBounds i true) a' w') a w)
  (h2:wpOp P ops Q j (fun a' w'=>(j≠z->S w')/\qZ P md ops Q S z fuel (listed.setIfInBounds j true) a' w') a w):qZ P md ops Q S z (fuel+1) listed a w:=
 QQ hr bV fun m hm=>by
  rcases yC.1 hm with rfl|hm
  ·exact h1
  obtain rfl:m=j:=by simpa using hm
  exact h2
end


theorem Qc {P:Program} {o:Oper} {a:Act} {w w':World} {s x:Operand} {t:TypeId} {u v v':Value} (ho:o.op = .call { callee:=.builtin .append,args:=#[s,x],argTypes:=#[t,t] }) (hs:a.eval s=v) (hx:a.eval x=u) (h:(Builtin.append_ #[t,t] o.type #[v,u]).run P w = .ok v' w') :
  (execOp a.eval o).run P w = .ok (.value v') w':=by
 unfold execOp;simp only[ho,resolve,invoke,builtin,Sem.run_bind,Sem.run_pure,Result.andThen_ok,List.map_toArray,yS,yw,hs,hx,h]
section
variable {P : Program} {md : Region.Mode} {ops : Array Oper} {Q : Exit → Act → World → Prop} {S : World → Prop} {z : Nat} {α : Type} {R : ElemO α}
theorem v7 {i:Nat} {o:Oper} {fuel:Nat} {listed:Array Bool} {a:Act} {w:World} (d:Nat) (s x:Operand) (t:TypeId) (ho:ops[i]?=some o) (hop:o.op = .call { callee:=.builtin .append,args:=#[s,x],argTypes:=#[t,t] }) (hd:o.dst=some d) (hg:o.guard=none)
  (e:TypeId) (ti:TypeInfo) (zv:Value) (size bytes:Nat) (ht:P.underlying t=some (.slice e)) (hi:P.info? e=some ti) (hz:ti.zero=some zv)
  (hsize:ti.size=size) (hby:ti.bytes=bytes) (hzs:zv.cells.size=size) (hsz:0<size) (hR:kY R)
  {v:Value} {xs:List α} {U T:Blks} (hs:a.eval s=v) (hO:SlO e size R w v xs U)
  (ad:Addr) (cc:Nat) (c:List Value) (y:α) (hx:a.eval x = .slice (some ad) 1 cc) (hl:c.length=size) (hnews:∀j u,c[j]?=some u->w.cell? (ad.add j)=some u) (h1:∀u∈c,u.oneCell'=true) (hy:R w c y T) (hT:Apart U T) (hTi:InB w T)
  (h63:xs.length+1<=maxLen) (hbytes:(xs.length+1)*bytes<=140737488355328)
  (hk:∀v' w',Snoc e size R w (xs++[y]) U T v' w'->S w'/\qZ P md ops Q S z fuel (listed.setIfInBounds i true) (a.put (some d) v') w') :
  wpOp P ops Q i (fun a' w'=>(i≠z->S w')/\qZ P md ops Q S z fuel (listed.setIfInBounds i true) a' w') a w:=by
 obtain⟨v',w',hr,h2⟩:=Q3 (P:=P) w t o.type e ti zv size bytes ht hi hz hsize hby hzs hsz hR hO ad cc c y hl hnews h1 hy hT hTi h63 hbytes;obtain⟨h3,h4⟩:=hk v' w' h2;exact qC d v' w' ho hd hg (Qc hop hs hx hr) h3 h4
end

theorem Zg:(Tryz.prog.info? 49).map (fun i=>(i.zero,i.size,i.bytes))=some (some (.agg #[.slice none 0 0,.slice none 0 0,Z 0,.bool false,Z 0,.slice none 0 0]),6,96):=by kernel_rfl

theorem BlkO.tight {w:World} {cs:List Value} {x:BlkL} {T:Blks} (h:BlkO w cs x T):∃T',BlkO w cs x T'/\InB w T'/\∀k,T' k->T k:=by
 obtain⟨v1,v2,v3,S1,S2,S3,h0,h1,h2,h3,h4,h5,a1,a2,a3,g1,g2,g3⟩:=h;refine⟨fun k=>S1 k\/S2 k\/S3 k,⟨v1,v2,v3,S1,S2,S3,h0,h1,h2,h3,h4,h5,a1,a2,a3,fun _ h=>.inl h,fun _ h=>.inr (.inl h),fun _ h=>.inr (.inr h)⟩,?_,?_⟩
 ·rintro k (h|h|h)
  ·exact h3.sl.inb k h
  ·exact h4.sl.inb k h
  exact h5.sl.inb k h
 rintro k (h|h|h)
 ·exact g1 k h
 ·exact g2 k h
 exact g3 k h

theorem VI (f:FunL) (q:Option Addr) (e1:Nat) (w:World) (hn:f.name.size<=reachBytes) (i1:I64 f.params) (i2:I64 f.regs) (hB:SlF w 6 96 (BlkR w) (.slice q f.blocks.length e1) f.blocks) :
  Calls Tryz.prog 43 #[.agg #[.string f.name,Z f.params,Z f.regs,.slice q f.blocks.length e1]] w fun e w'=>(∃p c,e = .returned (.agg #[.string f.name,Z f.params,Z f.regs,.slice p f.blocks.length c])/\
   ∃S,FunO w' [.string f.name,Z f.params,Z f.regs,.slice p f.blocks.length c] f S/\LoB w.heap.size S)/\Below w.heap.size w w':=by
 obtain⟨iB,k1,k2,k3,k4⟩:=info_parts Zg;have hbd:=hB.bdC;have hlb:f.blocks.length*96<=140737488351232:=hbd
 have hBs:SliceAt w 6 (BlkR w) q f.blocks:=by
  obtain⟨p,c,e,_,_,h⟩:=hB.outC;cases e;exact h
 have HBs:=q8 hBs;have HBd:=q8 hbd;have HN:=q8 (zh hn (zh i1 i2));clear hB hBs hbd hn i1 i2
 go_enter Tryz.func43,Tryz.ntmps43
 go_wp2_with fail
 obtain⟨W0,hW0⟩:=nZ ((w.alloc (.cells #[.string f.name,Z f.params,Z f.regs,.slice none 0 0] 38)).alloc (.cells #[.string { data:=#[] },Z 0,Z 0,.slice none 0 0] 38));rw[←hW0];have hz0:W0.heap.size=w.heap.size+1+1:=by rw[hW0];simp
 have HB0:Hid (Below w.heap.size w W0):=q8 (by rw[hW0];exact bZ);have HA:Hid (W0.heap[w.heap.size]?=some (.cells #[.string f.name,Z f.params,Z f.regs,.slice none 0 0] 38 (0,0))):=q8 (by rw[hW0];exact qh (qr rfl));have HZ:Hid (W0.heap[w.heap.size+1]?=some (.cells #[.string { data:=#[] },Z 0,Z 0,.slice none 0 0] 38 (0,0))):=q8 (by rw[hW0];exact qr bV);clear hW0
 go_loopw [11] (fun i wr=>∃(k:Nat) (v:Value),k<=f.blocks.length/\i=Z k/\(∃S,SlO 49 6 BlkO wr v (f.blocks.take k) S/\LoB W0.heap.size S)/\wr.heap[w.heap.size]?=some (.cells #[.string f.name,Z f.params,Z f.regs,v] 38 (0,0))/\Kept (fun k=>k=w.heap.size) W0 wr) (fun i _=>f.blocks.length - (intOf i).toNat)
 case atStart=>exact⟨0,.slice none 0 0,by omega,rfl,⟨fun _=>False,SlO.nil _ _ _ _ (fun _ h=>h.elim),fun _ h=>h.elim⟩,HA.out,Kept.refl _ _⟩
 case round=>
  obtain⟨k,v,hk,rfl,⟨S,hO,hL⟩,hA,hK⟩:=hrel;obtain⟨p,c,hv,_⟩:=hO.val;rw[List.length_take_of_le hk]at hv;subst hv;have HO:=q8 hO;have HL:=q8 hL;have HK:=q8 hK;have HA1:=q8 hA;have hsz:=hK.size;have HBw:Hid (Below w.heap.size w wr):=HB0.out.trans (hK.below bO (fun _ e=>by omega));clear hO hL hK hA
  by_cases hlt:k<f.blocks.length
  rotate_left
  ·obtain rfl:k=f.blocks.length:=(by omega);have r0:wr.cell? (J w.heap.size 0)=some (.string f.name):=(blk HA1.out).1 0;have r1:wr.cell? (J w.heap.size 1)=some (Z f.params):=(blk HA1.out).1 1;have r2:wr.cell? (J w.heap.size 2)=some (Z f.regs):=(blk HA1.out).1 2;have r3:wr.cell? (J w.heap.size 3)=some (.slice p f.blocks.length c):=(blk HA1.out).1 3;have hZ:=(HK.out.block (w.heap.size+1) bO bO).trans HZ.out;have rZ:=blk hZ;have rz0:wr.cell? (J (w.heap.size+1) 0)=some (.string { data:=#[] }):=rZ.1 0;have rz1:wr.cell? (J (w.heap.size+1) 1)=some (Z 0):=rZ.1 1;have rz2:wr.cell? (J (w.heap.size+1) 2)=some (Z 0):=rZ.1 2;have rz3:wr.cell? (J (w.heap.size+1) 3)=some (.slice none 0 0):=rZ.1 3;have rf:=rZ.2;have hzl:=qd hZ
   go_wp2_with fail
   rw[yP]at HO;obtain⟨WF,hWF⟩:=nZ ((((wr.setCell (J (w.heap.size+1) 0) (.string f.name)).setCell (J (w.heap.size+1) 1) (Z f.params)).setCell (J (w.heap.size+1) 2) (Z f.regs)).setCell (J (w.heap.size+1) 3) (.slice p f.blocks.length c));rw[←hWF]
   have hF1:WF.heap[w.heap.size+1]?=some (.cells #[.string f.name,Z f.params,Z f.regs,.slice p f.blocks.length c] 38 (0,0)):=by
    rw[hWF,qj (qj (qj (qj hZ 0 _) 1 _) 2 _) 3 _];rfl
   have hFo:∀k,k≠w.heap.size+1->WF.heap[k]?=wr.heap[k]?:=fun k h1=>by
    rw[hWF]
    repeat rw[zJ _ _ _ _ (by assumption)]
   have hFs:WF.heap.size=wr.heap.size:=by rw[hWF];simp[World.setCell]
   have hFb:Below w.heap.size w WF:=by
    rw[hWF];exact(((HBw.out.setCell bV _).setCell bV _).setCell bV _).setCell bV _
   clear hWF;have k0:=(blk hF1).1 0;have k1':=(blk hF1).1 1;have k2':=(blk hF1).1 2;have k3':=(blk hF1).1 3;refine zk (v:=.agg #[.string f.name,Z f.params,Z f.regs,.slice p f.blocks.length c]) ?_ rfl ⟨⟨p,c,rfl,S,⟨_,rfl,HN.out.1,HN.out.2.1,HN.out.2.2,⟨HO.out.loc qM (fun i hi=>hFo i (fun e=>by have:=HL.out i hi;omega)) bO,HBd.out⟩⟩,fun i hi=>by have:=HL.out i hi;omega⟩,hFb⟩;simp[results,Tryz.results43,go_sem,k0,k1',k2',k3']
  obtain⟨bp,op,cs,hp,_,hc,b0,b1,b2,rfl,b3,b4,b5,b6,b7⟩:=HBs.out.get hlt;subst hp;obtain⟨q1,d1,rfl,_⟩:=b5.outC;obtain⟨q2,d2,rfl,_⟩:=b6.outC;obtain⟨q3,d3,rfl,_⟩:=b7.outC;have hc0:=hc 0 bO;have hbp:=q9 hc0;have c0:=(HBw.out.cell (p:=(J bp _)) hbp).trans hc0;have c1:=(HBw.out.cell (p:=(J bp _)) hbp).trans (hc 1 bO);have c2:=(HBw.out.cell (p:=(J bp _)) hbp).trans (hc 2 bO);have c3:=(HBw.out.cell (p:=(J bp _)) hbp).trans (hc 3 bO);have c4:=(HBw.out.cell (p:=(J bp _)) hbp).trans (hc 4 bO);have c5:=(HBw.out.cell (p:=(J bp _)) hbp).trans (hc 5 bO);simp only[zB,zD,yJ]at c0 c1 c2 c3 c4 c5;have HR:=q8 (zh b3 (zh b4 (zh b5 (zh b6 b7))));clear hc hc0 b3 b4 b5 b6 b7
  go_wp2_with fail
  obtain⟨w1,hw1⟩:=nZ (wr.alloc (.cells #[.slice q1 f.blocks[k].phis.length d1,.slice q2 f.blocks[k].list.length d2,Z f.blocks[k].fin.kind,.bool f.blocks[k].fin.onr,Z f.blocks[k].fin.onn,.slice q3 f.blocks[k].fin.to.length d3] 49));rw[←hw1];have hz1:w1.heap.size=wr.heap.size+1:=by rw[hw1];simp
  have HBr:Hid (Below wr.heap.size wr w1):=q8 (by rw[hw1];exact bZ);have HX1:Hid (w1.heap[wr.heap.size]?=some (.cells #[.slice q1 f.blocks[k].phis.length d1,.slice q2 f.blocks[k].list.length d2,Z f.blocks[k].fin.kind,.bool f.blocks[k].fin.onr,Z f.blocks[k].fin.onn,.slice q3 f.blocks[k].fin.to.length d3] 49 (0,0))):=q8 (by rw[hw1];exact qr rfl);clear hw1;have hzA:w.heap.size<wr.heap.size:=by omega
  obtain⟨Sp,hSp⟩:∃Sp:World->Prop,Sp=fun w'=>w'.heap[w.heap.size]?=some (.cells #[.string f.name,Z f.params,Z f.regs,.slice p k c] 38 (0,0))/\w'.heap[wr.heap.size]?=some (.cells #[.slice q1 f.blocks[k].phis.length d1,.slice q2 f.blocks[k].list.length d2,Z f.blocks[k].fin.kind,.bool f.blocks[k].fin.onr,Z f.blocks[k].fin.onn,.slice q3 f.blocks[k].fin.to.length d3] 49 (0,0)):=⟨_,rfl⟩
  have ha6:∀w',Sp w'->(∀j,w'.cell? (J w.heap.size j)=(#[.string f.name,Z f.params,Z f.regs,.slice p k c]:Array Value)[j]?)/\(∀j,w'.cell? (J wr.heap.size j)=(#[.slice q1 f.blocks[k].phis.length d1,.slice q2 f.blocks[k].list.length d2,Z f.blocks[k].fin.kind,.bool f.blocks[k].fin.onr,Z f.blocks[k].fin.onn,.slice q3 f.blocks[k].fin.to.length d3]:Array Value)[j]?)/\w.heap.size<w'.heap.size/\wr.heap.size<w'.heap.size/\w'.frozen? (J w.heap.size 3)=false:=fun w' h=>by
   rw[hSp]at h;exact⟨(blk h.1).1,(blk h.2).1,qd h.1,qd h.2,(blk h.1).2 3⟩
  have hSk:∀{U:Blks} {x y:World},Sp x->Kept U x y->¬ U w.heap.size->¬ U wr.heap.size->Sp y:=fun {U x y} h hk n1 n2=>by
   rw[hSp]at h ⊢;exact⟨(hk.block _ (qd h.1) n1).trans h.1,(hk.block _ (qd h.2) n2).trans h.2⟩
  have hbI:Sp w1:=by
   rw[hSp];exact⟨(HBr.out.block _ hzA).trans HA1.out,HX1.out⟩
  have hS1:Sp w1.drew:=by
   rw[hSp]at hbI ⊢;exact hbI
  refine qA (S:=Sp) bK 7 ?_;refine tkZ 0 15 (.pointer (some (J w.heap.size 3))) rfl rfl hS1 (fun w' h=>?_) ?_
  ·obtain⟨h1,h2,h3,h4,h5⟩:=ha6 w' h;go_simp
  refine tkZ 1 16 (.slice p k c) rfl rfl hS1 (fun w' h=>?_) ?_
  ·obtain⟨h1,h2,h3,h4,h5⟩:=ha6 w' h;go_simp
  refine tkZ 2 17 (.agg #[.slice q1 f.blocks[k].phis.length d1,.slice q2 f.blocks[k].list.length d2,Z f.blocks[k].fin.kind,.bool f.blocks[k].fin.onr,Z f.blocks[k].fin.onn,.slice q3 f.blocks[k].fin.to.length d3]) rfl rfl hS1 (fun w' h=>?_) ?_
  ·obtain⟨h1,h2,h3,h4,h5⟩:=ha6 w' h;have g0:=h2 0;have g1:=h2 1;have g2:=h2 2;have g3:=h2 3;have g4:=h2 4;have g5:=h2 5;go_simp
  have hw1:Below w.heap.size w w1.drew:=(HBw.out.trans (HBr.out.mono bO)).drew;refine qm (i:=3) bK (qt 18 rfl rfl rfl (by go_simp) (VE f.blocks[k] q1 q2 q3 d1 d2 d3 w1.drew (HR.out.2.2.1.mono hw1 bO fun _ _ g=>g.below hw1) (HR.out.2.2.2.1.mono hw1 bO fun _ _ g=>g.below hw1) (HR.out.2.2.2.2.mono hw1 bO fun _ _ g=>g) HR.out.1 HR.out.2.1) ?_);rintro e w2 ⟨⟨p1,m1,p2,m2,p3,m3,rfl,T0,hT0,hgO⟩,hb2⟩;obtain⟨T,hT,hTi,hTs⟩:=hT0.tight;have hTl:LoB w1.drew.heap.size T:=fun k h=>hgO k (hTs k h);clear hT0 hgO hTs;have hb2:Below w1.heap.size w1 w2:=(zI _ w1).drew.trans hb2;have hTl:∀k,T k->w1.heap.size<=k:=hTl;have hS2:Sp w2:=hSk (x:=w1) hbI (Kept.of_below (S:=fun _=>False) hb2) (fun h=>h) (fun h=>h);refine⟨_,rfl,hS2,?_⟩;have hO2:=HO.out.below qM (HBr.out.trans (hb2.mono bO));have hz2:=hb2.size;have HO2:=q8 hO2;have HT2:=q8 hT;have HTl:=q8 hTl;have HTi:=q8 hTi;have HB2:=q8 hb2;clear hT hTl hTi hb2 hO2;refine qm (i:=4) bK (qC 19 (.slice (some (J w2.heap.size 0)) 1 1) (w2.alloc (.cells #[.slice p1 f.blocks[k].phis.length m1,.slice p2 f.blocks[k].list.length m2,Z f.blocks[k].fin.kind,.bool f.blocks[k].fin.onr,Z f.blocks[k].fin.onn,.slice p3 f.blocks[k].fin.to.length m3] 49)) rfl rfl rfl (by go_simp) (hSk hS2 ((Kept.refl (fun _=>False) _).alloc _) (fun h=>h) (fun h=>h)) ?_);have hS3:Sp (w2.alloc (.cells #[.slice p1 f.blocks[k].phis.length m1,.slice p2 f.blocks[k].list.length m2,Z f.blocks[k].fin.kind,.bool f.blocks[k].fin.onr,Z f.blocks[k].fin.onn,.slice p3 f.blocks[k].fin.to.length m3] 49)):=hSk hS2 ((Kept.refl (fun _=>False) _).alloc _) (fun h=>h) (fun h=>h);refine qm (i:=5) bK (v7 20 _ _ 36 rfl rfl rfl rfl 49 iB _ 6 96 Tryz.underlying36 k1 k2 k3 k4 rfl (by decide) qM rfl (HO2.out.below qM ((zI _ _).alloc (zK _) _)) ⟨w2.heap.size,0,none⟩ 1 [.slice p1 f.blocks[k].phis.length m1,.slice p2 f.blocks[k].list.length m2,Z f.blocks[k].fin.kind,.bool f.blocks[k].fin.onr,Z f.blocks[k].fin.onn,.slice p3 f.blocks[k].fin.to.length m3] f.blocks[k] rfl rfl ?hn ?ho (T:=T) ?hy ?ha ?ht ?hm ?hb ?_)
  case hn=>exact zW _ _ _ rfl
  case ho=>intro u hu;simp only[yC,yG,yl]at hu;rcases hu with rfl|rfl|rfl|rfl|rfl|rfl<;>rfl
  case hy=>exact qM _ _ _ _ _ HT2.out (fun k hk=>xG _ _ k (HTi.out k hk)) bV
  case ha=>exact fun k h1 h2=>by have:=HO.out.inb k h1;have:=HTl.out k h2;omega
  case ht=>exact HTi.out.mono bV
  case hm=>unfold maxLen;simp;omega
  case hb=>simp;omega
  intro v2 w4 ⟨S',hO4,hsub,hK4⟩;obtain⟨pv,cv,hv2,_⟩:=hO4.val;have hlv:(f.blocks.take k++[f.blocks[k]]).length=k+1:=by simp;omega
  rw[hlv]at hv2;subst hv2;have hSn:∀i,i<W0.heap.size->¬ S i:=fun i hi h=>by have:=HL.out i h;omega
  have hjS:¬ S wr.heap.size:=fun h=>by have:=HO.out.inb _ h;omega
  have hS4:Sp w4:=hSk hS3 hK4 (hSn _ bO) hjS;refine⟨hS4,?_⟩;refine tkZ 6 21 (.pointer (some (J w.heap.size 3))) rfl rfl hS4 (fun w' h=>?_) ?_
  ·obtain⟨h1,h2,h3,h4,h5⟩:=ha6 w' h;go_simp
  obtain⟨h1,h2,h3,h4,h5⟩:=ha6 w4 hS4;have h13:w4.cell? (J w.heap.size 3)=some (.slice p k c):=h1 3;clear h1;refine qm (i:=7) bK (qz (w4.setCell (J w.heap.size 3) (.slice pv (k+1) cv)) rfl rfl rfl (by go_simp) (fun h=>absurd rfl h) (qL bK ?_ _));show Exit.inBlock 1 _ Exit.normal _ _
  have hrel:(∃S,SlO 49 6 BlkO (w4.setCell (J w.heap.size 3) (.slice pv (k+1) cv)) (.slice pv (k+1) cv) (f.blocks.take (k+1)) S/\LoB W0.heap.size S)/\(w4.setCell (J w.heap.size 3) (.slice pv (k+1) cv)).heap[w.heap.size]?=some (.cells #[.string f.name,Z f.params,Z f.regs,.slice pv (k+1) cv] 38 (0,0))/\Kept (fun k=>k=w.heap.size) W0 (w4.setCell (J w.heap.size 3) (.slice pv (k+1) cv)):=by
   have hlo:LoB W0.heap.size S':=fun i hi=>by
    rcases hsub i hi with h|h|h
    ·exact HL.out i h
    ·have:=HTl.out i h;omega
    simp at h;omega
   have e4:w4.heap[w.heap.size]?=some (.cells #[.string f.name,Z f.params,Z f.regs,.slice p k c] 38 (0,0)):=by
    rw[hSp]at hS4;exact hS4.1
   refine⟨⟨S',?_,hlo⟩,?_,?_⟩
   ·rw[yA hlt];exact hO4.loc qM (fun i hi=>zJ _ _ _ _ (fun e=>by have:=hlo i hi;have e2:i=w.heap.size:=e;omega)) (by simp[World.setCell])
   ·rw[qj e4 3 _];rfl
   have kA:Kept (fun k=>k=w.heap.size) W0 w2:=HK.out.trans (Kept.of_below (S:=fun _=>False) (HBr.out.trans (HB2.out.mono bO))) (fun _ _ h=>h.elim);exact((kA.alloc _).trans hK4 (fun i hi h=>absurd h (hSn i hi))).setCell rfl _
  have ha7:=q8 hrel;clear hrel hS4 h2 h3 h4 h5 h13 hO4 hsub hK4 hS3 hS2
  go_wp2_with fail
  exact⟨⟨k+1,.slice pv (k+1) cv,by omega,by go_num,ha7.out.1,ha7.out.2.1,ha7.out.2.2⟩,by simp[intOf];omega⟩

theorem XO:(Tryz.prog.info? 61).map (fun i=>(i.zero,i.size,i.bytes))=some (some (.agg #[.string { data:=#[] },Z 0,.slice none 0 0]),3,48):=by kernel_rfl
theorem XP:(Tryz.prog.info? 38).map (fun i=>(i.zero,i.size,i.bytes))=some (some (.agg #[.string { data:=#[] },Z 0,Z 0,.slice none 0 0]),4,56):=by kernel_rfl
def UniO:ElemO UniL:=fun w cs x S=>∃v1 v2 S1 S2,cs=[v1,v2]/\SlQ 61 3 48 GloO w v1 x.globals S1/\SlQ 38 4 56 FunO w v2 x.funcs S2/\Apart S1 S2/\(∀k,S1 k->S k)/\∀k,S2 k->S k
theorem UniO.read {w:World} {cs:List Value} {x:UniL} {S:Blks} (h:UniO w cs x S):UniR w cs x:=by
 obtain⟨v1,v2,S1,S2,h0,h1,h2,_⟩:=h;exact⟨v1,v2,h0,h1.read xl bO fun _ _ _ h=>h.read,h2.read qK bO fun _ _ _ h=>h.read⟩

theorem copy_any (u:UniL) (q1 q2:Option Addr) (e1 e2:Nat) (w:World) (hG:SlF w 3 48 (GloR w) (.slice q1 u.globals.length e1) u.globals) (hF:SlF w 4 56 (FunR w) (.slice q2 u.funcs.length e2) u.funcs) :
  Calls Tryz.prog 17 #[.agg #[.slice q1 u.globals.length e1,.slice q2 u.funcs.length e2]] w fun e w'=>(∃p1 c1 p2 c2,e = .returned (.agg #[.slice p1 u.globals.length c1,.slice p2 u.funcs.length c2])/\
   ∃S,UniO w' [.slice p1 u.globals.length c1,.slice p2 u.funcs.length c2] u S/\LoB w.heap.size S)/\Below w.heap.size w w':=by
 obtain⟨iG,k1,k2,k3,k4⟩:=info_parts XO;obtain⟨iF,l1,l2,l3,l4⟩:=info_parts XP;have hlg:u.globals.length*48<=140737488351232:=hG.bdC;have hlf:u.funcs.length*56<=140737488351232:=hF.bdC
 have hGs:SliceAt w 3 (GloR w) q1 u.globals:=by
  obtain⟨p,c,e,_,_,h⟩:=hG.outC;cases e;exact h
 have hFs:SliceAt w 4 (FunR w) q2 u.funcs:=by
  obtain⟨p,c,e,_,_,h⟩:=hF.outC;cases e;exact h
 have HGs:=q8 hGs;have HFs:=q8 hFs;have HBd:=q8 (zh hG.bdC hF.bdC);clear hG hF hGs hFs
 go_enter Tryz.func17,Tryz.ntmps17
 go_wp2_with fail
 obtain⟨W0,hW0⟩:=nZ (((w.alloc (.cells #[.slice q1 u.globals.length e1,.slice q2 u.funcs.length e2] 25)).alloc (.cells #[.slice none 0 0,.slice none 0 0] 25)).alloc (.cells #[.slice none 0 0,.slice none 0 0] 25));rw[←hW0];have hz0:W0.heap.size=w.heap.size+1+1+1:=by rw[hW0];simp
 have HB0:Hid (Below w.heap.size w W0):=q8 (by rw[hW0];exact bZ);have HA:Hid (W0.heap[w.heap.size]?=some (.cells #[.slice q1 u.globals.length e1,.slice q2 u.funcs.length e2] 25 (0,0))):=q8 (by rw[hW0];exact qh (qh (qr rfl)));have HZ:Hid (W0.heap[w.heap.size+1]?=some (.cells #[.slice none 0 0,.slice none 0 0] 25 (0,0))):=q8 (by rw[hW0];exact qh (qr bV));have HO0:Hid (W0.heap[w.heap.size+1+1]?=some (.cells #[.slice none 0 0,.slice none 0 0] 25 (0,0))):=q8 (by rw[hW0];exact qr bV);clear hW0
 go_loopw [12] (fun i wr=>∃(k:Nat) (v:Value),k<=u.globals.length/\i=Z k/\(∃S,SlO 61 3 GloO wr v (u.globals.take k) S/\LoB W0.heap.size S)/\wr.heap[w.heap.size+1+1]?=some (.cells #[v,.slice none 0 0] 25 (0,0))/\Kept (fun k=>k=w.heap.size+1+1) W0 wr) (fun i _=>u.globals.length - (intOf i).toNat)
 case atStart=>exact⟨0,.slice none 0 0,by omega,rfl,⟨fun _=>False,SlO.nil _ _ _ _ (fun _ h=>h.elim),fun _ h=>h.elim⟩,HO0.out,Kept.refl _ _⟩
 case round=>
  obtain⟨k,v,hk,rfl,⟨S,hO,hL⟩,hA,hK⟩:=hrel;obtain⟨p,c,hv,_⟩:=hO.val;rw[List.length_take_of_le hk]at hv;subst hv;have HO:=q8 hO;have HL:=q8 hL;have HK:=q8 hK;have HA1:=q8 hA;have hsz:=hK.size;have HBw:Hid (Below w.heap.size w wr):=HB0.out.trans (hK.below bO (fun _ e=>by omega));clear hO hL hK hA
  by_cases hlt:k<u.globals.length
  ·obtain⟨bp,op,cs,hp,_,hc,b0,rfl,b3,b4,b5⟩:=HGs.out.get hlt;subst hp;obtain⟨qi,di,rfl,hq0,_,hql,hqs⟩:=b5;have hc0:=hc 0 bO;have hbp:=q9 hc0;have c0:=(HBw.out.cell (p:=(J bp _)) hbp).trans hc0;have c1:=(HBw.out.cell (p:=(J bp _)) hbp).trans (hc 1 bO);have c2:=(HBw.out.cell (p:=(J bp _)) hbp).trans (hc 2 bO);simp only[zB,zD,yJ]at c0 c1 c2;have HQ:=q8 (zh hq0 (zh hql (zh hqs (zh b3 b4))));clear hc hc0 b3 b4 hq0 hql hqs
   go_wp2_with fail
   refine(kJ u.globals[k].init qi di _ (HQ.out.2.2.1.mono (HBw.out.trans bZ) bO fun _ _ g=>g) HQ.out.1 HQ.out.2.1).mono ?_;rintro e w5 ⟨p',c',rfl,⟨S2,hS2,hL2⟩,hb5⟩;have hr5:Below wr.heap.size wr w5:=yo bZ (hb5.mono bV);have hu:=qg hb5 (k:=wr.heap.size) bV (qB wr _);obtain⟨hu0,hu1⟩:=blk hu;have zu:=(yL.1 hu).1;have hoz:=qd HA1.out;have hA5:=qg hr5 (k:=w.heap.size+1+1) hoz HA1.out;have ho0:w5.cell? (J (w.heap.size+1+1) 0)=some (.slice p k c):=(blk hA5).1 0;have hof:=(blk hA5).2;have zo:=qd hA5;have HA5:=q8 hA5;have HU5:=q8 hu;have hL2':∀k,S2 k->wr.heap.size+1<=k:=fun k h=>by have:=hL2 k h;simpa using this
   have HS2:=q8 hS2;have HL2:=q8 hL2';have HR5:=q8 hr5;have hgM:=hr5.size;have hne:w.heap.size+1+1≠wr.heap.size:=(by omega);clear hb5 hr5 hu hS2 hL2 hL2' hA5;have hN5:¬ S wr.heap.size:=fun h=>by have:=HO.out.inb _ h;omega
   have hN2:¬ S2 wr.heap.size:=fun h=>by have:=HL2.out _ h;omega
   have HO5:=q8 ((HO.out.below xl HR5.out).set_alloc xl (n:=wr.heap.size) (j:=2) hN5 (.slice p' u.globals[k].init.length c') (.cells #[.string u.globals[k].name,Z u.globals[k].size,.slice p' u.globals[k].init.length c'] 61));have HS5:=q8 (HS2.out.set_alloc xk (n:=wr.heap.size) (j:=2) hN2 (.slice p' u.globals[k].init.length c') (.cells #[.string u.globals[k].name,Z u.globals[k].size,.slice p' u.globals[k].init.length c'] 61))
   have hA8:((w5.setCell (J wr.heap.size 2) (.slice p' u.globals[k].init.length c')).alloc (.cells #[.string u.globals[k].name,Z u.globals[k].size,.slice p' u.globals[k].init.length c'] 61)).heap[w.heap.size+1+1]?=some (.cells #[.slice p k c,.slice none 0 0] 25 (0,0)):=
    qh ((zJ w5 ⟨wr.heap.size,2,none⟩ _ (w.heap.size+1+1) hne).trans HA5.out)
   have HA8:=q8 hA8;clear hN5 hN2 hA8
   go_wp2_with (at_builtin;refine qH _ rfl _ _ 22 rfl 61 iG _ 3 48 Tryz.underlying22 k1 k2 k3 k4 rfl (by decide) xl rfl HO5.out ⟨w5.heap.size,0,none⟩ 1 [.string u.globals[k].name,Z u.globals[k].size,.slice p' u.globals[k].init.length c'] u.globals[k] rfl rfl ?hn ?ho (T:=S2) ⟨_,rfl,HQ.out.2.2.2.1,HQ.out.2.2.2.2,HS5.out⟩ ?ha ?ht ?hm ?hb ?_)
   case hn=>exact zW _ _ _ (by simp[World.setCell])
   case ho=>intro u hu;simp only[yC,yG,yl]at hu;rcases hu with rfl|rfl|rfl<;>rfl
   case ha=>exact fun k h1 h2=>by have:=HO.out.inb k h1;have:=HL2.out k h2;omega
   case ht=>exact HS2.out.sl.inb.set_alloc _ _ _
   case hm=>unfold maxLen;simp;omega
   case hb=>simp;omega
   intro v2 w8 ⟨S',hO8,hsub,hK8⟩;obtain⟨pv,cv,hv2,_⟩:=hO8.val;have hv3:v2 = .slice pv (k+1) cv:=(by rw[hv2];congr 1;simp;omega);clear hv2;subst hv3;have hSn:∀i,i<W0.heap.size->¬ S i:=fun i hi h=>by have:=HL.out i h;omega
   have hA9:=(hK8.block (w.heap.size+1+1) (qd HA8.out) (hSn _ bO)).trans HA8.out;have ho0:w8.cell? (J (w.heap.size+1+1) 0)=some (.slice p k c):=(blk hA9).1 0;have hof:=(blk hA9).2;have zo:=qd hA9
   have hrel:(∃S,SlO 61 3 GloO (w8.setCell (J (w.heap.size+1+1) 0) (.slice pv (k+1) cv)) (.slice pv (k+1) cv) (u.globals.take (k+1)) S/\LoB W0.heap.size S)/\(w8.setCell (J (w.heap.size+1+1) 0) (.slice pv (k+1) cv)).heap[w.heap.size+1+1]?=some (.cells #[.slice pv (k+1) cv,.slice none 0 0] 25 (0,0))/\Kept (fun k=>k=w.heap.size+1+1) W0 (w8.setCell (J (w.heap.size+1+1) 0) (.slice pv (k+1) cv)):=by
    have hlo:LoB W0.heap.size S':=fun i hi=>by
     rcases hsub i hi with h|h|h
     ·exact HL.out i h
     ·have:=HL2.out i h;omega
     simp[World.setCell]at h;omega
    refine⟨⟨S',?_,hlo⟩,?_,?_⟩
    ·have hO9:SlO 61 3 GloO w8 (.slice pv (k+1) cv) (u.globals.take (k+1)) S':=by first|exact hO8|(rw[yA hlt];exact hO8)
     exact hO9.loc xl (fun i hi=>zJ _ _ _ _ (fun e=>by have:=hlo i hi;have e2:i=w.heap.size+1+1:=e;omega)) (by simp[World.setCell])
    ·rw[qj hA9 0 _];rfl
    have kA:Kept (fun k=>k=w.heap.size+1+1) W0 ((w5.setCell (J wr.heap.size 2) (.slice p' u.globals[k].init.length c')).alloc (.cells #[.string u.globals[k].name,Z u.globals[k].size,.slice p' u.globals[k].init.length c'] 61)):=HK.out.trans (Kept.of_below (S:=fun _=>False) ((HR5.out.setCell bV _).alloc (by simp[World.setCell];omega) _)) (fun _ _ h=>h.elim);exact(kA.trans hK8 (fun i hi h=>absurd h (hSn i hi))).setCell rfl _
   have ha7:=q8 hrel;clear hA9 hO8 hsub hK8 hrel
   go_wp2_with fail
   exact⟨⟨k+1,.slice pv (k+1) cv,by omega,by go_num,ha7.out.1,ha7.out.2.1,ha7.out.2.2⟩,by simp[intOf];omega⟩
  obtain rfl:k=u.globals.length:=by omega
  rw[yP]at HO;obtain⟨W1,hW1⟩:=nZ wr;obtain⟨S1,hS1⟩:=nZ S;rw[←hW1];rw[←hW1,←hS1]at HO;rw[←hW1]at HK HA1 hsz HBw;rw[←hS1]at HL;have HOg:=q8 HO.out;have HLg:=q8 HL.out;have HK1:=q8 HK.out;have HB1:=q8 HBw.out;have HA2:=q8 HA1.out;have hA:=(HK1.out.block w.heap.size bO bO).trans HA.out;have k1c:W1.cell? (J w.heap.size 1)=some (.slice q2 u.funcs.length e2):=(blk hA).1 1;have zz1:w.heap.size<W1.heap.size:=by omega
  clear HO HL HK HBw HA1 hW1 hS1 hA
  go_wp2_with fail
  obtain⟨vg,hvg⟩:=nZ (Value.slice p u.globals.length c)
  go_loopw [30] (fun i wr=>∃(k:Nat) (v:Value),k<=u.funcs.length/\i=Z k/\(∃S,SlO 38 4 FunO wr v (u.funcs.take k) S/\LoB W1.heap.size S)/\wr.heap[w.heap.size+1+1]?=some (.cells #[vg,v] 25 (0,0))/\Kept (fun k=>k=w.heap.size+1+1) W1 wr) (fun i _=>u.funcs.length - (intOf i).toNat)
  case atStart=>exact⟨0,.slice none 0 0,by omega,rfl,⟨fun _=>False,SlO.nil _ _ _ _ (fun _ h=>h.elim),fun _ h=>h.elim⟩,by rw[hvg];exact HA2.out,Kept.refl _ _⟩
  case round=>
   obtain⟨k,v,hk,rfl,⟨S,hO,hL⟩,hA,hK⟩:=hrel;obtain⟨pf,cf,hv,_⟩:=hO.val;rw[List.length_take_of_le hk]at hv;subst hv;have HO:=q8 hO;have HL:=q8 hL;have HK:=q8 hK;have HA1:=q8 hA;have hsz1:=hK.size;have HBw:Hid (Below w.heap.size w wr):=HB1.out.trans (hK.below bO (fun _ e=>by omega));clear hO hL hK hA
   by_cases hlt:k<u.funcs.length
   rotate_left
   ·obtain rfl:k=u.funcs.length:=(by omega);rw[yP]at HO;subst hvg;have r0:wr.cell? (J (w.heap.size+1+1) 0)=some (.slice p u.globals.length c):=(blk HA1.out).1 0;have r1:wr.cell? (J (w.heap.size+1+1) 1)=some (.slice pf u.funcs.length cf):=(blk HA1.out).1 1;have hZ:=(HK.out.block (w.heap.size+1) bO bO).trans ((HK1.out.block (w.heap.size+1) bO bO).trans HZ.out);have rz0:wr.cell? (J (w.heap.size+1) 0)=some (.slice none 0 0):=(blk hZ).1 0;have rz1:wr.cell? (J (w.heap.size+1) 1)=some (.slice none 0 0):=(blk hZ).1 1;have rf:=(blk hZ).2;have hzl:=qd hZ
    go_wp2_with fail
    obtain⟨WF,hWF⟩:=nZ ((wr.setCell (J (w.heap.size+1) 0) (.slice p u.globals.length c)).setCell (J (w.heap.size+1) 1) (.slice pf u.funcs.length cf));rw[←hWF]
    have hF1:WF.heap[w.heap.size+1]?=some (.cells #[.slice p u.globals.length c,.slice pf u.funcs.length cf] 25 (0,0)):=by
     rw[hWF,qj (qj hZ 0 _) 1 _];rfl
    have hFo:∀k,k≠w.heap.size+1->WF.heap[k]?=wr.heap[k]?:=fun k h1=>by
     rw[hWF]
     repeat rw[zJ _ _ _ _ (by assumption)]
    have hFs:WF.heap.size=wr.heap.size:=by rw[hWF];simp[World.setCell]
    have hFb:Below w.heap.size w WF:=by
     rw[hWF];exact(HBw.out.setCell bV _).setCell bV _
    clear hWF;have k0:=(blk hF1).1 0;have k1':=(blk hF1).1 1;have hG:=(HOg.out.kept xl HK.out (fun i e hi=>by have:=HLg.out i hi;omega)).loc (w':=WF) xl (fun i hi=>hFo i (fun e=>by have:=HLg.out i hi;omega)) bO;have hF:=HO.out.loc (w':=WF) qK (fun i hi=>hFo i (fun e=>by have:=HL.out i hi;omega)) bO;refine zk (v:=.agg #[.slice p u.globals.length c,.slice pf u.funcs.length cf]) ?_ rfl ⟨⟨p,c,pf,cf,rfl,fun k=>S1 k\/S k,⟨_,_,S1,S,rfl,⟨hG,HBd.out.1⟩,⟨hF,HBd.out.2⟩,fun i h1 h2=>?_,fun _ h=>.inl h,fun _ h=>.inr h⟩,fun i hi=>?_⟩,hFb⟩
    ·simp[results,Tryz.results17,go_sem,k0,k1']
    ·have:=HOg.out.inb i h1;have:=HL.out i h2;omega
    rcases hi with h|h
    ·have:=HLg.out i h;omega
    have:=HL.out i h;omega
   obtain⟨bp,op,cs,hp,_,hc,b0,rfl,b3,b4,b5,b6⟩:=HFs.out.get hlt;subst hp;obtain⟨q3,d3,rfl,_⟩:=b6.outC;have hc0:=hc 0 bO;have hbp:=q9 hc0;have c0:=(HBw.out.cell (p:=(J bp _)) hbp).trans hc0;have c1:=(HBw.out.cell (p:=(J bp _)) hbp).trans (hc 1 bO);have c2:=(HBw.out.cell (p:=(J bp _)) hbp).trans (hc 2 bO);have c3:=(HBw.out.cell (p:=(J bp _)) hbp).trans (hc 3 bO);simp only[zB,zD,yJ]at c0 c1 c2 c3;have HR:=q8 (zh b3 (zh b4 (zh b5 b6)));clear hc hc0 b3 b4 b5 b6
   go_wp2_with fail
   obtain⟨w1,hw1⟩:=nZ (wr.alloc (.cells #[.string u.funcs[k].name,Z u.funcs[k].params,Z u.funcs[k].regs,.slice q3 u.funcs[k].blocks.length d3] 38));rw[←hw1];have hz1:w1.heap.size=wr.heap.size+1:=(by rw[hw1];simp);have HBr:Hid (Below wr.heap.size wr w1):=q8 (by rw[hw1];exact bZ);have HX1:Hid (w1.heap[wr.heap.size]?=some (.cells #[.string u.funcs[k].name,Z u.funcs[k].params,Z u.funcs[k].regs,.slice q3 u.funcs[k].blocks.length d3] 38 (0,0))):=q8 (by rw[hw1];exact qr rfl);clear hw1;have hzA:w.heap.size+1+1<wr.heap.size:=(by omega);obtain⟨Sp,hSp⟩:∃Sp:World->Prop,Sp=fun w'=>w'.heap[w.heap.size+1+1]?=some (.cells #[vg,.slice pf k cf] 25 (0,0))/\w'.heap[wr.heap.size]?=some (.cells #[.string u.funcs[k].name,Z u.funcs[k].params,Z u.funcs[k].regs,.slice q3 u.funcs[k].blocks.length d3] 38 (0,0)):=⟨_,rfl⟩
   have ha6:∀w',Sp w'->(w'.cell? (J (w.heap.size+1+1) 1)=some (.slice pf k cf))/\(∀j,w'.cell? (J wr.heap.size j)=(#[.string u.funcs[k].name,Z u.funcs[k].params,Z u.funcs[k].regs,.slice q3 u.funcs[k].blocks.length d3]:Array Value)[j]?)/\w.heap.size+1+1<w'.heap.size/\wr.heap.size<w'.heap.size/\w'.frozen? (J (w.heap.size+1+1) 1)=false:=fun w' h=>by
    rw[hSp]at h;exact⟨(blk h.1).1 1,(blk h.2).1,qd h.1,qd h.2,(blk h.1).2 1⟩
   have hSk:∀{U:Blks} {x y:World},Sp x->Kept U x y->¬ U (w.heap.size+1+1)->¬ U wr.heap.size->Sp y:=fun {U x y} h hk n1 n2=>by
    rw[hSp]at h ⊢;exact⟨(hk.block _ (qd h.1) n1).trans h.1,(hk.block _ (qd h.2) n2).trans h.2⟩
   have hbI:Sp w1:=by
    rw[hSp];exact⟨(HBr.out.block _ hzA).trans HA1.out,HX1.out⟩
   have hS1:Sp w1.drew:=by
    rw[hSp]at hbI ⊢;exact hbI
   refine qA (S:=Sp) bK 7 ?_;refine tkZ 0 34 (.pointer (some (J (w.heap.size+1+1) 1))) rfl rfl hS1 (fun w' h=>?_) ?_
   ·obtain⟨h1,h2,h3,h4,h5⟩:=ha6 w' h;go_simp
   refine tkZ 1 35 (.slice pf k cf) rfl rfl hS1 (fun w' h=>?_) ?_
   ·obtain⟨h1,h2,h3,h4,h5⟩:=ha6 w' h;go_simp
   refine tkZ 2 36 (.agg #[.string u.funcs[k].name,Z u.funcs[k].params,Z u.funcs[k].regs,.slice q3 u.funcs[k].blocks.length d3]) rfl rfl hS1 (fun w' h=>?_) ?_
   ·obtain⟨h1,h2,h3,h4,h5⟩:=ha6 w' h;have g0:=h2 0;have g1:=h2 1;have g2:=h2 2;have g3:=h2 3;go_simp
   have hw1:Below w.heap.size w w1.drew:=(HBw.out.trans (HBr.out.mono bO)).drew;refine qm (i:=3) bK (qt 37 rfl rfl rfl (by go_simp) (VI u.funcs[k] q3 d3 w1.drew HR.out.1 HR.out.2.1 HR.out.2.2.1 (HR.out.2.2.2.mono hw1 bO fun _ _ g=>g.below hw1)) ?_);rintro e w2 ⟨⟨p1,m1,rfl,T,hT,hTl⟩,hb2⟩
   have hTi:InB w2 T:=by
    obtain⟨_,_,_,_,_,h⟩:=hT;exact h.sl.inb
   have hb2:Below w1.heap.size w1 w2:=(zI _ w1).drew.trans hb2;have hTl:∀k,T k->w1.heap.size<=k:=hTl;have hS2:Sp w2:=hSk (x:=w1) hbI (Kept.of_below (S:=fun _=>False) hb2) (fun h=>h) (fun h=>h);refine⟨_,rfl,hS2,?_⟩;have hO2:=HO.out.below qK (HBr.out.trans (hb2.mono bO));have hz2:=hb2.size;have HO2:=q8 hO2;have HT2:=q8 hT;have HTl:=q8 hTl;have HTi:=q8 hTi;have HB2:=q8 hb2;clear hT hTl hTi hb2 hO2;have hS3:Sp (w2.alloc (.cells #[.string u.funcs[k].name,Z u.funcs[k].params,Z u.funcs[k].regs,.slice p1 u.funcs[k].blocks.length m1] 38)):=hSk hS2 ((Kept.refl (fun _=>False) _).alloc _) (fun h=>h) (fun h=>h);refine qm (i:=4) bK (qC 38 (.slice (some (J w2.heap.size 0)) 1 1) (w2.alloc (.cells #[.string u.funcs[k].name,Z u.funcs[k].params,Z u.funcs[k].regs,.slice p1 u.funcs[k].blocks.length m1] 38)) rfl rfl rfl (by go_simp) hS3 ?_);refine qm (i:=5) bK (v7 39 _ _ 23 rfl rfl rfl rfl 38 iF _ 4 56 Tryz.underlying23 l1 l2 l3 l4 rfl (by decide) qK rfl (HO2.out.below qK ((zI _ _).alloc (zK _) _)) ⟨w2.heap.size,0,none⟩ 1 [.string u.funcs[k].name,Z u.funcs[k].params,Z u.funcs[k].regs,.slice p1 u.funcs[k].blocks.length m1] u.funcs[k] rfl rfl ?hn ?ho (T:=T) ?hy ?ha ?ht ?hm ?hb ?_)
   case hn=>exact zW _ _ _ rfl
   case ho=>intro u hu;simp only[yC,yG,yl]at hu;rcases hu with rfl|rfl|rfl|rfl<;>rfl
   case hy=>exact qK _ _ _ _ _ HT2.out (fun k hk=>xG _ _ k (HTi.out k hk)) bV
   case ha=>exact fun k h1 h2=>by have:=HO.out.inb k h1;have:=HTl.out k h2;omega
   case ht=>exact HTi.out.mono bV
   case hm=>unfold maxLen;simp;omega
   case hb=>simp;omega
   intro v2 w4 ⟨S',hO4,hsub,hK4⟩;obtain⟨pv,cv,hv2,_⟩:=hO4.val;have hv3:v2 = .slice pv (k+1) cv:=(by rw[hv2];congr 1;simp;omega);clear hv2;subst hv3;have hSn:∀i,i<W1.heap.size->¬ S i:=fun i hi h=>by have:=HL.out i h;omega
   have hjS:¬ S wr.heap.size:=fun h=>by have:=HO.out.inb _ h;omega
   have hS4:Sp w4:=hSk hS3 hK4 (hSn _ bO) hjS;refine⟨hS4,?_⟩;refine tkZ 6 40 (.pointer (some (J (w.heap.size+1+1) 1))) rfl rfl hS4 (fun w' h=>?_) ?_
   ·obtain⟨h1,h2,h3,h4,h5⟩:=ha6 w' h;go_simp
   obtain⟨h1,h2,h3,h4,h5⟩:=ha6 w4 hS4;clear h2;refine qm (i:=7) bK (qz (w4.setCell (J (w.heap.size+1+1) 1) (.slice pv (k+1) cv)) rfl rfl rfl (by go_simp) (fun h=>absurd rfl h) (qL bK ?_ _));show Exit.inBlock 3 _ Exit.normal _ _
   have hrel:(∃S,SlO 38 4 FunO (w4.setCell (J (w.heap.size+1+1) 1) (.slice pv (k+1) cv)) (.slice pv (k+1) cv) (u.funcs.take (k+1)) S/\LoB W1.heap.size S)/\(w4.setCell (J (w.heap.size+1+1) 1) (.slice pv (k+1) cv)).heap[w.heap.size+1+1]?=some (.cells #[vg,.slice pv (k+1) cv] 25 (0,0))/\Kept (fun k=>k=w.heap.size+1+1) W1 (w4.setCell (J (w.heap.size+1+1) 1) (.slice pv (k+1) cv)):=by
    have hlo:LoB W1.heap.size S':=fun i hi=>by
     rcases hsub i hi with h|h|h
     ·exact HL.out i h
     ·have:=HTl.out i h;omega
     simp at h;omega
    have e4:w4.heap[w.heap.size+1+1]?=some (.cells #[vg,.slice pf k cf] 25 (0,0)):=by
     rw[hSp]at hS4;exact hS4.1
    refine⟨⟨S',?_,hlo⟩,?_,?_⟩
    ·have hO9:SlO 38 4 FunO w4 (.slice pv (k+1) cv) (u.funcs.take (k+1)) S':=by first|exact hO4|(rw[yA hlt];exact hO4)
     exact hO9.loc qK (fun i hi=>zJ _ _ _ _ (fun e=>by have:=hlo i hi;have e2:i=w.heap.size+1+1:=e;omega)) (by simp[World.setCell])
    ·rw[qj e4 1 _];rfl
    have kA:Kept (fun k=>k=w.heap.size+1+1) W1 w2:=HK.out.trans (Kept.of_below (S:=fun _=>False) (HBr.out.trans (HB2.out.mono bO))) (fun _ _ h=>h.elim);exact((kA.alloc _).trans hK4 (fun i hi h=>absurd h (hSn i hi))).setCell rfl _
   have ha7:=q8 hrel;clear hrel hS4 h1 h3 h4 h5 hO4 hsub hK4 hS3 hS2
   go_wp2_with fail
   exact⟨⟨k+1,.slice pv (k+1) cv,by omega,by go_num,ha7.out.1,ha7.out.2.1,ha7.out.2.2⟩,by simp[intOf];omega⟩
end Go.Proofs.YtgjjhadbjmcnpaaGreatDoor
namespace Go.Proofs.YtgjjhadbjmcnpaaGreatDoor
open Go.RowKit

theorem SlW.cell {α:Type} {e:TypeId} {size:Nat} {R:ElemO α} {w:World} {v:Value} {xs:List α} {S:Blks} {cs:Nat->List Value} {T:Nat->Blks} (h:SlW e size R w v xs S cs T) {i:Nat} (hi:i<xs.length):∃g c,v = .slice (some (J g 0)) xs.length c/\S g/\g<w.heap.size/\∀j,j<size->w.cell? (J g (i*size+j))=(cs i)[j]?:=by
 rcases h.own.2 with⟨_,h2⟩|⟨g,cap,cur,hv,_,hg,_,_,_,htk⟩
 ·omega
 refine⟨g,cap,hv,h.blk g (by rw[hv];rfl),(yL.1 hg).1,fun j hj=>?_⟩;rw[cell_of_row w g _ cur e (0,0) hg]
 have hlt:i*size+j<xs.length*size:=by
  have:(i+1)*size<=xs.length*size:=ye _ hi;rw[Nat.add_mul]at this;omega
 rw[←xZ xs.length h.len i j hi hj,←htk,List.getElem?_take_of_lt hlt,xJ]

def Vq (b:BlkL) (l:List InsL):BlkL:={ b with list:=l }
def setI (f:FunL) (m j:Nat) (i:InsL):FunL:={ f with blocks:=f.blocks.modify m fun b=>Vq b (b.list.set j i) }
theorem Qo {f:FunL} {m j:Nat} {i:InsL} (hm:m<f.blocks.length):f.blocks.modify m (fun b=>Vq b (b.list.set j i))=f.blocks.set m (Vq f.blocks[m] (f.blocks[m].list.set j i)):=by
 refine yV bV fun k h1 h2=>?_;have h3:k<f.blocks.length:=by simpa using h1
 rw[List.getElem_modify,y8]
 split
 ·next e=>subst e;rfl
 rfl

theorem FunO.ins {w:World} {cs:List Value} {f:FunL} {T:Blks} (h:FunO w cs f T) {m j:Nat} (hm:m<f.blocks.length) (hj:j<f.blocks[m].list.length):∃bb cb lb c2 ci Ti,cs=[.string f.name,Z f.params,Z f.regs,.slice (some (J bb 0)) f.blocks.length cb]/\
  w.cell? (J bb (m*6+1))=some (.slice (some (J lb 0)) f.blocks[m].list.length c2)/\T bb/\T lb/\lb≠bb/\InsO w ci f.blocks[m].list[j] Ti/\¬ Ti lb/\¬ Ti bb/\(∀k,Ti k->T k)/\(∀jj,jj<8->w.cell? (J lb (j*8+jj))=ci[jj]?)/\ci.length=8/\(∀o,w.frozen? (J lb o)=false)/\(∃cur,w.heap[lb]?=some (.cells cur 51 (0,0)))/\
  ∀(w':World) (ci':List Value) (i':InsL) (Ti':Blks),RowPut w w' 51 lb (j*8) 8 ci'->ci'.length=8->(∀u∈ci',u.oneCell'=true)->w.heap.size<=w'.heap.size->(∀k,T k->¬ Ti k->k≠lb->w'.heap[k]?=w.heap[k]?)->
   InsO w' ci' i' Ti'->(∀k,Ti' k->(Ti k\/w.heap.size<=k)/\k<w'.heap.size)->FunO w' cs (setI f m j i') (fun k=>T k\/Ti' k):=by
 obtain⟨v,hcs,hnm,i1,i2,hB⟩:=h;obtain⟨bb,cb,cB,TB,hv,hbs,hTb,hlB,hed,hnb,hTB,hcB,hfB,⟨curB,hcG⟩,hput⟩:=hB.sl.focus qM bO hm;obtain⟨v1,v2,v3,S1,S2,S3,rfl,j1,j2,h3,h4,h5,a1,a2,a3,g1,g2,g3⟩:=hed;obtain⟨lb,c2,ci,Ti,hv2,hls,hSl,hli,hI,hnl,hTi,hci,hfi,hay,hjT⟩:=h4.sl.focus qT bO hj;subst hv hv2;have hne:lb≠bb:=fun e=>hnb (g2 _ (by rw[←e];exact hSl));refine⟨bb,cb,lb,c2,ci,Ti,hcs,(hcB 1 bO),hTb,hTB _ (g2 _ hSl),hne,hI,hnl,fun h=>hnb (g2 _ (hTi _ h)),fun k hk=>hTB _ (g2 _ (hTi _ hk)),hci,hli,hfi,hay,?_⟩;intro w' ci' i' Ti' hp hl' h1' hs hk hI' hT';have e1:∀k,T k->¬ Ti k->k≠lb->w'.heap[k]?=w.heap[k]?:=hk;have hL:=hjT w' ci' i' Ti' hp hl' h1' hs (fun k hk1 hk2 hk3=>e1 k (hTB _ (g2 _ hk1)) hk2 hk3) hI' hT';have hlen:(f.blocks[m].list.set j i').length=f.blocks[m].list.length:=by simp
 have h1n:∀k,S1 k->w'.heap[k]?=w.heap[k]?:=fun k hk=>e1 k (hTB _ (g1 _ hk)) (fun h=>a1 _ hk (hTi _ h)) (fun e=>a1 _ hk (by rw[e];exact hSl));have h3n:∀k,S3 k->w'.heap[k]?=w.heap[k]?:=fun k hk=>e1 k (hTB _ (g3 _ hk)) (fun h=>a3 _ (hTi _ h) hk) (fun e=>a3 _ hSl (by rw[←e];exact hk));have hr9:w'.heap[bb]?=w.heap[bb]?:=e1 bb hTb (fun h=>hnb (g2 _ (hTi _ h))) (fun e=>hne e.symm)
 have hB':BlkO w' [v1,.slice (some (J lb 0)) f.blocks[m].list.length c2,Z f.blocks[m].fin.kind,.bool f.blocks[m].fin.onr,Z f.blocks[m].fin.onn,v3] (Vq f.blocks[m] (f.blocks[m].list.set j i')) (fun k=>TB k\/Ti' k):=by
  refine⟨v1,_,v3,S1,fun k=>S2 k\/Ti' k,S3,rfl,j1,j2,h3.loc x8 (fun _ g=>g) h1n hs,⟨?_,by show(f.blocks[m].list.set j i').length*80<=_;rw[hlen];exact h4.bd⟩,h5.loc xk (fun _ g=>g) h3n hs,fun k x y=>?_,a2,fun k x y=>?_,fun k x=>.inl (g1 k x),fun k x=>?_,fun k x=>.inl (g3 k x)⟩
  ·exact hL
  ·rcases y with y|y
   ·exact a1 k x y
   rcases (hT' k y).1 with z|z
   ·exact a1 k x (hTi _ z)
   have:=h3.sl.inb k x;omega
  ·rcases x with x|x
   ·exact a3 k x y
   rcases (hT' k x).1 with z|z
   ·exact a3 k (hTi _ z) y
   have:=h5.sl.inb k y;omega
  rcases x with x|x
  ·exact .inl (g2 k x)
  exact .inr x
 have hjU:(f.blocks.set m (Vq f.blocks[m] (f.blocks[m].list.set j i'))).length=f.blocks.length:=by simp
 have hF:=hput w' _ (Vq f.blocks[m] (f.blocks[m].list.set j i')) (fun k=>TB k\/Ti' k) (RowPut.same hcG hr9 hcB) hlB (fun u hu=>?_) hs (fun k hk1 hk2 hk3=>e1 k hk1 (fun h=>hk2 (g2 _ (hTi _ h))) (fun e=>hk2 (by rw[e];exact g2 _ hSl))) hB' (fun k hk=>?_)
 ·refine⟨.slice (some (J bb 0)) f.blocks.length cb,hcs,hnm,i1,i2,⟨?_,?_⟩⟩
  ·show SlO _ _ _ _ _ (f.blocks.modify m _) _;rw[Qo hm]
   exact hF.grow (fun k hk=>hk.elim .inl fun x=>x.elim (fun x=>.inl (hTB _ x)) .inr) (fun k hk=>by
    rcases hk with x|x
    ·exact xB (hB.sl.inb k x) hs
    exact(hT' k x).2)
  show(f.blocks.modify m _).length*96<=_;rw[Qo hm,hjU];exact hB.bd
 ·obtain⟨q1,d1,rfl,_⟩:=h3.sl.val;obtain⟨q3,d3,rfl,_⟩:=h5.sl.val;simp only[yC,yG,yl]at hu;rcases hu with rfl|rfl|rfl|rfl|rfl|rfl<;>rfl
 rcases hk with x|x
 ·exact⟨.inl x,xB (hB.sl.inb k (hTB k x)) hs⟩
 refine⟨?_,(hT' k x).2⟩;rcases (hT' k x).1 with z|z
 ·exact .inl (g2 _ (hTi _ z))
 exact .inr z
end Go.Proofs.YtgjjhadbjmcnpaaGreatDoor
namespace Go.Proofs.YtgjjhadbjmcnpaaGreatDoor

def isV (r:Int) (v:Bool×Int):Bool:=v.1&&v.2 == r
def tkI (r:Int) (x:InsL):Bool:=isV r (x.ar,x.an) || (isV r (x.br,x.bn) || x.args.any (isV r))
def tkP (r:Int) (p:PhiL):Bool:=p.src.any (isV r)
def tkB (r:Int) (b:BlkL):Bool:=isV r (b.fin.onr,b.fin.onn) || b.phis.any (tkP r)
def tkF (r:Int) (f:FunL):Bool:=(f.blocks.any fun b=>b.list.any (tkI r)) || f.blocks.any (tkB r)

def toW (g:Int->Int) (v:Bool×Int):Bool×Int:=if v.1=true then(true,g v.2)else v
def toI (g:Int->Int) (x:InsL):InsL:={ x with dst:=if 0<=x.dst then g x.dst else x.dst,an:=(toW g (x.ar,x.an)).2,bn:=(toW g (x.br,x.bn)).2,args:=x.args.map (toW g) }
def toP (g:Int->Int) (p:PhiL):PhiL:={ dst:=g p.dst,src:=p.src.map (toW g) }
def toE (g:Int->Int) (x:EndL):EndL:={ x with onn:=(toW g (x.onr,x.onn)).2 }
def toB (g:Int->Int) (b:BlkL):BlkL:={ phis:=b.phis.map (toP g),list:=b.list.map (toI g),fin:=toE g b.fin }
def toF (g:Int->Int) (f:FunL):FunL:={ f with blocks:=f.blocks.map (toB g) }

def qN (p last r:Int):Int:=if r=p then last else if p<r/\r<=last then r - 1 else r
def kd (k:Int) (p:Nat) (x:InsL):InsL:=if x.op=20/\x.fn=k then { x with args:=x.args.eraseIdx p } else x
def kK (k:Int) (p:Nat) (f:FunL):FunL:={ f with blocks:=f.blocks.map fun b=>{ b with list:=b.list.map (kd k p) } }
def vW (p:Nat) (f:FunL):FunL:={ toF (qN p (f.params - 1)) f with params:=f.params - 1 }
def zC (k p:Nat) (xs:List FunL):List FunL:=(xs.modify k (vW p)).map (kK k p)

def JL (k:Int) (p:Nat) (s:Option (Option Int)) (x:InsL):Option (Option Int):=
 match s with
 | none=>none
 | some h=>if x.op=20/\x.fn=k then
   let v:=x.args.getD p (false,0)
   if v.1=true\/(h.isSome=true/\h≠some v.2)then none else some (some v.2)
  else some h
def jy (k:Int) (p:Nat) (xs:List FunL):Option Int:=((xs.flatMap fun f=>f.blocks.flatMap fun b=>b.list).foldl (JL k p) (some none)).join

theorem vh (g:Int->Int) (f:FunL):(toF g f).blocks.length=f.blocks.length:=by simp[toF]
theorem delF_len (k:Int) (p:Nat) (f:FunL):(kK k p f).blocks.length=f.blocks.length:=by simp[kK]
theorem qQ (k p:Nat) (xs:List FunL):(zC k p xs).length=xs.length:=by simp[zC]
theorem j5 {k p:Nat} {xs:List FunL} {i:Nat} (h:i<(zC k p xs).length):(zC k p xs)[i]=kK k p (if k=i then vW p (xs[i]'(by rw[←qQ k p xs];exact h))else xs[i]'(by rw[←qQ k p xs];exact h)):=by
 simp[zC,List.getElem_modify]
structure CallN (xs:List FunL):Prop where
 blk:∀f∈xs,0<f.blocks.length
 par:∀f∈xs,0<=f.params/\f.params<=6
 call:∀f∈xs,∀b∈f.blocks,∀x∈b.list,x.op=20->∀k:Nat,x.fn=k->∃h:k<xs.length,(x.args.length:Int)=xs[k].params

def XQ (xs:List FunL) (k p:Nat):Prop:=∀k' (_:k'<xs.length) (p':Nat),(p':Int)<xs[k'].params->(k'<k\/(k'=k/\p'<p))->tkF p' xs[k']=true
inductive Dr (t:List FunL):List FunL->Prop
 | start:Dr t t
 | step {xs:List FunL} {k p:Nat} (h:Dr t xs) (hk:k<xs.length) (hp:(p:Int)<xs[k].params) (ht:tkF p xs[k]=false) (hf:XQ xs k p):Dr t (zC k p xs)
def Taken (xs:List FunL):Prop:=XQ xs xs.length 0
def j8 (d n:Int):InsL:={ op:=1,dst:=d,ar:=false,an:=n,br:=false,bn:=0,fn:=0,args:=[] }
def zF (hd:List InsL) (f:FunL):FunL:={ f with blocks:=f.blocks.modify 0 fun b=>{ b with list:=hd++b.list } }
inductive Al (t:List FunL):Nat->Nat->List FunL->List InsL->Prop
 | start:Al t 0 0 t []
 | skip {k p:Nat} {xs:List FunL} {hd:List InsL} (h:Al t k p xs hd) (hk:k<xs.length) (hp:(p:Int)<xs[k].params) (ha:jy k p xs=none):Al t k (p+1) xs hd
 | drop {k p:Nat} {xs:List FunL} {hd:List InsL} {n:Int} (h:Al t k p xs hd) (hk:k<xs.length) (hp:(p:Int)<xs[k].params) (ha:jy k p xs=some n):Al t k p (zC k p xs) (hd++[j8 (xs[k].params - 1) n])
 | next {k p:Nat} {xs:List FunL} {hd:List InsL} (h:Al t k p xs hd) (hk:k<xs.length) (hp:¬ (p:Int)<xs[k].params):Al t (k+1) 0 (xs.modify k (zF hd)) []

def Z7 (xs:List FunL):Nat:=(xs.map fun f=>f.params.toNat).sum
theorem headF_nil (f:FunL):zF [] f=f:=by
 unfold zF;have e:(fun b:BlkL=>{ b with list:=[]++b.list })=id:=by funext b;rfl
 rw[e,List.modify_id]
theorem Ku (k:Int) (p:Nat) (f:FunL):(kK k p f).params=f.params:=rfl
theorem jk {k p:Nat} {xs:List FunL} {i:Nat} (h:i<(zC k p xs).length):(zC k p xs)[i].params=if k=i then(xs[i]'(by rw[←qQ k p xs];exact h)).params - 1 else(xs[i]'(by rw[←qQ k p xs];exact h)).params:=by
 rw[j5 h,Ku]
 split<;>rfl
theorem Zu {xs:List FunL} {k:Nat} {h:FunL->FunL} (hk:k<xs.length) (hp:(h xs[k]).params.toNat<xs[k].params.toNat):Z7 (xs.modify k h)<Z7 xs:=by
 unfold Z7
 induction xs generalizing k with
 | nil=>simp at hk
 | cons a xs ih=>
  cases k with
  | zero=>simp at hp ⊢;exact hp
  | succ k=>
   have:=ih (k:=k) (by simpa using hk) (by simpa using hp);simpa using this
theorem psum_delF (k:Int) (p:Nat) (xs:List FunL):Z7 (xs.map (kK k p))=Z7 xs:=by
 unfold Z7;rw[yy];rfl
theorem jr {k p:Nat} {xs:List FunL} (hk:k<xs.length) (hp:(p:Int)<xs[k].params):Z7 (zC k p xs)<Z7 xs:=by
 unfold zC;rw[psum_delF];exact Zu hk (by show(xs[k].params - 1).toNat<_;omega)
theorem CallN.drop {xs:List FunL} (h:CallN xs) {k p:Nat} (hk:k<xs.length) (hp:(p:Int)<xs[k].params):CallN (zC k p xs):=by
 have hat:∀f∈zC k p xs,∃i,∃hi:i<xs.length,f=kK k p (if k=i then vW p xs[i]else xs[i]):=fun f hf=>by
  obtain⟨i,hi,rfl⟩:=yp.1 hf;exact⟨i,by rw[←qQ k p xs];exact hi,j5 hi⟩
 refine⟨fun f hf=>?_,fun f hf=>?_,fun f hf b hb x hx ho k' hk'=>?_⟩
 ·obtain⟨i,hi,rfl⟩:=hat f hf;rw[delF_len]
  split
  ·show 0<(toF _ _).blocks.length;rw[vh];exact h.blk _ (zP hi)
  exact h.blk _ (zP hi)
 ·obtain⟨i,hi,rfl⟩:=hat f hf;rw[Ku];have h1:=h.par _ (zP hi)
  split
  ·next e=>subst e;show 0<=xs[k].params - 1/\xs[k].params - 1<=6;omega
  exact h1
 obtain⟨i,hi,rfl⟩:=hat f hf;obtain⟨b',hb',rfl⟩:=yD.1 hb;obtain⟨x',hx',rfl⟩:=yD.1 hx
 have key:∃x0:InsL,(∃b0∈xs[i].blocks,x0∈b0.list)/\x0.op=x'.op/\x0.fn=x'.fn/\x0.args.length=x'.args.length:=by
  by_cases hki:k=i
  ·rw[zZ hki]at hb';obtain⟨b0,hb0,rfl⟩:=yD.1 hb';obtain⟨x0,hx0,rfl⟩:=yD.1 hx';exact⟨x0,⟨b0,hb0,hx0⟩,rfl,rfl,by simp[toI]⟩
  rw[zQ hki]at hb';exact⟨x',⟨b',hb',hx'⟩,rfl,rfl,rfl⟩
 obtain⟨x0,⟨b0,hb0,hx0⟩,e1,e2,e3⟩:=key
 have ho':x'.op=20:=by
  unfold kd at ho
  split at ho<;>exact ho
 have hf':x'.fn=k':=by
  unfold kd at hk'
  split at hk'<;>exact hk'
 obtain⟨hk2,hl⟩:=h.call _ (zP hi) b0 hb0 x0 hx0 (by rw[e1,ho']) k' (by rw[e2,hf']);refine⟨by rw[qQ];exact hk2,?_⟩;rw[jk (by rw[qQ];exact hk2)];unfold kd
 by_cases hkk:k=k'
 ·subst hkk;rw[zZ ⟨ho',hf'⟩,zZ rfl];show((x'.args.eraseIdx p).length:Int)=_;rw[List.length_eraseIdx_of_lt bO];omega
 rw[zQ (fun h=>hkk (by have:=h.2;omega)),zQ hkk,←e3];exact hl
theorem CallN.head {xs:List FunL} (h:CallN xs) {k:Nat} {hd:List InsL} (hh:∀x∈hd,x.op≠20):CallN (xs.modify k (zF hd)):=by
 have hat:∀f∈xs.modify k (zF hd),∃f0∈xs,f=f0\/f=zF hd f0:=fun f hf=>by
  obtain⟨i,hi,rfl⟩:=yp.1 hf;rw[List.getElem_modify];have hi2:i<xs.length:=by simpa using hi
  refine⟨xs[i],zP hi2,?_⟩
  split
  ·exact .inr rfl
  exact .inl rfl
 have ham:∀i (h:i<(xs.modify k (zF hd)).length),(xs.modify k (zF hd))[i].params=(xs[i]'(by simpa using h)).params:=fun i h=>by
  rw[List.getElem_modify]
  split<;>rfl
 refine⟨fun f hf=>?_,fun f hf=>?_,fun f hf b hb x hx ho k' hk'=>?_⟩
 ·obtain⟨f0,h0,rfl|rfl⟩:=hat f hf
  ·exact h.blk _ h0
  have:=h.blk _ h0;simpa[zF]using this
 ·obtain⟨f0,h0,rfl|rfl⟩:=hat f hf
  ·exact h.par _ h0
  exact(h.par f0 h0:0<=f0.params/\f0.params<=6)
 have key:∃f0∈xs,∃b0∈f0.blocks,x∈b0.list:=by
  obtain⟨f0,h0,rfl|rfl⟩:=hat f hf
  ·exact⟨_,h0,b,hb,hx⟩
  obtain⟨i,hi,rfl⟩:=yp.1 hb;simp only[zF]at hx hi;rw[List.getElem_modify]at hx;have hi2:i<f0.blocks.length:=by simpa using hi
  split at hx
  ·rcases yH.1 hx with hx|hx
   ·exact absurd ho (hh x hx)
   exact⟨f0,h0,f0.blocks[i],zP hi2,hx⟩
  exact⟨f0,h0,f0.blocks[i],zP hi2,hx⟩
 obtain⟨f0,h0,b0,hb0,hx0⟩:=key;obtain⟨hk2,hl⟩:=h.call f0 h0 b0 hb0 x hx0 ho k' hk';exact⟨by simpa using hk2,by rw[ham];exact hl⟩
theorem Dr.len {t xs:List FunL} (h:Dr t xs):xs.length=t.length:=by
 induction h with
 | start=>rfl
 | step _ _ _ _ _ ih=>rw[qQ,ih]
theorem Dr.callN {t xs:List FunL} (h:Dr t xs) (h0:CallN t):CallN xs:=by
 induction h with
 | start=>exact h0
 | step _ hk hp _ _ ih=>exact ih.drop hk hp
theorem Al.len {t xs:List FunL} {k p:Nat} {hd:List InsL} (h:Al t k p xs hd):xs.length=t.length:=by
 induction h with
 | start=>rfl
 | skip _ _ _ _ ih=>exact ih
 | drop _ _ _ _ ih=>rw[qQ,ih]
 | next _ _ _ ih=>simpa using ih
theorem Al.callN {t xs:List FunL} {k p:Nat} {hd:List InsL} (h:Al t k p xs hd) (h0:CallN t):CallN xs/\∀x∈hd,x.op≠20:=by
 induction h with
 | start=>exact⟨h0,fun x h=>by cases h⟩
 | skip _ _ _ _ ih=>exact ih
 | drop _ hk hp _ ih=>
  refine⟨ih.1.drop hk hp,fun x hx=>?_⟩;rcases yH.1 hx with hx|hx
  ·exact ih.2 x hx
  obtain rfl:=yI.1 hx;show(1:Int)≠20;omega
 | next _ _ _ ih=>exact⟨ih.1.head ih.2,fun x h=>by cases h⟩
theorem Al.head_len {t xs:List FunL} {k p:Nat} {hd:List InsL} (h:Al t k p xs hd) (h0:CallN t) (hk:k<xs.length):(hd.length:Int)+xs[k].params<=6:=by
 induction h with
 | start=>have:=h0.par _ (zP hk);simp;omega
 | skip _ _ _ _ ih=>exact ih hk
 | @drop k p xs hd n h hk' hp _ ih=>
  have:=ih hk';rw[jk,zZ rfl];simp only[yN,List.length_singleton];omega
 | @next k p xs hd h _ _ _=>
  have h1:=(h.callN h0).1;rw[List.getElem_modify];have h2:=h1.par _ (zP (by simpa using hk:k+1<xs.length))
  split
  ·omega
  simpa using h2.2
/-! how long lists are -/
def Small (B:Nat) (f:FunL):Prop:=∀b∈f.blocks,b.list.length<=B
theorem Small.drop {B p:Nat} {f:FunL} (h:Small B f):Small B (vW p f):=fun b hb=>by
 obtain⟨b',hb',rfl⟩:=yD.1 hb;show(b'.list.map _).length<=B;rw[yT];exact h b' hb'
theorem Small.del {B p:Nat} {k:Int} {f:FunL} (h:Small B f):Small B (kK k p f):=fun b hb=>by
 obtain⟨b',hb',rfl⟩:=yD.1 hb;show(b'.list.map _).length<=B;rw[yT];exact h b' hb'
theorem Zv {B k p:Nat} {xs:List FunL} {i:Nat} (h:i<(zC k p xs).length) (hs:Small B (xs[i]'(by rw[←qQ k p xs];exact h))):Small B (zC k p xs)[i]:=by
 rw[j5 h];refine Small.del ?_
 split
 ·exact hs.drop
 exact hs
theorem Dr.small {t xs:List FunL} {B:Nat} (h:Dr t xs) (h0:∀f∈t,Small B f):∀f∈xs,Small B f:=by
 induction h with
 | start=>exact h0
 | step _ _ _ _ _ ih=>
  intro f hf;obtain⟨i,hi,rfl⟩:=yp.1 hf;exact Zv hi (ih _ (zP _))
theorem Al.small {t xs:List FunL} {k p B:Nat} {hd:List InsL} (h:Al t k p xs hd) (h0:∀f∈t,Small B f):∀i (hi:i<xs.length),k<=i->Small B xs[i]:=by
 induction h with
 | start=>exact fun i hi _=>h0 _ (zP hi)
 | skip _ _ _ _ ih=>exact ih
 | drop _ _ _ _ ih=>exact fun i hi hk=>Zv hi (ih i (by rw[←qQ _ _ _];exact hi) hk)
 | @next k p xs hd _ _ _ ih=>
  intro i hi hk;have hi2:i<xs.length:=by simpa using hi
  rw[List.getElem_modify,zQ bO];exact ih i hi2 bO
theorem le_sum:∀{l:List Nat} {n:Nat},n∈l->n<=l.sum
 | a::l,n,h=>by
  rw[List.sum_cons];rcases yC.1 h with rfl|h
  ·omega
  have:=le_sum h;omega
theorem Yp {f:FunL} {B:Nat} (h:xu f<=B):Small B f:=fun b hb=>by
 have h1:b.phis.length+b.list.length<=xu f:=by
  unfold xu;exact le_sum (yD.2 ⟨b,hb,rfl⟩)
 omega
end Go.Proofs.YtgjjhadbjmcnpaaGreatDoor
namespace Go.Proofs.YtgjjhadbjmcnpaaGreatDoor
open Go.RowKit Go.Shelf

def SeqAt (F:Fence) (n:Nat) (P:Program) (g:Nat) (lb:Array Value) (el:Nat->Array Value) (N:Nat) (Kp:World->World->Prop) (w:World):Prop:=
 ∀(l:Nat) (Jq Jx:Nat->World->Prop) (W:World),Below w.heap.size w W->AbidesFrom W.heap.size Jq->AbidesFrom W.heap.size Jx->
  (∀i W1,i<N->Jq i W1->YieldAt F (n - 1) P l (el i) W1 fun e W'=>(e = .returned (.bool true)/\Jq (i+1) W'/\Kp W1 W')\/(e = .returned (.bool false)/\Jx i W'))->Jq 0 W->
  CallsIn F n P g (#[.func (.yield l) #[] #[]]++lb) W fun e W'=>(∃v,e = .returned v)/\(Jq N W'\/∃i,i<N/\Jx i W')
def jz (B:Nat) (Kp:World->World->Prop) (I:Nat->World->Prop) (Ix:Code->Nat->World->Prop) (i:Nat) (W:World) (e:Exit) (W':World):Prop:=
 KeepsFrom B W W'/\match e with
  | .normal=>Kp W W'/\I (i+1) W'
  | .ret=>Ix .ret i W'
  | .exit id=>Ix (.exit id) i W'
  | .goto t=>Ix (.goto t) i W'
  | _=>False
section
variable {F : Fence} {n : Nat} {P : Program} {g : Operand} {ps : Array Tmp} {assign body : Code} {Q : Exit → Act → World → Prop} {a : Act} {w : World} {gf : Nat} {lb : Array Value} {el : Nat → Array Value} {N : Nat} {Kp : World → World → Prop} {w0 : World}
theorem jA (hro:F.round=none) (h1:1<=n) (hg:a.eval g = .func (.func gf) #[] lb) (hFg:F.fn gf) (eg:∀args w,(callFunc gf args).run P w = .ok (.enter gf args) w) (hseq:SeqAt F (n - 1) P gf lb el N Kp w0)
  (hKt:∀{A B C:World},Kp A B->Kp B C->Kp A C) (hKb:∀(W:World) (l:Nat) (o o':Obj),w.heap.size<=l->W.heap[l]?=some o->o.isCells=false->o.isWalk=false->Kp W (W.putObj l o')) (hb0:Below w0.heap.size w0 w) (hps:∀i,i<N->(el i).size=ps.size)
  (I:Nat->World->Prop) (Ix:Code->Nat->World->Prop) (hI:OwnFrom w.heap.size I) (hIx:∀c,OwnFrom w.heap.size (Ix c)) (h0:I 0 w) (a₁:Nat->Act)
  (hassign:∀(l i:Nat) (W:World) (K:Act->World->Prop),i<N->K (a₁ i) W->assign.wpIn (F.inRound l) (n - 1 - 1) P (Exit.then K (fun _ _ _=>False)) { tmps:=(ps.zip (el i)).foldl (fun t (p,v)=>t.setIfInBounds p v) a.tmps,defers:=[] } W)
  (hbody:∀(l i:Nat) (W:World),w.heap.size<=l->i<N->I i W->body.wpIn (F.inRound l) (n - 1 - 1) P (fun e _ W'=>jz w.heap.size Kp I Ix i W e W') (a₁ i) W)
  (hdone:∀(D:Nat) (W:World),w.heap.size<=D->I N W->W.heap[D]?=some (.deferred (some []))->Q .normal { a with defers:={ target:=.collected D,args:=#[] }::a.defers } W)
  (hstop:∀(D:Nat) (c:Code) (i:Nat) (W:World),w.heap.size<=D->i<N->Ix c i W->W.heap[D]?=some (.deferred (some []))->c.wpIn F n P Q { a with defers:={ target:=.collected D,args:=#[] }::a.defers } W) :
  (Code.rangeFunc g ps assign body).wpIn F n P Q a w:=by
 refine wpIn_rangeFunc fun fn hfn=>?_;rw[hro]
 -- the record of the loop and the block for what rounds defer: the blocks L and D
 obtain⟨rec,hrec⟩:∃rec:LoopState->Option Code->Loop,rec=fun st pe=>{ state:=st,pending:=pe,fn,tmps:=a.tmps,params:=ps,assign,body,defers:=w.heap.size }:=⟨_,rfl⟩;have hst:∀st pe,{ rec .ready none with state:=st,pending:=pe }=rec st pe:=fun st pe=>by rw[hrec]
 let Bk:LoopState->Option Code->World->Prop:=fun st pe W=>W.heap[w.heap.size+1]?=some (.loop (rec st pe))/\W.heap[w.heap.size]?=some (.deferred (some []))
 have hnA:Bk .ready none ((w.alloc (.deferred (some []))).alloc (.loop (rec .ready none))):=
  ⟨qr bV,qh (qB w _)⟩
 have hnB:∀{st pe A B row},Bk st pe A->A.grownBy B row->(∀r,row=some r->∃o:Obj,A.heap[r]?=some o/\o.isWalk=true)->Bk st pe B:=fun h hg hr=>
  ⟨(grownBy_keeps hg hr h.1 rfl).trans h.1,(grownBy_keeps hg hr h.2 rfl).trans h.2⟩
 have hgP:∀{st pe st' pe' A},Bk st pe A->Bk st' pe' (A.putObj (w.heap.size+1) (.loop (rec st' pe'))):=fun {st pe st' pe' A} h=>
  ⟨World.putObj_heap_same (qd h.1),(World.putObj_heap_other bO).trans h.2⟩
 obtain⟨W1,hW1⟩:=nZ ((w.alloc (.deferred (some []))).alloc (.loop (rec .ready none)));rw[←hW1]at hnA;have hz1:W1.heap.size=w.heap.size+1+1:=by rw[hW1];simp
 have hent:(Instr.enterLoop fn a.tmps ps assign body none).run P w = .ok (w.heap.size+1,[{ target:=.collected w.heap.size,args:=#[] }]) W1:=by
  rw[hW1,hrec];exact run_enterLoop_outer _ _ _ _ _
 refine⟨w.heap.size+1,[{ target:=.collected w.heap.size,args:=#[] }],W1,{ target:=.fn (.func gf) lb,args:=#[.func (.yield (w.heap.size+1)) #[] #[]] },W1,gf,
  #[.func (.yield (w.heap.size+1)) #[] #[]]++lb,W1,hent,?_,fun f' hf'=>by simp[Target.leads]at hf';subst hf';exact hFg,?_,fun _=>h1,?_⟩
 ·simp only[resolve,hg];simp[go_sem]
 ·simp[invoke,go_sem,eg]
 have hgV:∀{A:World} {row:Option Nat},(∀r,row=some r->W1.heap.size<=r/\∃o:Obj,A.heap[r]?=some o/\o.isWalk=true)->∀r,row=some r->w.heap.size<=r/\∃o:Obj,A.heap[r]?=some o/\o.isCells=false:=fun hr r e=>by
  obtain⟨hB,o,ho,hw⟩:=hr r e;exact⟨by omega,o,ho,Obj.not_cells_of_walk hw⟩
 refine(hseq (w.heap.size+1) (fun i W=>I i W/\Bk .ready none W) (fun i W=>∃c,Ix c i W/\Bk .done (some c) W) _
  (by rw[hW1];exact hb0.trans ((((zI _ w).alloc (zK _) _).alloc bV _).mono hb0.size))
  (fun s A B row hs hg' hr=>⟨hI s A B row hs.1 hg' (hgV hr),hnB hs.2 hg' fun r e=>(hr r e).2⟩)
  (fun s A B row ⟨c,hc,hk⟩ hg' hr=>⟨c,hIx c s A B row hc hg' (hgV hr),hnB hk hg' fun r e=>(hr r e).2⟩)
  (fun i W hlt ⟨hi,hk⟩=>?_) ⟨by rw[hW1];exact hI.alloc _ (hI.alloc _ h0),hnA⟩).mono ?_
 ·have hy:=run_yield (P:=P) (args:=el i) hk.1 (by rw[hrec];exact hps i hlt);rw[hrec]at hy;refine⟨fn,_,assign,body,hy,roundIn_of_wpIn hfn (hassign _ i W _ hlt ⟨_,run_beginRound hk.1 (by rw[hrec]),?_⟩)⟩;rw[show({ rec .ready none with state:=.busy }:Loop)=rec .busy none by rw[hrec]];have hkb:=hgP (st':=.busy) (pe':=none) hk;refine wpIn_mono (hbody _ i _ bO hlt (hI.putObj _ hi bO hk.1 rfl)) fun e a3 W3 ⟨hk3,hp⟩=>?_;have hb3:Bk .busy none W3:=⟨hk3.same _ _ bO hkb.1 rfl,hk3.same _ _ (zK _) hkb.2 rfl⟩
  have fin:∀jump:Option Code,(Instr.endRound (w.heap.size+1) jump).run P W3 = .ok (.bool jump.isNone) (W3.putObj (w.heap.size+1) (.loop (rec (if jump.isNone then .ready else .done) jump))):=fun jump=>by
   have:=run_endRound (P:=P) jump hb3.1;rw[hrec]at this ⊢;exact this
  have leave:∀c:Code,Ix c i W3->_:=fun c hc=>(⟨.bool false,W3.putObj (w.heap.size+1) (.loop (rec .done (some c))),fin (some c),.inr ⟨rfl,c,(hIx c).putObj _ hc bO hb3.1 rfl,hgP hb3⟩⟩:∃v W4,(Instr.endRound (w.heap.size+1) (some c)).run P W3 = .ok v W4/\((Ending.returned v = .returned (.bool true)/\(I (i+1) W4/\Bk .ready none W4)/\Kp W W4)\/(Ending.returned v = .returned (.bool false)/\∃c,Ix c i W4/\Bk .done (some c) W4)));cases e with
  | normal=>
   exact⟨_,_,fin none,.inl ⟨rfl,⟨hI.putObj _ hp.2 bO hb3.1 rfl,hgP hb3⟩,hKt (hKt (hKb _ _ _ _ bO hk.1 rfl rfl) hp.1) (hKb _ _ _ _ bO hb3.1 rfl rfl)⟩⟩
  | ret=>exact leave _ hp
  | exit id=>exact leave _ hp
  | goto t=>exact leave _ hp
  | panic ch=>exact hp.elim
  | outgrown=>exact hp.elim
 have shut:∀{st pe W2},st≠.busy->Bk st pe W2->(Instr.endLoop (w.heap.size+1)).run P W2 = .ok pe (W2.putObj (w.heap.size+1) (.loop (rec .exhausted pe))):=fun {st pe W2} hne hk=>by
  have:=run_endLoop (P:=P) hk.1 (by rw[hrec];exact hne);rw[hrec]at this ⊢;exact this
 rintro e W2 ⟨⟨v,rfl⟩,(⟨hi,hk⟩|⟨i,hlt,c,hi,hk⟩)⟩
 ·exact⟨none,_,shut bV hk,hdone _ _ (zK _) (hI.putObj _ hi bO hk.1 rfl) (hgP hk).2⟩
 exact⟨some c,_,shut bV hk,hstop _ c i _ (zK _) hlt ((hIx c).putObj _ hi bO hk.1 rfl) (hgP hk).2⟩
end
attribute [local go_sem] Oper.semAt_some

theorem js {ts:Array Value} {n:Nat} (h:ts.size=n):ts=((List.range n).map fun i=>ts.getD i undef).toArray:=by
 subst h;refine Array.ext bV fun i h1 h2=>?_;simp[Array.getD,h1]

def xx (ll:Nat->Nat):Nat->List (Nat×Nat)
 | 0=>[]
 | m+1=>xx ll m++(List.range (ll m)).map fun j=>(m,j)
theorem Kv (ll:Nat->Nat) {m:Nat}:∀{n},m<=n->∃l,xx ll n=xx ll m++l
 | 0,h=>by
  obtain rfl:m=0:=by omega
  exact⟨[],by simp⟩
 | n+1,h=>by
  rcases yq m (n+1)with g|g
  ·obtain⟨l,e⟩:=Kv ll (m:=m) (n:=n) bO;exact⟨l++(List.range (ll n)).map fun j=>(n,j),by rw[xx,e,yF]⟩
  obtain rfl:m=n+1:=by omega
  exact⟨[],by simp⟩
theorem kj (ll:Nat->Nat) (m:Nat):(xx ll (m+1)).length=(xx ll m).length+ll m:=by simp[xx]
theorem QR {ll:Nat->Nat} {m n j:Nat} (hm:m<n) (hj:j<ll m):(xx ll n)[(xx ll m).length+j]?=some (m,j):=by
 obtain⟨l,e⟩:=Kv ll (m:=m+1) (n:=n) bO;rw[e,List.getElem?_append_left (by rw[kj];omega),xx,List.getElem?_append_right bO];simp[hj]
theorem XR {ll:Nat->Nat} {m n j:Nat} (hm:m<n) (hj:j<ll m):(xx ll m).length+j<(xx ll n).length:=by
 have:=QR hm hj;exact(List.getElem?_eq_some_iff.1 this).1
structure EachSh (Bx fb fo:Nat) (q:Option Addr) (nb c:Nat) (lq:Nat->Option Addr) (ll lc:Nat->Nat) (W:World):Prop where
 box:W.cell? (J Bx 0)=some (.pointer (some (J fb fo)))
 fn:W.cell? (J fb (fo+3))=some (.slice q nb c)
 blk:∀m,m<nb->∃bb bo,q=some (J bb bo)/\W.cell? (J bb (bo+m*6+1))=some (.slice (lq m) (ll m) (lc m))
def jP (lp:Nat->Nat×Nat) (ll:Nat->Nat) (nb i:Nat):Value:=match(xx ll nb)[i]? with
 | some (m,j)=>.pointer (some (J ((lp m).1) ((lp m).2+j*8)))
 | none=>undef
def Zw (lp:Nat->Nat×Nat) (ll:Nat->Nat) (nb i:Nat):Array Value:=#[jP lp ll nb i]
theorem kL {ll:Nat->Nat} {n i:Nat} (h:i<(xx ll n).length):∃m j,m<n/\j<ll m/\i=(xx ll m).length+j:=by
 induction n with
 | zero=>simp[xx]at h
 | succ n ih=>
  rw[kj]at h;rcases yq i (xx ll n).length with g|g
  ·obtain⟨m,j,h1,h2,h3⟩:=ih g;exact⟨m,j,by omega,h2,h3⟩
  exact⟨n,i - (xx ll n).length,by omega,by omega,by omega⟩
theorem kl {lp:Nat->Nat×Nat} {ll:Nat->Nat} {nb m j:Nat} (hm:m<nb) (hj:j<ll m):jP lp ll nb ((xx ll m).length+j) = .pointer (some (J ((lp m).1) ((lp m).2+j*8))):=by
 unfold jP;rw[QR hm hj]
theorem v8 {W:World} {l b o:Nat} {x:Obj} {v:Value} (h:W.heap[l]?=some x) (hx:x.isCells=false) (hc:W.cell? (J b o)=some v):b≠l:=by
 rintro rfl;unfold World.cell? at hc;rw[h]at hc;cases x<;>simp[Obj.isCells]at hx hc
theorem EachSh.other {Bx fb fo:Nat} {q:Option Addr} {nb c:Nat} {lq:Nat->Option Addr} {ll lc:Nat->Nat} {W W':World} (h:EachSh Bx fb fo q nb c lq ll lc W) (hk:∀b o v,W.cell? (J b o)=some v->(b=Bx\/b=fb\/∃o,q=some (J b o))->W'.cell? (J b o)=some v):EachSh Bx fb fo q nb c lq ll lc W':=
 ⟨hk _ _ _ h.box (.inl rfl),hk _ _ _ h.fn (.inr (.inl rfl)),fun m hm=>by
  obtain⟨bb,bo,hq,hc⟩:=h.blk m hm
  exact⟨bb,bo,hq,hk _ _ _ hc (.inr (.inr ⟨bo,hq⟩))⟩⟩
theorem EachSh.putObj {Bx fb fo:Nat} {q:Option Addr} {nb c:Nat} {lq:Nat->Option Addr} {ll lc:Nat->Nat} {W:World} (h:EachSh Bx fb fo q nb c lq ll lc W) {l:Nat} {o:Obj} (o':Obj) (hl:W.heap[l]?=some o) (ho:o.isCells=false):EachSh Bx fb fo q nb c lq ll lc (W.putObj l o'):=
 h.other fun b o v hc _=>by
  have hne:b≠l:=v8 hl ho hc;exact(zN (a:=(J b o)) (World.putObj_heap_other bO)).trans hc
theorem EachSh.below {Bx fb fo:Nat} {q:Option Addr} {nb c:Nat} {lq:Nat->Option Addr} {ll lc:Nat->Nat} {W W':World} (h:EachSh Bx fb fo q nb c lq ll lc W) (hb:Below W.heap.size W W'):EachSh Bx fb fo q nb c lq ll lc W':=
 h.other fun b o _ hc _=>(hb.cell (p:=(J b o)) (q9 hc)).trans hc
/-! what a loop's invariant says abides the law's own book-keeping -/
theorem own_slo {α:Type} {e:TypeId} {size:Nat} {R:ElemO α} (hR:kY R) {v:Value} {S:Blks} {B:Nat} (hS:∀b,S b->b<B) (g:Nat->List α):OwnFrom B (fun i W=>SlO e size R W v (g i) S):=fun s W W' row hs hg hr=>
 SlO.loc hR hs (fun k hk=>hg.block k (hs.inb k hk) (fun e=>by have:=(hr k e.symm).1;have:=hS k hk;omega)) hg.size
theorem own_sh {Bx fb fo:Nat} {q:Option Addr} {nb c:Nat} {lq:Nat->Option Addr} {ll lc:Nat->Nat} {B:Nat}:OwnFrom B (fun(_:Nat) W=>EachSh Bx fb fo q nb c lq ll lc W):=fun s W W' row hs hg hr=>
 hs.other fun b o v hc _=>(zN (a:=(J b o)) (hg.block b (q9 hc) (fun e=>by
  obtain⟨_,x,hx,hn⟩:=hr b e.symm
  exact v8 hx hn hc rfl))).trans hc
theorem kM {S:Blks} {w0:World} {B:Nat} (hB:w0.heap.size<=B):OwnFrom B (fun(_:Nat) W=>Kept S w0 W):=fun s W W' row hs hg hr=>
 ⟨hg.os.trans hs.os,hg.tape.trans hs.tape,hg.output.trans hs.output,yv hs.size hg.size,fun k hk hn=>(hg.block k (xB hk hs.size) (fun e=>by have:=(hr k e.symm).1;omega)).trans (hs.block k hk hn)⟩

theorem XS (F:Fence) (n:Nat) (hF:F.fn 74) (hro:F.round=none) (hn:1<=n) (Bx fb fo c nb:Nat) (q:Option Addr) (lq:Nat->Option Addr) (lp:Nat->Nat×Nat) (ll lc:Nat->Nat) (w:World) (hnb:nb*96<=140737488351232) (hll:∀m,m<nb->ll m*80<=140737488351232)
  (hlq:∀m,m<nb->0<ll m->lq m=some (J ((lp m).1) ((lp m).2))) (hsh:EachSh Bx fb fo q nb c lq ll lc w) :
  SeqAt F n Tryz.prog 74 #[.pointer (some (J Bx 0))] (Zw lp ll nb) (xx ll nb).length (fun W W'=>EachSh Bx fb fo q nb c lq ll lc W->EachSh Bx fb fo q nb c lq ll lc W') w:=by
 intro l Jq Jx W hW _ _ hY h0;have HS:=q8 (hsh.other (W':=W) fun b o v hc _=>(hW.cell (p:=(J b o)) (q9 hc)).trans hc);have HY:=q8 hY;have HLQ:=q8 hlq;have HLL:=q8 hll;clear hsh hY hlq hW hll;refine callsIn_of_wp Tryz.func74 rfl hF ?_ hro;simp only[Tryz.ntmps74,List.size_toArray,yi,List.length_nil,Nat.reduceAdd,Nat.reduceSub,Array.replicate_succ,Array.replicate_zero,List.push_toArray,List.append_toArray,List.nil_append,List.cons_append];have cb:=HS.out.box;have f0:=HS.out.fn
 gi_wp2
 gi_loopw [10] (fun i wr=>∃m:Nat,m<=nb/\i=Z m/\Jq (xx ll m).length wr/\EachSh Bx fb fo q nb c lq ll lc wr) (fun i _=>nb - (intOf i).toNat)
 case atStart=>exact⟨0,by omega,rfl,h0,HS.out⟩
 case round=>
  obtain⟨m,hm,rfl,hJ,hK⟩:=hrel;obtain⟨wo,hwo⟩:∃wo:World,wo=wr:=⟨_,rfl⟩;have cb:=hK.box;have c0:=hK.fn;have HK:=q8 hK;clear hK
  by_cases hlt:m<nb
  rotate_left
  ·obtain rfl:m=nb:=by omega
   gi_wp2
   go_end0
   exact⟨⟨_,rfl⟩,.inl hJ⟩
  obtain⟨b3,o3,rfl,e1⟩:=HK.out.blk m hlt;have hl2:=HLL.out m hlt
  gi_wp2
  subst hwo
  gi_loopw [22] (fun i wr=>∃j:Nat,j<=ll m/\i=Z j/\Jq ((xx ll m).length+j) wr/\EachSh Bx fb fo (some (J b3 o3)) nb c lq ll lc wr) (fun i _=>ll m - (intOf i).toNat)
  case atStart=>exact⟨0,by omega,rfl,hJ,HK.out⟩
  case round=>
   clear cb c0 HK e1;obtain⟨j,hj,rfl,hJ,hK⟩:=hrel;have cb:=hK.box;have c0:=hK.fn;obtain⟨_,_,he,e1⟩:=hK.blk m hlt;cases he;have HK:=q8 hK;clear hK
   by_cases hjl:j<ll m
   ·have hlq:=HLQ.out m hlt bO;rw[hlq]at e1;obtain⟨fn,tmps,assign,body,hy,hR⟩:=HY.out _ wr (XR hlt hjl) hJ;have he:Zw lp ll nb ((xx ll m).length+j)=#[.pointer (some (J ((lp m).1) ((lp m).2+j*8)))]:=(by unfold Zw;rw[kl hlt hjl]);rw[he]at hy;have HR:=q8 hR;clear hR he hlq
    gi_wp2
    refine HR.out.mono ?_;rintro e W3 (⟨rfl,hJ3,hk3⟩|⟨rfl,hJx3⟩)
    ·have HK3:=q8 (hk3 HK.out);clear hk3
     gi_wp2
     go_roundw
     case rel=>exact⟨j+1,by omega,by go_num,hJ3,HK3.out⟩
     case measure=>simp[intOf];omega
    gi_wp2
    refine zk (results_none rfl _ _ _) rfl ?_;exact⟨⟨_,rfl⟩,.inr ⟨_,XR hlt hjl,hJx3⟩⟩
   obtain rfl:j=ll m:=by omega
   gi_wp2
   go_roundw
   case rel=>exact⟨m+1,by omega,by go_num,by rw[kj];exact hJ,HK.out⟩
   case measure=>simp[intOf];omega
end Go.Proofs.YtgjjhadbjmcnpaaGreatDoor
namespace Go.Proofs.YtgjjhadbjmcnpaaGreatDoor

def cnt (had:Nat->Bool):Nat->Nat
 | 0=>0
 | k+1=>cnt had k+if had k then 1 else 0
def qq (f:FunL) (m:Nat):Nat:=(f.blocks[m]?.map fun b=>b.list.length).getD 0
theorem xn {f:FunL} {m:Nat} (h:m<f.blocks.length):qq f m=f.blocks[m].list.length:=by simp[qq,h]
def upI (g:Nat->InsL->InsL) (f:FunL) (i:Nat):FunL:=
 { f with blocks:=f.blocks.mapIdx fun m b=>Vq b (b.list.mapIdx fun j x=>if(xx (qq f) m).length+j<i then g ((xx (qq f) m).length+j) x else x) }
theorem XT (g:Nat->InsL->InsL) (f:FunL):upI g f 0=f:=by
 unfold upI Vq;cases f with
 | mk n p r bs=>
  simp only[FunL.mk.injEq,true_and];refine yV bV fun m h1 h2=>?_;simp only[List.getElem_mapIdx];cases e:bs[m] with
  | mk a l c=>
   simp only[BlkL.mk.injEq,true_and,and_true];refine yV bV fun j h3 h4=>?_;simp
theorem Zx (g:Nat->InsL->InsL) (f:FunL) (i:Nat):(upI g f i).blocks.length=f.blocks.length:=by simp[upI]
theorem XU {g:Nat->InsL->InsL} {f:FunL} {i m:Nat} (h:m<f.blocks.length):((upI g f i).blocks[m]'(by rw[Zx];exact h)).list.length=f.blocks[m].list.length:=by simp[upI,Vq]
theorem upI_get {g:Nat->InsL->InsL} {f:FunL} {m j:Nat} (hm:m<f.blocks.length) (hj:j<f.blocks[m].list.length):((upI g f ((xx (qq f) m).length+j)).blocks[m]'(by rw[Zx];exact hm)).list[j]'(by rw[XU hm];exact hj)=f.blocks[m].list[j]:=by
 simp[upI,Vq]
theorem posL_inj {ll:Nat->Nat} {n a b x y:Nat} (ha:a<n) (hb:b<n) (hx:x<ll a) (hy:y<ll b) (e:(xx ll a).length+x=(xx ll b).length+y):a=b/\x=y:=by
 have h1:=QR ha hx;have h2:=QR hb hy;rw[e,h2]at h1;simpa using h1.symm
theorem Kw {g:Nat->InsL->InsL} {f:FunL} {m j:Nat} (hm:m<f.blocks.length) (hj:j<f.blocks[m].list.length):setI (upI g f ((xx (qq f) m).length+j)) m j (g ((xx (qq f) m).length+j) f.blocks[m].list[j])=upI g f ((xx (qq f) m).length+j+1):=by
 have hlm:=xn hm;unfold setI;rw[Qo (by rw[Zx];exact hm)];unfold upI Vq;simp only[FunL.mk.injEq,true_and];refine yV bV fun a h1 h2=>?_;have ha:a<f.blocks.length:=by simpa using h2
 rw[y8];simp only[List.getElem_mapIdx]
 split
 ·next e=>
  subst e;simp only[BlkL.mk.injEq,true_and,and_true];refine yV bV fun b h3 h4=>?_;have hb:b<f.blocks[m].list.length:=by simpa using h4
  rw[y8];simp only[List.getElem_mapIdx]
  split
  ·next e=>subst e;rw[zZ bO]
  next e=>
  by_cases h5:b<j
  ·rw[zZ bO,zZ bO]
  rw[zQ bO,zQ bO]
 next e=>
 simp only[BlkL.mk.injEq,true_and,and_true];refine yV bV fun b h3 h4=>?_;have hb:b<f.blocks[a].list.length:=by simpa using h4
 simp only[List.getElem_mapIdx];have hne:(xx (qq f) a).length+b≠(xx (qq f) m).length+j:=fun e2=>e (posL_inj ha hm (by rw[xn ha];exact hb) (by rw[hlm];exact hj) e2).1.symm
 by_cases h5:(xx (qq f) a).length+b<(xx (qq f) m).length+j
 ·rw[zZ h5,zZ bO]
 rw[zQ h5,zQ bO]
theorem VJ (g:InsL->InsL) (f:FunL):upI (fun _=>g) f (xx (qq f) f.blocks.length).length={ f with blocks:=f.blocks.map fun b=>Vq b (b.list.map g) }:=by
 unfold upI Vq;simp only[FunL.mk.injEq,true_and];refine yV bV fun a h1 h2=>?_;have ha:a<f.blocks.length:=by simpa using h2
 simp only[List.getElem_mapIdx,xE,BlkL.mk.injEq,true_and,and_true];refine yV bV fun b h3 h4=>?_;have hb:b<f.blocks[a].list.length:=by simpa using h4
 simp only[List.getElem_mapIdx,xE];rw[zZ (XR ha (by rw[xn ha];exact hb))]
theorem setI_same {f:FunL} {m j:Nat} (hm:m<f.blocks.length) (hj:j<f.blocks[m].list.length):setI f m j f.blocks[m].list[j]=f:=by
 unfold setI;rw[Qo hm];cases f with
 | mk n p r bs=>
  simp only[FunL.mk.injEq,true_and]
  have h1:Vq bs[m] (bs[m].list.set j bs[m].list[j])=bs[m]:=by
   unfold Vq;rw[List.set_getElem_self]
  rw[h1,List.set_getElem_self]
theorem Kx {g:Nat->InsL->InsL} {f:FunL} {m j:Nat} (hm:m<f.blocks.length) (hj:j<f.blocks[m].list.length) (h:g ((xx (qq f) m).length+j) f.blocks[m].list[j]=f.blocks[m].list[j]):upI g f ((xx (qq f) m).length+j)=upI g f ((xx (qq f) m).length+j+1):=by
 have h1:=Kw (g:=g) hm hj;rw[h]at h1;rw[←h1];have hm2:m<(upI g f ((xx (qq f) m).length+j)).blocks.length:=by rw[Zx];exact hm
 have hj2:j<((upI g f ((xx (qq f) m).length+j)).blocks[m]'hm2).list.length:=by rw[XU hm];exact hj
 have h2:=setI_same (f:=upI g f ((xx (qq f) m).length+j)) hm2 hj2;rw[upI_get hm hj]at h2;exact h2.symm

def lqW (w:World) (bb m:Nat):Option Addr:=match w.cell? (J bb (m*6+1)) with|some (.slice q _ _)=>q|_=>none
def lcW (w:World) (bb m:Nat):Nat:=match w.cell? (J bb (m*6+1)) with|some (.slice _ _ c)=>c|_=>0
def lpW (w:World) (bb m:Nat):Nat×Nat:=match lqW w bb m with|some a=>(a.block,a.off)|none=>(0,0)
theorem FunO.lists {w:World} {cs:List Value} {f:FunL} {T:Blks} (h:FunO w cs f T) (h0:0<f.blocks.length):∃bb cb,cs=[.string f.name,Z f.params,Z f.regs,.slice (some (J bb 0)) f.blocks.length cb]/\T bb/\f.blocks.length*96<=reachBytes/\
  ∀m,m<f.blocks.length->w.cell? (J bb (m*6+1))=some (.slice (lqW w bb m) (qq f m) (lcW w bb m))/\qq f m*80<=reachBytes/\(0<qq f m->lqW w bb m=some (J ((lpW w bb m).1) ((lpW w bb m).2))):=by
 obtain⟨v,hcs,hnm,i1,i2,hB⟩:=h;obtain⟨bb,cb,cB0,TB0,hv,hbs,hTb,_⟩:=hB.sl.focus qM bO h0;subst hv;refine⟨bb,cb,hcs,hTb,hB.bd,fun m hm=>?_⟩;obtain⟨bb',cb',cB,TB,hv',_,_,_,hed,_,_,hcB,_⟩:=hB.sl.focus qM bO hm;cases hv';obtain⟨v1,v2,v3,S1,S2,S3,rfl,j1,j2,h3,h4,h5,_⟩:=hed;obtain⟨q,c,rfl,_,_⟩:=h4.sl.val;have hc:w.cell? (J bb (m*6+1))=some (.slice q f.blocks[m].list.length c):=hcB 1 bO;have e1:lqW w bb m=q:=by unfold lqW;rw[hc]
 have e2:lcW w bb m=c:=by unfold lcW;rw[hc]
 rw[e1,e2,xn hm];refine⟨hc,h4.bd,fun hpos=>?_⟩;obtain⟨lb,c2,_,_,hv2,_⟩:=h4.sl.focus qT bO hpos;have e3:q=some (J lb 0):=by injection hv2
 unfold lpW;rw[e1,e3]
end Go.Proofs.YtgjjhadbjmcnpaaGreatDoor
namespace Go.Proofs.YtgjjhadbjmcnpaaGreatDoor
open Go.RowKit

structure FunSh (g k bb nb cb:Nat) (lq:Nat->Option Addr) (ll lc:Nat->Nat) (W:World):Prop where
 fn:W.cell? (J g (k*4+3))=some (.slice (some (J bb 0)) nb cb)
 blk:∀m,m<nb->W.cell? (J bb (m*6+1))=some (.slice (lq m) (ll m) (lc m))
theorem FunSh.other {g k bb nb cb:Nat} {lq:Nat->Option Addr} {ll lc:Nat->Nat} {W W':World} (h:FunSh g k bb nb cb lq ll lc W) (h1:W'.heap[g]?=W.heap[g]?) (h2:W'.heap[bb]?=W.heap[bb]?):FunSh g k bb nb cb lq ll lc W':=
 ⟨(zN (a:=(J g _)) h1).trans h.fn,fun m hm=>(zN (a:=(J bb _)) h2).trans (h.blk m hm)⟩
theorem SlO.shape {W:World} {g n c k:Nat} {zs:List FunL} {S:Blks} (h:SlO 38 4 FunO W (.slice (some (J g 0)) n c) zs S) (hk:k<zs.length) (h0:0<zs[k].blocks.length):∃bb cb,FunSh g k bb zs[k].blocks.length cb (lqW W bb) (qq zs[k]) (lcW W bb) W/\S bb/\S g/\g<W.heap.size/\zs[k].blocks.length*96<=reachBytes/\
  ∀m,m<zs[k].blocks.length->qq zs[k] m*80<=reachBytes/\(0<qq zs[k] m->lqW W bb m=some (J ((lpW W bb m).1) ((lpW W bb m).2))):=by
 obtain⟨g',c',cs,T,hv,hgz,hgS,hcl,hF,hgT,hTS,hce,_⟩:=h.focus qK bO hk
 have hg:g=g':=by
  injection hv with a;injection a with a;injection a
 subst hg;obtain⟨bb,cb,hcs,hTb,hl,hls⟩:=hF.lists h0;refine⟨bb,cb,⟨by rw[hce 3 bO,hcs];rfl,fun m hm=>(hls m hm).1⟩,hTS bb hTb,hgS,hgz,hl,fun m hm=>(hls m hm).2⟩
end Go.Proofs.YtgjjhadbjmcnpaaGreatDoor
