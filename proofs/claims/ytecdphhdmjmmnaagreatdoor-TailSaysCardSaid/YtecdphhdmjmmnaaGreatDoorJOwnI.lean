/-
  Plain: an instruction of a function of the call's own taken out, and put back another one.
-/
import Derived.OrdersHeld
import Derived.OrdersIn
import Derived.Test.YtecdphhdmjmmnaaGreatDoorJCalG
import Derived.Deep.DeepCutAuto
import Derived.Outline
set_option maxRecDepth 100000
set_option maxHeartbeats 16000000
namespace Go.Proofs.YtecdphhdmjmmnaaGreatDoor
open Go.RowKit Go.Shelf

theorem ZF {P:Program} {ops:Array Oper} {Q:Exit→Act→World→Prop} {i:Nat} {o:Oper} {K:Act→World→Prop} {a:Act} {w:World} (ho:ops[i]?=some o) (hg:o.guard=none) (h:o.wp P a w K Q):wpOp P ops Q i K a w:=by
 unfold wpOp
 rw[ho]
 simp only[Region.wanted,hg]
 exact .inl h
section
variable {P : Program} {md : Region.Mode} {ops : Array Oper} {Q : Exit → Act → World → Prop} {S : World → Prop} {z : Nat}
def qN (P:Program) (md:Region.Mode) (ops:Array Oper) (Q:Exit→Act→World→Prop) (S:World→Prop) (z:Nat):Nat→Array Bool→Act→World→Prop
 | 0,listed,a,w=>Region.ready md ops listed=[]∧Q .normal a w
 | fuel+1,listed,a,w=>
  (Region.ready md ops listed=[]→Q .normal a w)∧
  ∀i∈Region.ready md ops listed,wpOp P ops Q i (fun a' w'=>(i≠z→S w')∧qN P md ops Q S z fuel (listed.setIfInBounds i true) a' w') a w
theorem Z9:∀(fuel:Nat) (listed:Array Bool) (a:Act) (w:World),qN P md ops Q S z fuel listed a w→wpAny P md ops Q fuel listed a w
 | 0,_,_,_,h=>h
 | fuel+1,_,_,_,h=>⟨h.1,fun i hi=>wpOp_mono (fun a' w' h'=>Z9 fuel _ a' w' h'.2) (h.2 i hi)⟩
theorem Xv {i:Nat} {oi oz:Oper} {v:Value} (hi:ops[i]?=some oi) (hz:ops[z]?=some oz) (hiz:i≠z) (hw:∃e∈oz.after,Region.binds md e=true∧e.on=i) (hsel:∀(j:Nat) (o:Oper) cs b,ops[j]?=some o→o.op≠.select cs b)
  (hQ:∀c a w,Q (.panic c) (a.put oi.dst v) w→Q (.panic c) a w) :
  ∀(fuel:Nat) (listed:Array Bool) (a:Act) (w:World),
   (∀j oj,ops[j]?=some oj→j≠i→listed.getD j true=false→(∀e∈oj.after,Region.binds md e=true→e.on≠i)→oi.apart ops oj=true)→
   i∈Region.ready md ops listed→YieldsIf P ops S oi v a→S w→
   qN P md ops Q S z fuel (listed.setIfInBounds i true) (a.put oi.dst v) w→qN P md ops Q S z (fuel+1) listed a w:=by
 intro fuel
 induction fuel with
 | zero=>
  intro listed a w _ hr hy hS H
  refine⟨fun h=>(by rw[h]at hr;cases hr),fun j hj=>?_⟩
  by_cases hji:j=i
  ·subst hji;exact hy.wpOp hi hS ⟨fun _=>hS,H⟩
  have:=ready_mono hj hji
  rw[H.1]at this
  cases this
 | succ fuel ih=>
  intro listed a w hfree hr hy hS H
  refine⟨fun h=>(by rw[h]at hr;cases hr),fun j hj=>?_⟩
  by_cases hji:j=i
  ·subst hji;exact hy.wpOp hi hS ⟨fun _=>hS,H⟩
  have h1:=H.2 j (ready_mono hj hji)
  obtain⟨hjun,oj,hoj,hall⟩:=mem_ready.1 hj
  have hnot:∀e∈oj.after,Region.binds md e=true→e.on≠i:=fun e he hb heq=>by
   have h1:=hall e he hb
   have h0:=(mem_ready.1 hr).1
   rw[heq]at h1
   rcases Nat.lt_or_ge i listed.size with h'|h'
   ·simp[h']at h0 h1;rw[h0]at h1;cases h1
   simp[Array.getElem?_eq_none h']at h1
  have hjz:j≠z:=fun e=>by
   subst e
   rw[hoj]at hz
   cases hz
   obtain⟨e,he,hb,hon⟩:=hw
   exact hnot e he hb hon
  have h2:=wpOp_putIf hoj (hfree j oj hoj hji hjun hnot) (fun cs b=>hsel i oi cs b hi) (fun cs b=>hsel j oj cs b hoj) hQ hy h1
  have hfree':∀k ok,ops[k]?=some ok→k≠i→(listed.setIfInBounds j true).getD k true=false→
    (∀e∈ok.after,Region.binds md e=true→e.on≠i)→oi.apart ops ok=true:=fun k ok hk hki hun hno=>by
   refine hfree k ok hk hki ?_ hno
   by_cases hjk:j=k
   ·subst hjk;exact hjun
   rw[getD_set_ne true hjk]at hun;exact hun
  refine wpOp_mono (fun a' w' h3=>⟨fun _=>h3.2.1 hjz,ih (listed.setIfInBounds j true) a' w' hfree' (ready_mono hr (Ne.symm hji)) h3.1 (h3.2.1 hjz) ?_⟩) h2
  rw[Array.setIfInBounds_comm _ _ hji]
  exact h3.2.2
def V4 (md:Region.Mode) (ops:Array Oper) (z i:Nat):Bool:=decide (i≠z)&&match ops[z]? with|some o=>o.after.any fun e=>Region.binds md e&&e.on == i|none=>false
theorem Jy {i:Nat} {oi:Oper} {v:Value} {fuel:Nat} {listed:Array Bool} {a:Act} {w:World} (hi:ops[i]?=some oi) (hw:V4 md ops z i=true)
  (hs:Region.noSelect ops=true) (hf:Region.free md ops listed i=true) (hr:(Region.ready md ops listed).contains i=true)
  (hQ:∀c a w,Q (.panic c) (a.put oi.dst v) w→Q (.panic c) a w) (hy:YieldsIf P ops S oi v a) (hS:S w)
  (h:qN P md ops Q S z fuel (listed.setIfInBounds i true) (a.put oi.dst v) w):qN P md ops Q S z (fuel+1) listed a w:=by
 unfold V4 at hw
 rw[Bool.and_eq_true]at hw
 obtain⟨h1,h2⟩:=hw
 cases hz:ops[z]? with
 | none=>rw[hz]at h2;cases h2
 | some oz=>
  rw[hz]at h2
  simp only[Array.any_eq_true',Bool.and_eq_true,beq_iff_eq]at h2
  obtain⟨e,he,hb,hon⟩:=h2
  exact Xv hi hz (of_decide_eq_true h1) ⟨e,he,hb,hon⟩ (Region.noSelect_spec hs) hQ fuel listed a w (Region.free_spec hi hf) (by simpa using hr) hy hS h
theorem Za {rs:List Nat} {fuel:Nat} {listed:Array Bool} {a:Act} {w:World} (hr:Region.ready md ops listed=rs) (hne:rs≠[])
  (h:∀i∈rs,wpOp P ops Q i (fun a' w'=>(i≠z→S w')∧qN P md ops Q S z fuel (listed.setIfInBounds i true) a' w') a w):qN P md ops Q S z (fuel+1) listed a w:=
 ⟨fun h0=>absurd (hr ▸ h0) hne,hr ▸ h⟩
theorem qB {listed:Array Bool} {a:Act} {w:World} (hr:Region.ready md ops listed=[]) (h:Q .normal a w) :
  ∀fuel,qN P md ops Q S z fuel listed a w
 | 0=>⟨hr,h⟩
 | _+1=>⟨fun _=>h,by rw[hr];simp⟩
end

theorem Jz {P:Program} {id:Nat} {ops:Array Oper} {Q:Exit→Act→World→Prop} {S:World→Prop} {a:Act} {w:World} (hm:P.follows .mixedOrders=true)
  (z:Nat) (h:qN P .any ops Q S z ops.size (Array.replicate ops.size false) a w.drew):(Code.region id ops true).wp P Q a w:=
 wp_region_any hm (Z9 _ _ _ _ h)
def calm (Q:Exit→Act→World→Prop):Exit→Act→World→Prop
 | .panic _,_,_=>False
 | e,a,w=>Q e a w
theorem qm {P:Program} {id:Nat} {ops:Array Oper} {Q:Exit→Act→World→Prop} {S:World→Prop} {a:Act} {w:World} (hm:P.follows .mixedOrders=true)
  (z:Nat) (h:qN P .any ops (calm Q) S z ops.size (Array.replicate ops.size false) a w.drew):(Code.region id ops true).wp P Q a w:=
 Code.wp_mono (Q:=calm Q) (fun e a w h=>by cases e<;>first|exact h|exact h.elim) (Jz hm z h)
theorem wp_of_run {P:Program} {o:Oper} {a:Act} {w w':World} {v:Value} {K:Act→World→Prop} {Q:Exit→Act→World→Prop} (h:(execOp a.eval o).run P w = .ok (.value v) w') (hk:K (a.put o.dst v) w'):o.wp P a w K Q:=by
 unfold Oper.wp
 rw[h]
 exact hk
theorem VN {P:Program} {o:Oper} {a:Act} {w w':World} {K:Act→World→Prop} {Q:Exit→Act→World→Prop} (h:(execOp a.eval o).run P w = .ok .skip w') (hk:K (a.put o.dst undef) w'):o.wp P a w K Q:=by
 unfold Oper.wp
 rw[h]
 exact hk

section
variable {P : Program} {md : Region.Mode} {ops : Array Oper} {Q : Exit → Act → World → Prop} {S : World → Prop} {z : Nat}
theorem takeZ (i d:Nat) (v:Value) {oi:Oper} {fuel:Nat} {listed:Array Bool} {a:Act} {w:World} (hi:ops[i]?=some oi) (hd:oi.dst=some d) (hw:V4 md ops z i=true)
  (hs:Region.noSelect ops=true) (hf:Region.free md ops listed i=true) (hr:(Region.ready md ops listed).contains i=true)
  (hQ:∀c a w,Q (.panic c) (a.put (some d) v) w→Q (.panic c) a w) (hy:YieldsIf P ops S oi v a) (hS:S w)
  (h:qN P md ops Q S z fuel (listed.setIfInBounds i true) (a.put (some d) v) w):qN P md ops Q S z (fuel+1) listed a w:=
 Jy hi hw hs hf hr (by rw[hd];exact hQ) hy hS (by rw[hd];exact h)
theorem tkZ (i d:Nat) (v:Value) {oi:Oper} {fuel:Nat} {listed:Array Bool} {a:Act} {w:World} (hi:ops[i]?=some oi) (hd:oi.dst=some d) (hS:S w) (hy:∀w',S w'→(execOp a.eval oi).run P w' = .ok (.value v) w')
  (h:qN P md ops Q S z fuel (listed.setIfInBounds i true) (a.put (some d) v) w) (hg:Region.wanted oi (yielded ops a.tmps)=true:=by rfl) (hw:V4 md ops z i=true:=by kernel_rfl)
  (hs:Region.noSelect ops=true:=by kernel_rfl) (hf:Region.free md ops listed i=true:=by kernel_rfl) (hr:(Region.ready md ops listed).contains i=true:=by kernel_rfl)
  (hQ:∀c a w,Q (.panic c) (a.put (some d) v) w→Q (.panic c) a w:=by exact fun _ _ _ h=>h):qN P md ops Q S z (fuel+1) listed a w:=
 takeZ i d v hi hd hw hs hf hr hQ (Or.inl ⟨hg,hy⟩) hS h
theorem stepZ_val {i:Nat} {o:Oper} {fuel:Nat} {listed:Array Bool} {a:Act} {w:World} (v:Value) (w':World) (ho:ops[i]?=some o) (hg:o.guard=none) (h:(execOp a.eval o).run P w = .ok (.value v) w') (hS:S w')
  (hk:qN P md ops Q S z fuel (listed.setIfInBounds i true) (a.put o.dst v) w'):wpOp P ops Q i (fun a' w'=>(i≠z→S w')∧qN P md ops Q S z fuel (listed.setIfInBounds i true) a' w') a w:=
 ZF ho hg (wp_of_run h ⟨fun _=>hS,hk⟩)
theorem qn {i:Nat} {o:Oper} {fuel:Nat} {listed:Array Bool} {a:Act} {w:World} (d:Nat) (v:Value) (w':World) (ho:ops[i]?=some o) (hd:o.dst=some d) (hg:o.guard=none) (h:(execOp a.eval o).run P w = .ok (.value v) w') (hS:S w')
  (hk:qN P md ops Q S z fuel (listed.setIfInBounds i true) (a.put (some d) v) w'):wpOp P ops Q i (fun a' w'=>(i≠z→S w')∧qN P md ops Q S z fuel (listed.setIfInBounds i true) a' w') a w:=
 stepZ_val v w' ho hg h hS (by rw[hd];exact hk)
theorem VO {i:Nat} {o:Oper} {fuel:Nat} {listed:Array Bool} {a:Act} {w:World} (w':World) (ho:ops[i]?=some o) (hg:o.guard=none) (h:(execOp a.eval o).run P w = .ok .skip w') (hS:i≠z→S w')
  (hk:qN P md ops Q S z fuel (listed.setIfInBounds i true) (a.put o.dst undef) w'):wpOp P ops Q i (fun a' w'=>(i≠z→S w')∧qN P md ops Q S z fuel (listed.setIfInBounds i true) a' w') a w:=
 ZF ho hg (VN h ⟨hS,hk⟩)
theorem VP {i:Nat} {o:Oper} {fuel:Nat} {listed:Array Bool} {a:Act} {w:World} {f:FuncId} {args:Array Value} {R:Ending→World→Prop} (ho:ops[i]?=some o) (hg:o.guard=none)
  (h:(execOp a.eval o).run P w = .ok (.enter f args) w) (hc:Calls P f args w R) (hk:∀e w',R e w'→∃v,e = .returned v∧S w'∧qN P md ops Q S z fuel (listed.setIfInBounds i true) (a.put o.dst v) w'):wpOp P ops Q i (fun a' w'=>(i≠z→S w')∧qN P md ops Q S z fuel (listed.setIfInBounds i true) a' w') a w:=by
 refine ZF ho hg ?_
 unfold Oper.wp
 rw[h]
 refine hc.mono fun e w' he=>?_
 obtain⟨v,rfl,h1,h2⟩:=hk e w' he
 exact⟨fun _=>h1,h2⟩
theorem qt {i:Nat} {o:Oper} {fuel:Nat} {listed:Array Bool} {a:Act} {w:World} {f:FuncId} {args:Array Value} {R:Ending→World→Prop} (d:Nat) (ho:ops[i]?=some o) (hd:o.dst=some d) (hg:o.guard=none)
  (h:(execOp a.eval o).run P w = .ok (.enter f args) w) (hc:Calls P f args w R) (hk:∀e w',R e w'→∃v,e = .returned v∧S w'∧qN P md ops Q S z fuel (listed.setIfInBounds i true) (a.put (some d) v) w'):wpOp P ops Q i (fun a' w'=>(i≠z→S w')∧qN P md ops Q S z fuel (listed.setIfInBounds i true) a' w') a w:=
 VP ho hg h hc (by rw[hd];exact hk)
theorem qz {i:Nat} {o:Oper} {fuel:Nat} {listed:Array Bool} {a:Act} {w:World} (w':World) (ho:ops[i]?=some o) (hd:o.dst=none) (hg:o.guard=none) (h:(execOp a.eval o).run P w = .ok .skip w') (hS:i≠z→S w')
  (hk:qN P md ops Q S z fuel (listed.setIfInBounds i true) a w'):wpOp P ops Q i (fun a' w'=>(i≠z→S w')∧qN P md ops Q S z fuel (listed.setIfInBounds i true) a' w') a w:=
 VO w' ho hg h hS (by rw[hd];exact hk)
theorem qk {i:Nat} {fuel:Nat} {listed:Array Bool} {a:Act} {w:World} (hr:Region.ready md ops listed=[i])
  (h1:wpOp P ops Q i (fun a' w'=>(i≠z→S w')∧qN P md ops Q S z fuel (listed.setIfInBounds i true) a' w') a w):qN P md ops Q S z (fuel+1) listed a w:=
 Za hr (by simp) fun m hm=>by
  obtain rfl:m=i:=by simpa using hm
  exact h1
theorem stepZ_2 {i j:Nat} {fuel:Nat} {listed:Array Bool} {a:Act} {w:World} (hr:Region.ready md ops listed=[i,j])
  (h1:wpOp P ops Q i (fun a' w'=>(i≠z→S w')∧qN P md ops Q S z fuel (listed.setIfInBounds i true) a' w') a w)
  (h2:wpOp P ops Q j (fun a' w'=>(j≠z→S w')∧qN P md ops Q S z fuel (listed.setIfInBounds j true) a' w') a w):qN P md ops Q S z (fuel+1) listed a w:=
 Za hr (by simp) fun m hm=>by
  rcases List.mem_cons.1 hm with rfl|hm
  ·exact h1
  obtain rfl:m=j:=by simpa using hm
  exact h2
end


theorem Qt {P:Program} {o:Oper} {a:Act} {w w':World} {s x:Operand} {t:TypeId} {u v v':Value} (ho:o.op = .call { callee:=.builtin .append,args:=#[s,x],argTypes:=#[t,t] }) (hs:a.eval s=v) (hx:a.eval x=u) (h:(Builtin.append_ #[t,t] o.type #[v,u]).run P w = .ok v' w') :
  (execOp a.eval o).run P w = .ok (.value v') w':=by
 unfold execOp
 simp only[ho,resolve,invoke,builtin,Sem.run_bind,Sem.run_pure,Result.andThen_ok,List.map_toArray,List.map_cons,List.map_nil,hs,hx,h]
section
variable {P : Program} {md : Region.Mode} {ops : Array Oper} {Q : Exit → Act → World → Prop} {S : World → Prop} {z : Nat} {α : Type} {R : ElemO α}
theorem zx {i:Nat} {o:Oper} {fuel:Nat} {listed:Array Bool} {a:Act} {w:World} (d:Nat) (s x:Operand) (t:TypeId) (ho:ops[i]?=some o) (hop:o.op = .call { callee:=.builtin .append,args:=#[s,x],argTypes:=#[t,t] }) (hd:o.dst=some d) (hg:o.guard=none)
  (e:TypeId) (ti:TypeInfo) (zv:Value) (size bytes:Nat) (ht:P.underlying t=some (.slice e)) (hi:P.info? e=some ti) (hz:ti.zero=some zv)
  (hsize:ti.size=size) (hby:ti.bytes=bytes) (hzs:zv.cells.size=size) (hsz:0<size) (hR:jN R)
  {v:Value} {xs:List α} {U T:Blks} (hs:a.eval s=v) (hO:SlO e size R w v xs U)
  (ad:Addr) (cc:Nat) (c:List Value) (y:α) (hx:a.eval x = .slice (some ad) 1 cc) (hl:c.length=size) (hnews:∀j u,c[j]?=some u→w.cell? (ad.add j)=some u) (h1:∀u∈c,u.oneCell'=true) (hy:R w c y T) (hT:Apart U T) (hTi:InB w T)
  (h63:xs.length+1≤maxLen) (hbytes:(xs.length+1)*bytes≤140737488355328)
  (hk:∀v' w',Snoc e size R w (xs++[y]) U T v' w'→S w'∧qN P md ops Q S z fuel (listed.setIfInBounds i true) (a.put (some d) v') w') :
  wpOp P ops Q i (fun a' w'=>(i≠z→S w')∧qN P md ops Q S z fuel (listed.setIfInBounds i true) a' w') a w:=by
 obtain⟨v',w',hr,h2⟩:=vU (P:=P) w t o.type e ti zv size bytes ht hi hz hsize hby hzs hsz hR hO ad cc c y hl hnews h1 hy hT hTi h63 hbytes
 obtain⟨h3,h4⟩:=hk v' w' h2
 exact qn d v' w' ho hd hg (Qt hop hs hx hr) h3 h4
end

theorem jC:(Tryz.prog.info? 48).map (fun i=>(i.zero,i.size,i.bytes))=some (some (.agg #[.slice none 0 0,.slice none 0 0,.int .i64 0,.bool false,.int .i64 0,.slice none 0 0]),6,96):=by kernel_rfl

theorem BlkO.tight {w:World} {cs:List Value} {x:BlkL} {T:Blks} (h:BlkO w cs x T):∃T',BlkO w cs x T'∧InB w T'∧∀k,T' k→T k:=by
 obtain⟨v1,v2,v3,S1,S2,S3,h0,h1,h2,h3,h4,h5,a1,a2,a3,g1,g2,g3⟩:=h
 refine⟨fun k=>S1 k∨S2 k∨S3 k,⟨v1,v2,v3,S1,S2,S3,h0,h1,h2,h3,h4,h5,a1,a2,a3,fun _ h=>.inl h,fun _ h=>.inr (.inl h),fun _ h=>.inr (.inr h)⟩,?_,?_⟩
 ·rintro k (h|h|h)
  ·exact h3.sl.inb k h
  ·exact h4.sl.inb k h
  exact h5.sl.inb k h
 rintro k (h|h|h)
 ·exact g1 k h
 ·exact g2 k h
 exact g3 k h

theorem Qu (f:FunL) (q:Option Addr) (e1:Nat) (w:World) (hn:f.name.size≤reachBytes) (i1:I64 f.params) (i2:I64 f.regs) (hB:SlF w 6 96 (BlkR w) (.slice q f.blocks.length e1) f.blocks) :
  Calls Tryz.prog 44 #[.agg #[.string f.name,.int .i64 f.params,.int .i64 f.regs,.slice q f.blocks.length e1]] w fun e w'=>(∃p c,e = .returned (.agg #[.string f.name,.int .i64 f.params,.int .i64 f.regs,.slice p f.blocks.length c])∧
   ∃S,FunO w' [.string f.name,.int .i64 f.params,.int .i64 f.regs,.slice p f.blocks.length c] f S∧LoB w.heap.size S)∧Below w.heap.size w w':=by
 obtain⟨iB,k1,k2,k3,k4⟩:=info_parts jC
 have hbd:=hB.bdC
 have hlb:f.blocks.length*96≤140737488351232:=hbd
 have hBs:SliceAt w 6 (BlkR w) q f.blocks:=by
  obtain⟨p,c,e,_,_,h⟩:=hB.outC
  cases e
  exact h
 have HBs:=q7 hBs
 have HBd:=q7 hbd
 have HN:=q7 (And.intro hn (And.intro i1 i2))
 clear hB hBs hbd hn i1 i2
 go_enter Tryz.func44,Tryz.ntmps44
 go_wp2_with fail
 obtain⟨W0,hW0⟩:∃W0,W0=(w.alloc (.cells #[.string f.name,.int .i64 f.params,.int .i64 f.regs,.slice none 0 0] 37)).alloc (.cells #[.string { data:=#[] },.int .i64 0,.int .i64 0,.slice none 0 0] 37):=⟨_,rfl⟩
 rw[←hW0]
 have hz0:W0.heap.size=w.heap.size+1+1:=by rw[hW0];simp
 have HB0:Hid (Below w.heap.size w W0):=q7 (by rw[hW0];exact bZ)
 have HA:Hid (W0.heap[w.heap.size]?=some (.cells #[.string f.name,.int .i64 f.params,.int .i64 f.regs,.slice none 0 0] 37 (0,0))):=q7 (by rw[hW0];exact qj (qh rfl))
 have HZ:Hid (W0.heap[w.heap.size+1]?=some (.cells #[.string { data:=#[] },.int .i64 0,.int .i64 0,.slice none 0 0] 37 (0,0))):=q7 (by rw[hW0];exact qh (by simp))
 clear hW0
 go_loopw [11] (fun i wr=>∃(k:Nat) (v:Value),k≤f.blocks.length∧i = .int .i64 k∧(∃S,SlO 48 6 BlkO wr v (f.blocks.take k) S∧LoB W0.heap.size S)∧wr.heap[w.heap.size]?=some (.cells #[.string f.name,.int .i64 f.params,.int .i64 f.regs,v] 37 (0,0))∧Kept (fun k=>k=w.heap.size) W0 wr) (fun i _=>f.blocks.length - (intOf i).toNat)
 case atStart=>exact⟨0,.slice none 0 0,by omega,rfl,⟨fun _=>False,SlO.nil _ _ _ _ (fun _ h=>h.elim),fun _ h=>h.elim⟩,HA.out,Kept.refl _ _⟩
 case round=>
  obtain⟨k,v,hk,rfl,⟨S,hO,hL⟩,hA,hK⟩:=hrel
  obtain⟨p,c,hv,_⟩:=hO.val
  rw[List.length_take_of_le hk]at hv
  subst hv
  have HO:=q7 hO
  have HL:=q7 hL
  have HK:=q7 hK
  have HA1:=q7 hA
  have hsz:=hK.size
  have HBw:Hid (Below w.heap.size w wr):=HB0.out.trans (hK.below (by omega) (fun _ e=>by omega))
  clear hO hL hK hA
  by_cases hlt:k<f.blocks.length
  rotate_left
  ·obtain rfl:k=f.blocks.length:=by omega
   have r0:wr.cell? ⟨w.heap.size,0,none⟩=some (.string f.name):=(blk HA1.out).1 0
   have r1:wr.cell? ⟨w.heap.size,1,none⟩=some (.int .i64 f.params):=(blk HA1.out).1 1
   have r2:wr.cell? ⟨w.heap.size,2,none⟩=some (.int .i64 f.regs):=(blk HA1.out).1 2
   have r3:wr.cell? ⟨w.heap.size,3,none⟩=some (.slice p f.blocks.length c):=(blk HA1.out).1 3
   have hZ:=(HK.out.block (w.heap.size+1) (by omega) (by omega)).trans HZ.out
   have rZ:=blk hZ
   have rz0:wr.cell? ⟨w.heap.size+1,0,none⟩=some (.string { data:=#[] }):=rZ.1 0
   have rz1:wr.cell? ⟨w.heap.size+1,1,none⟩=some (.int .i64 0):=rZ.1 1
   have rz2:wr.cell? ⟨w.heap.size+1,2,none⟩=some (.int .i64 0):=rZ.1 2
   have rz3:wr.cell? ⟨w.heap.size+1,3,none⟩=some (.slice none 0 0):=rZ.1 3
   have rf:=rZ.2
   have hzl:=q9 hZ
   go_wp2_with fail
   rw[List.take_length]at HO
   obtain⟨WF,hWF⟩:∃WF,WF=(((wr.setCell ⟨w.heap.size+1,0,none⟩ (.string f.name)).setCell ⟨w.heap.size+1,1,none⟩ (.int .i64 f.params)).setCell ⟨w.heap.size+1,2,none⟩ (.int .i64 f.regs)).setCell ⟨w.heap.size+1,3,none⟩ (.slice p f.blocks.length c):=⟨_,rfl⟩
   rw[←hWF]
   have hF1:WF.heap[w.heap.size+1]?=some (.cells #[.string f.name,.int .i64 f.params,.int .i64 f.regs,.slice p f.blocks.length c] 37 (0,0)):=by
    rw[hWF,qg (qg (qg (qg hZ 0 _) 1 _) 2 _) 3 _]
    rfl
   have hFo:∀k,k≠w.heap.size+1→WF.heap[k]?=wr.heap[k]?:=fun k h1=>by
    rw[hWF]
    repeat rw[Go.Deep.blk_setCell_other _ _ _ _ (by assumption)]
   have hFs:WF.heap.size=wr.heap.size:=by rw[hWF];simp[World.setCell]
   have hFb:Below w.heap.size w WF:=by
    rw[hWF]
    exact(((HBw.out.setCell (by simp) _).setCell (by simp) _).setCell (by simp) _).setCell (by simp) _
   clear hWF
   have k0:=(blk hF1).1 0
   have k1':=(blk hF1).1 1
   have k2':=(blk hF1).1 2
   have k3':=(blk hF1).1 3
   refine bodyPost_ret (v:=.agg #[.string f.name,.int .i64 f.params,.int .i64 f.regs,.slice p f.blocks.length c]) ?_ rfl ⟨⟨p,c,rfl,S,⟨_,rfl,HN.out.1,HN.out.2.1,HN.out.2.2,⟨HO.out.loc qE (fun i hi=>hFo i (fun e=>by have:=HL.out i hi;omega)) (by omega),HBd.out⟩⟩,fun i hi=>by have:=HL.out i hi;omega⟩,hFb⟩
   simp[results,Tryz.results44,go_sem,k0,k1',k2',k3']
  obtain⟨bp,op,cs,hp,_,hc,b0,b1,b2,rfl,b3,b4,b5,b6,b7⟩:=HBs.out.get hlt
  subst hp
  obtain⟨q1,d1,rfl,_⟩:=b5.outC
  obtain⟨q2,d2,rfl,_⟩:=b6.outC
  obtain⟨q3,d3,rfl,_⟩:=b7.outC
  have hc0:=hc 0 (by omega)
  have hbp:=q8 hc0
  have c0:=(HBw.out.cell (p:=⟨bp,_,none⟩) hbp).trans hc0
  have c1:=(HBw.out.cell (p:=⟨bp,_,none⟩) hbp).trans (hc 1 (by omega))
  have c2:=(HBw.out.cell (p:=⟨bp,_,none⟩) hbp).trans (hc 2 (by omega))
  have c3:=(HBw.out.cell (p:=⟨bp,_,none⟩) hbp).trans (hc 3 (by omega))
  have c4:=(HBw.out.cell (p:=⟨bp,_,none⟩) hbp).trans (hc 4 (by omega))
  have c5:=(HBw.out.cell (p:=⟨bp,_,none⟩) hbp).trans (hc 5 (by omega))
  simp only[List.getElem?_cons_zero,List.getElem?_cons_succ,Nat.add_zero]at c0 c1 c2 c3 c4 c5
  have HR:=q7 (And.intro b3 (And.intro b4 (And.intro b5 (And.intro b6 b7))))
  clear hc hc0 b3 b4 b5 b6 b7
  go_wp2_with fail
  obtain⟨w1,hw1⟩:∃w1,w1=wr.alloc (.cells #[.slice q1 f.blocks[k].phis.length d1,.slice q2 f.blocks[k].list.length d2,.int .i64 f.blocks[k].fin.kind,.bool f.blocks[k].fin.onr,.int .i64 f.blocks[k].fin.onn,.slice q3 f.blocks[k].fin.to.length d3] 48):=⟨_,rfl⟩
  rw[←hw1]
  have hz1:w1.heap.size=wr.heap.size+1:=by rw[hw1];simp
  have HBr:Hid (Below wr.heap.size wr w1):=q7 (by rw[hw1];exact bZ)
  have HX1:Hid (w1.heap[wr.heap.size]?=some (.cells #[.slice q1 f.blocks[k].phis.length d1,.slice q2 f.blocks[k].list.length d2,.int .i64 f.blocks[k].fin.kind,.bool f.blocks[k].fin.onr,.int .i64 f.blocks[k].fin.onn,.slice q3 f.blocks[k].fin.to.length d3] 48 (0,0))):=q7 (by rw[hw1];exact qh rfl)
  clear hw1
  have hzA:w.heap.size<wr.heap.size:=by omega
  obtain⟨Sp,hSp⟩:∃Sp:World→Prop,Sp=fun w'=>w'.heap[w.heap.size]?=some (.cells #[.string f.name,.int .i64 f.params,.int .i64 f.regs,.slice p k c] 37 (0,0))∧w'.heap[wr.heap.size]?=some (.cells #[.slice q1 f.blocks[k].phis.length d1,.slice q2 f.blocks[k].list.length d2,.int .i64 f.blocks[k].fin.kind,.bool f.blocks[k].fin.onr,.int .i64 f.blocks[k].fin.onn,.slice q3 f.blocks[k].fin.to.length d3] 48 (0,0)):=⟨_,rfl⟩
  have ha6:∀w',Sp w'→(∀j,w'.cell? ⟨w.heap.size,j,none⟩=(#[.string f.name,.int .i64 f.params,.int .i64 f.regs,.slice p k c]:Array Value)[j]?)∧(∀j,w'.cell? ⟨wr.heap.size,j,none⟩=(#[.slice q1 f.blocks[k].phis.length d1,.slice q2 f.blocks[k].list.length d2,.int .i64 f.blocks[k].fin.kind,.bool f.blocks[k].fin.onr,.int .i64 f.blocks[k].fin.onn,.slice q3 f.blocks[k].fin.to.length d3]:Array Value)[j]?)∧w.heap.size<w'.heap.size∧wr.heap.size<w'.heap.size∧w'.frozen? ⟨w.heap.size,3,none⟩=false:=fun w' h=>by
   rw[hSp]at h
   exact⟨(blk h.1).1,(blk h.2).1,q9 h.1,q9 h.2,(blk h.1).2 3⟩
  have hSk:∀{U:Blks} {x y:World},Sp x→Kept U x y→¬ U w.heap.size→¬ U wr.heap.size→Sp y:=fun {U x y} h hk n1 n2=>by
   rw[hSp]at h ⊢
   exact⟨(hk.block _ (q9 h.1) n1).trans h.1,(hk.block _ (q9 h.2) n2).trans h.2⟩
  have haS:Sp w1:=by
   rw[hSp]
   exact⟨(HBr.out.block _ hzA).trans HA1.out,HX1.out⟩
  have hS1:Sp w1.drew:=by
   rw[hSp]at haS ⊢
   exact haS
  refine qm (S:=Sp) (by kernel_rfl) 7 ?_
  refine tkZ 0 15 (.pointer (some ⟨w.heap.size,3,none⟩)) rfl rfl hS1 (fun w' h=>?_) ?_
  ·obtain⟨h1,h2,h3,h4,h5⟩:=ha6 w' h
   go_simp
  refine tkZ 1 16 (.slice p k c) rfl rfl hS1 (fun w' h=>?_) ?_
  ·obtain⟨h1,h2,h3,h4,h5⟩:=ha6 w' h
   go_simp
  refine tkZ 2 17 (.agg #[.slice q1 f.blocks[k].phis.length d1,.slice q2 f.blocks[k].list.length d2,.int .i64 f.blocks[k].fin.kind,.bool f.blocks[k].fin.onr,.int .i64 f.blocks[k].fin.onn,.slice q3 f.blocks[k].fin.to.length d3]) rfl rfl hS1 (fun w' h=>?_) ?_
  ·obtain⟨h1,h2,h3,h4,h5⟩:=ha6 w' h
   have g0:=h2 0
   have g1:=h2 1
   have g2:=h2 2
   have g3:=h2 3
   have g4:=h2 4
   have g5:=h2 5
   go_simp
  have hw1:Below w.heap.size w w1.drew:=(HBw.out.trans (HBr.out.mono (by omega))).drew
  refine qk (i:=3) (by kernel_rfl) (qt 18 rfl rfl rfl (by go_simp) (Jw f.blocks[k] q1 q2 q3 d1 d2 d3 w1.drew (HR.out.2.2.1.mono hw1 (by omega) fun _ _ g=>g.below hw1) (HR.out.2.2.2.1.mono hw1 (by omega) fun _ _ g=>g.below hw1) (HR.out.2.2.2.2.mono hw1 (by omega) fun _ _ g=>g) HR.out.1 HR.out.2.1) ?_)
  rintro e w2 ⟨⟨p1,m1,p2,m2,p3,m3,rfl,T0,hT0,heu⟩,hb2⟩
  obtain⟨T,hT,hTi,hTs⟩:=hT0.tight
  have hTl:LoB w1.drew.heap.size T:=fun k h=>heu k (hTs k h)
  clear hT0 heu hTs
  have hb2:Below w1.heap.size w1 w2:=(Below.refl _ w1).drew.trans hb2
  have hTl:∀k,T k→w1.heap.size≤k:=hTl
  have hS2:Sp w2:=hSk (x:=w1) haS (Kept.of_below (S:=fun _=>False) hb2) (fun h=>h) (fun h=>h)
  refine⟨_,rfl,hS2,?_⟩
  have hO2:=HO.out.below qE (HBr.out.trans (hb2.mono (by omega)))
  have hz2:=hb2.size
  have HO2:=q7 hO2
  have HT2:=q7 hT
  have HTl:=q7 hTl
  have HTi:=q7 hTi
  have HB2:=q7 hb2
  clear hT hTl hTi hb2 hO2
  refine qk (i:=4) (by kernel_rfl) (qn 19 (.slice (some ⟨w2.heap.size,0,none⟩) 1 1) (w2.alloc (.cells #[.slice p1 f.blocks[k].phis.length m1,.slice p2 f.blocks[k].list.length m2,.int .i64 f.blocks[k].fin.kind,.bool f.blocks[k].fin.onr,.int .i64 f.blocks[k].fin.onn,.slice p3 f.blocks[k].fin.to.length m3] 48)) rfl rfl rfl (by go_simp) (hSk hS2 ((Kept.refl (fun _=>False) _).alloc _) (fun h=>h) (fun h=>h)) ?_)
  have hS3:Sp (w2.alloc (.cells #[.slice p1 f.blocks[k].phis.length m1,.slice p2 f.blocks[k].list.length m2,.int .i64 f.blocks[k].fin.kind,.bool f.blocks[k].fin.onr,.int .i64 f.blocks[k].fin.onn,.slice p3 f.blocks[k].fin.to.length m3] 48)):=hSk hS2 ((Kept.refl (fun _=>False) _).alloc _) (fun h=>h) (fun h=>h)
  refine qk (i:=5) (by kernel_rfl) (zx 20 _ _ 35 rfl rfl rfl rfl 48 iB _ 6 96 Tryz.underlying35 k1 k2 k3 k4 rfl (by decide) qE rfl (HO2.out.below qE ((Below.refl _ _).alloc (Nat.le_refl _) _)) ⟨w2.heap.size,0,none⟩ 1 [.slice p1 f.blocks[k].phis.length m1,.slice p2 f.blocks[k].list.length m2,.int .i64 f.blocks[k].fin.kind,.bool f.blocks[k].fin.onr,.int .i64 f.blocks[k].fin.onn,.slice p3 f.blocks[k].fin.to.length m3] f.blocks[k] rfl rfl ?hn ?ho (T:=T) ?hy ?ha ?ht ?hm ?hb ?_)
  case hn=>exact qS _ _ _ rfl
  case ho=>intro u hu;simp only[List.mem_cons,List.not_mem_nil,or_false]at hu;rcases hu with rfl|rfl|rfl|rfl|rfl|rfl<;>rfl
  case hy=>exact qE _ _ _ _ _ HT2.out (fun k hk=>Below.heap_alloc _ _ k (HTi.out k hk)) (by simp)
  case ha=>exact fun k h1 h2=>by have:=HO.out.inb k h1;have:=HTl.out k h2;omega
  case ht=>exact HTi.out.mono (by simp)
  case hm=>unfold maxLen;simp;omega
  case hb=>simp;omega
  intro v2 w4 ⟨S',hO4,hsub,hK4⟩
  obtain⟨pv,cv,hv2,_⟩:=hO4.val
  have hlv:(f.blocks.take k++[f.blocks[k]]).length=k+1:=by simp;omega
  rw[hlv]at hv2
  subst hv2
  have hSn:∀i,i<W0.heap.size→¬ S i:=fun i hi h=>by have:=HL.out i h;omega
  have hhC:¬ S wr.heap.size:=fun h=>by have:=HO.out.inb _ h;omega
  have hS4:Sp w4:=hSk hS3 hK4 (hSn _ (by omega)) hhC
  refine⟨hS4,?_⟩
  refine tkZ 6 21 (.pointer (some ⟨w.heap.size,3,none⟩)) rfl rfl hS4 (fun w' h=>?_) ?_
  ·obtain⟨h1,h2,h3,h4,h5⟩:=ha6 w' h
   go_simp
  obtain⟨h1,h2,h3,h4,h5⟩:=ha6 w4 hS4
  have h13:w4.cell? ⟨w.heap.size,3,none⟩=some (.slice p k c):=h1 3
  clear h1
  refine qk (i:=7) (by kernel_rfl) (qz (w4.setCell ⟨w.heap.size,3,none⟩ (.slice pv (k+1) cv)) rfl rfl rfl (by go_simp) (fun h=>absurd rfl h) (qB (by kernel_rfl) ?_ _))
  show Exit.inBlock 1 _ Exit.normal _ _
  have hrel:(∃S,SlO 48 6 BlkO (w4.setCell ⟨w.heap.size,3,none⟩ (.slice pv (k+1) cv)) (.slice pv (k+1) cv) (f.blocks.take (k+1)) S∧LoB W0.heap.size S)∧(w4.setCell ⟨w.heap.size,3,none⟩ (.slice pv (k+1) cv)).heap[w.heap.size]?=some (.cells #[.string f.name,.int .i64 f.params,.int .i64 f.regs,.slice pv (k+1) cv] 37 (0,0))∧Kept (fun k=>k=w.heap.size) W0 (w4.setCell ⟨w.heap.size,3,none⟩ (.slice pv (k+1) cv)):=by
   have hlo:LoB W0.heap.size S':=fun i hi=>by
    rcases hsub i hi with h|h|h
    ·exact HL.out i h
    ·have:=HTl.out i h;omega
    simp at h;omega
   have e4:w4.heap[w.heap.size]?=some (.cells #[.string f.name,.int .i64 f.params,.int .i64 f.regs,.slice p k c] 37 (0,0)):=by
    rw[hSp]at hS4
    exact hS4.1
   refine⟨⟨S',?_,hlo⟩,?_,?_⟩
   ·rw[List.take_succ_eq_append_getElem hlt]
    exact hO4.loc qE (fun i hi=>Go.Deep.blk_setCell_other _ _ _ _ (fun e=>by have:=hlo i hi;have e2:i=w.heap.size:=e;omega)) (by simp[World.setCell])
   ·rw[qg e4 3 _]
    rfl
   have kA:Kept (fun k=>k=w.heap.size) W0 w2:=HK.out.trans (Kept.of_below (S:=fun _=>False) (HBr.out.trans (HB2.out.mono (by omega)))) (fun _ _ h=>h.elim)
   exact((kA.alloc _).trans hK4 (fun i hi h=>absurd h (hSn i hi))).setCell rfl _
  have ha7:=q7 hrel
  clear hrel hS4 h2 h3 h4 h5 h13 hO4 hsub hK4 hS3 hS2
  go_wp2_with fail
  exact⟨⟨k+1,.slice pv (k+1) cv,by omega,by go_num,ha7.out.1,ha7.out.2.1,ha7.out.2.2⟩,by simp[intOf];omega⟩

theorem ZG:(Tryz.prog.info? 68).map (fun i=>(i.zero,i.size,i.bytes))=some (some (.agg #[.string { data:=#[] },.int .i64 0,.slice none 0 0]),3,48):=by kernel_rfl
theorem ZH:(Tryz.prog.info? 37).map (fun i=>(i.zero,i.size,i.bytes))=some (some (.agg #[.string { data:=#[] },.int .i64 0,.int .i64 0,.slice none 0 0]),4,56):=by kernel_rfl
def UniO:ElemO UniL:=fun w cs x S=>∃v1 v2 S1 S2,cs=[v1,v2]∧SlQ 68 3 48 GloO w v1 x.globals S1∧SlQ 37 4 56 FunO w v2 x.funcs S2∧Apart S1 S2∧(∀k,S1 k→S k)∧∀k,S2 k→S k
theorem UniO.read {w:World} {cs:List Value} {x:UniL} {S:Blks} (h:UniO w cs x S):UniR w cs x:=by
 obtain⟨v1,v2,S1,S2,h0,h1,h2,_⟩:=h
 exact⟨v1,v2,h0,h1.read zC (by omega) fun _ _ _ h=>h.read,h2.read zj (by omega) fun _ _ _ h=>h.read⟩

theorem copy_any (u:UniL) (q1 q2:Option Addr) (e1 e2:Nat) (w:World) (hG:SlF w 3 48 (GloR w) (.slice q1 u.globals.length e1) u.globals) (hF:SlF w 4 56 (FunR w) (.slice q2 u.funcs.length e2) u.funcs) :
  Calls Tryz.prog 21 #[.agg #[.slice q1 u.globals.length e1,.slice q2 u.funcs.length e2]] w fun e w'=>(∃p1 c1 p2 c2,e = .returned (.agg #[.slice p1 u.globals.length c1,.slice p2 u.funcs.length c2])∧
   ∃S,UniO w' [.slice p1 u.globals.length c1,.slice p2 u.funcs.length c2] u S∧LoB w.heap.size S)∧Below w.heap.size w w':=by
 obtain⟨iG,k1,k2,k3,k4⟩:=info_parts ZG
 obtain⟨iF,l1,l2,l3,l4⟩:=info_parts ZH
 have hlg:u.globals.length*48≤140737488351232:=hG.bdC
 have hlf:u.funcs.length*56≤140737488351232:=hF.bdC
 have hGs:SliceAt w 3 (GloR w) q1 u.globals:=by
  obtain⟨p,c,e,_,_,h⟩:=hG.outC
  cases e
  exact h
 have hFs:SliceAt w 4 (FunR w) q2 u.funcs:=by
  obtain⟨p,c,e,_,_,h⟩:=hF.outC
  cases e
  exact h
 have HGs:=q7 hGs
 have HFs:=q7 hFs
 have HBd:=q7 (And.intro hG.bdC hF.bdC)
 clear hG hF hGs hFs
 go_enter Tryz.func21,Tryz.ntmps21
 go_wp2_with fail
 obtain⟨W0,hW0⟩:∃W0,W0=((w.alloc (.cells #[.slice q1 u.globals.length e1,.slice q2 u.funcs.length e2] 25)).alloc (.cells #[.slice none 0 0,.slice none 0 0] 25)).alloc (.cells #[.slice none 0 0,.slice none 0 0] 25):=⟨_,rfl⟩
 rw[←hW0]
 have hz0:W0.heap.size=w.heap.size+1+1+1:=by rw[hW0];simp
 have HB0:Hid (Below w.heap.size w W0):=q7 (by rw[hW0];exact bZ)
 have HA:Hid (W0.heap[w.heap.size]?=some (.cells #[.slice q1 u.globals.length e1,.slice q2 u.funcs.length e2] 25 (0,0))):=q7 (by rw[hW0];exact qj (qj (qh rfl)))
 have HZ:Hid (W0.heap[w.heap.size+1]?=some (.cells #[.slice none 0 0,.slice none 0 0] 25 (0,0))):=q7 (by rw[hW0];exact qj (qh (by simp)))
 have HO0:Hid (W0.heap[w.heap.size+1+1]?=some (.cells #[.slice none 0 0,.slice none 0 0] 25 (0,0))):=q7 (by rw[hW0];exact qh (by simp))
 clear hW0
 go_loopw [12] (fun i wr=>∃(k:Nat) (v:Value),k≤u.globals.length∧i = .int .i64 k∧(∃S,SlO 68 3 GloO wr v (u.globals.take k) S∧LoB W0.heap.size S)∧wr.heap[w.heap.size+1+1]?=some (.cells #[v,.slice none 0 0] 25 (0,0))∧Kept (fun k=>k=w.heap.size+1+1) W0 wr) (fun i _=>u.globals.length - (intOf i).toNat)
 case atStart=>exact⟨0,.slice none 0 0,by omega,rfl,⟨fun _=>False,SlO.nil _ _ _ _ (fun _ h=>h.elim),fun _ h=>h.elim⟩,HO0.out,Kept.refl _ _⟩
 case round=>
  obtain⟨k,v,hk,rfl,⟨S,hO,hL⟩,hA,hK⟩:=hrel
  obtain⟨p,c,hv,_⟩:=hO.val
  rw[List.length_take_of_le hk]at hv
  subst hv
  have HO:=q7 hO
  have HL:=q7 hL
  have HK:=q7 hK
  have HA1:=q7 hA
  have hsz:=hK.size
  have HBw:Hid (Below w.heap.size w wr):=HB0.out.trans (hK.below (by omega) (fun _ e=>by omega))
  clear hO hL hK hA
  by_cases hlt:k<u.globals.length
  ·obtain⟨bp,op,cs,hp,_,hc,b0,rfl,b3,b4,b5⟩:=HGs.out.get hlt
   subst hp
   obtain⟨qi,di,rfl,hq0,_,hql,hqs⟩:=b5
   have hc0:=hc 0 (by omega)
   have hbp:=q8 hc0
   have c0:=(HBw.out.cell (p:=⟨bp,_,none⟩) hbp).trans hc0
   have c1:=(HBw.out.cell (p:=⟨bp,_,none⟩) hbp).trans (hc 1 (by omega))
   have c2:=(HBw.out.cell (p:=⟨bp,_,none⟩) hbp).trans (hc 2 (by omega))
   simp only[List.getElem?_cons_zero,List.getElem?_cons_succ,Nat.add_zero]at c0 c1 c2
   have HQ:=q7 (And.intro hq0 (And.intro hql (And.intro hqs (And.intro b3 b4))))
   clear hc hc0 b3 b4 hq0 hql hqs
   go_wp2_with fail
   refine(vB u.globals[k].init qi di _ (HQ.out.2.2.1.mono (HBw.out.trans bZ) (by omega) fun _ _ g=>g) HQ.out.1 HQ.out.2.1).mono ?_
   rintro e w5 ⟨p',c',rfl,⟨S2,hS2,hL2⟩,hb5⟩
   have hr5:Below wr.heap.size wr w5:=Below.trans bZ (hb5.mono (by simp))
   have hu:=qd hb5 (k:=wr.heap.size) (by simp) (qr wr _)
   obtain⟨hu0,hu1⟩:=blk hu
   have zu:=(Array.getElem?_eq_some_iff.1 hu).1
   have hoz:=q9 HA1.out
   have hA5:=qd hr5 (k:=w.heap.size+1+1) hoz HA1.out
   have ho0:w5.cell? ⟨w.heap.size+1+1,0,none⟩=some (.slice p k c):=(blk hA5).1 0
   have hof:=(blk hA5).2
   have zo:=q9 hA5
   have HA5:=q7 hA5
   have HU5:=q7 hu
   have hL2':∀k,S2 k→wr.heap.size+1≤k:=fun k h=>by have:=hL2 k h;simpa using this
   have HS2:=q7 hS2
   have HL2:=q7 hL2'
   have HR5:=q7 hr5
   have hep:=hr5.size
   have hne:w.heap.size+1+1≠wr.heap.size:=by omega
   clear hb5 hr5 hu hS2 hL2 hL2' hA5
   have hN5:¬ S wr.heap.size:=fun h=>by have:=HO.out.inb _ h;omega
   have hN2:¬ S2 wr.heap.size:=fun h=>by have:=HL2.out _ h;omega
   have HO5:=q7 ((HO.out.below zC HR5.out).set_alloc zC (n:=wr.heap.size) (j:=2) hN5 (.slice p' u.globals[k].init.length c') (.cells #[.string u.globals[k].name,.int .i64 u.globals[k].size,.slice p' u.globals[k].init.length c'] 68))
   have HS5:=q7 (HS2.out.set_alloc qT (n:=wr.heap.size) (j:=2) hN2 (.slice p' u.globals[k].init.length c') (.cells #[.string u.globals[k].name,.int .i64 u.globals[k].size,.slice p' u.globals[k].init.length c'] 68))
   have hA8:((w5.setCell ⟨wr.heap.size,2,none⟩ (.slice p' u.globals[k].init.length c')).alloc (.cells #[.string u.globals[k].name,.int .i64 u.globals[k].size,.slice p' u.globals[k].init.length c'] 68)).heap[w.heap.size+1+1]?=some (.cells #[.slice p k c,.slice none 0 0] 25 (0,0)):=
    qj ((Go.Deep.blk_setCell_other w5 ⟨wr.heap.size,2,none⟩ _ (w.heap.size+1+1) hne).trans HA5.out)
   have HA8:=q7 hA8
   clear hN5 hN2 hA8
   go_wp2_with (at_builtin;refine qD _ rfl _ _ 22 rfl 68 iG _ 3 48 Tryz.underlying22 k1 k2 k3 k4 rfl (by decide) zC rfl HO5.out ⟨w5.heap.size,0,none⟩ 1 [.string u.globals[k].name,.int .i64 u.globals[k].size,.slice p' u.globals[k].init.length c'] u.globals[k] rfl rfl ?hn ?ho (T:=S2) ⟨_,rfl,HQ.out.2.2.2.1,HQ.out.2.2.2.2,HS5.out⟩ ?ha ?ht ?hm ?hb ?_)
   case hn=>exact qS _ _ _ (by simp[World.setCell])
   case ho=>intro u hu;simp only[List.mem_cons,List.not_mem_nil,or_false]at hu;rcases hu with rfl|rfl|rfl<;>rfl
   case ha=>exact fun k h1 h2=>by have:=HO.out.inb k h1;have:=HL2.out k h2;omega
   case ht=>exact HS2.out.sl.inb.set_alloc _ _ _
   case hm=>unfold maxLen;simp;omega
   case hb=>simp;omega
   intro v2 w8 ⟨S',hO8,hsub,hK8⟩
   obtain⟨pv,cv,hv2,_⟩:=hO8.val
   have hv3:v2 = .slice pv (k+1) cv:=by rw[hv2];congr 1;simp;omega
   clear hv2
   subst hv3
   have hSn:∀i,i<W0.heap.size→¬ S i:=fun i hi h=>by have:=HL.out i h;omega
   have hA9:=(hK8.block (w.heap.size+1+1) (q9 HA8.out) (hSn _ (by omega))).trans HA8.out
   have ho0:w8.cell? ⟨w.heap.size+1+1,0,none⟩=some (.slice p k c):=(blk hA9).1 0
   have hof:=(blk hA9).2
   have zo:=q9 hA9
   have hrel:(∃S,SlO 68 3 GloO (w8.setCell ⟨w.heap.size+1+1,0,none⟩ (.slice pv (k+1) cv)) (.slice pv (k+1) cv) (u.globals.take (k+1)) S∧LoB W0.heap.size S)∧(w8.setCell ⟨w.heap.size+1+1,0,none⟩ (.slice pv (k+1) cv)).heap[w.heap.size+1+1]?=some (.cells #[.slice pv (k+1) cv,.slice none 0 0] 25 (0,0))∧Kept (fun k=>k=w.heap.size+1+1) W0 (w8.setCell ⟨w.heap.size+1+1,0,none⟩ (.slice pv (k+1) cv)):=by
    have hlo:LoB W0.heap.size S':=fun i hi=>by
     rcases hsub i hi with h|h|h
     ·exact HL.out i h
     ·have:=HL2.out i h;omega
     simp[World.setCell]at h;omega
    refine⟨⟨S',?_,hlo⟩,?_,?_⟩
    ·have hO9:SlO 68 3 GloO w8 (.slice pv (k+1) cv) (u.globals.take (k+1)) S':=by first|exact hO8|(rw[List.take_succ_eq_append_getElem hlt];exact hO8)
     exact hO9.loc zC (fun i hi=>Go.Deep.blk_setCell_other _ _ _ _ (fun e=>by have:=hlo i hi;have e2:i=w.heap.size+1+1:=e;omega)) (by simp[World.setCell])
    ·rw[qg hA9 0 _]
     rfl
    have kA:Kept (fun k=>k=w.heap.size+1+1) W0 ((w5.setCell ⟨wr.heap.size,2,none⟩ (.slice p' u.globals[k].init.length c')).alloc (.cells #[.string u.globals[k].name,.int .i64 u.globals[k].size,.slice p' u.globals[k].init.length c'] 68)):=HK.out.trans (Kept.of_below (S:=fun _=>False) ((HR5.out.setCell (by simp) _).alloc (by simp[World.setCell];omega) _)) (fun _ _ h=>h.elim)
    exact(kA.trans hK8 (fun i hi h=>absurd h (hSn i hi))).setCell rfl _
   have ha7:=q7 hrel
   clear hA9 hO8 hsub hK8 hrel
   go_wp2_with fail
   exact⟨⟨k+1,.slice pv (k+1) cv,by omega,by go_num,ha7.out.1,ha7.out.2.1,ha7.out.2.2⟩,by simp[intOf];omega⟩
  obtain rfl:k=u.globals.length:=by omega
  rw[List.take_length]at HO
  obtain⟨W1,hW1⟩:∃W1,W1=wr:=⟨_,rfl⟩
  obtain⟨S1,hS1⟩:∃S1,S1=S:=⟨_,rfl⟩
  rw[←hW1]
  rw[←hW1,←hS1]at HO
  rw[←hW1]at HK HA1 hsz HBw
  rw[←hS1]at HL
  have HOg:=q7 HO.out
  have HLg:=q7 HL.out
  have HK1:=q7 HK.out
  have HB1:=q7 HBw.out
  have HA2:=q7 HA1.out
  have hA:=(HK1.out.block w.heap.size (by omega) (by omega)).trans HA.out
  have k1c:W1.cell? ⟨w.heap.size,1,none⟩=some (.slice q2 u.funcs.length e2):=(blk hA).1 1
  have zz1:w.heap.size<W1.heap.size:=by omega
  clear HO HL HK HBw HA1 hW1 hS1 hA
  go_wp2_with fail
  obtain⟨vg,hvg⟩:∃vg,vg=Value.slice p u.globals.length c:=⟨_,rfl⟩
  go_loopw [30] (fun i wr=>∃(k:Nat) (v:Value),k≤u.funcs.length∧i = .int .i64 k∧(∃S,SlO 37 4 FunO wr v (u.funcs.take k) S∧LoB W1.heap.size S)∧wr.heap[w.heap.size+1+1]?=some (.cells #[vg,v] 25 (0,0))∧Kept (fun k=>k=w.heap.size+1+1) W1 wr) (fun i _=>u.funcs.length - (intOf i).toNat)
  case atStart=>exact⟨0,.slice none 0 0,by omega,rfl,⟨fun _=>False,SlO.nil _ _ _ _ (fun _ h=>h.elim),fun _ h=>h.elim⟩,by rw[hvg];exact HA2.out,Kept.refl _ _⟩
  case round=>
   obtain⟨k,v,hk,rfl,⟨S,hO,hL⟩,hA,hK⟩:=hrel
   obtain⟨pf,cf,hv,_⟩:=hO.val
   rw[List.length_take_of_le hk]at hv
   subst hv
   have HO:=q7 hO
   have HL:=q7 hL
   have HK:=q7 hK
   have HA1:=q7 hA
   have hsz1:=hK.size
   have HBw:Hid (Below w.heap.size w wr):=HB1.out.trans (hK.below (by omega) (fun _ e=>by omega))
   clear hO hL hK hA
   by_cases hlt:k<u.funcs.length
   rotate_left
   ·obtain rfl:k=u.funcs.length:=by omega
    rw[List.take_length]at HO
    subst hvg
    have r0:wr.cell? ⟨w.heap.size+1+1,0,none⟩=some (.slice p u.globals.length c):=(blk HA1.out).1 0
    have r1:wr.cell? ⟨w.heap.size+1+1,1,none⟩=some (.slice pf u.funcs.length cf):=(blk HA1.out).1 1
    have hZ:=(HK.out.block (w.heap.size+1) (by omega) (by omega)).trans ((HK1.out.block (w.heap.size+1) (by omega) (by omega)).trans HZ.out)
    have rz0:wr.cell? ⟨w.heap.size+1,0,none⟩=some (.slice none 0 0):=(blk hZ).1 0
    have rz1:wr.cell? ⟨w.heap.size+1,1,none⟩=some (.slice none 0 0):=(blk hZ).1 1
    have rf:=(blk hZ).2
    have hzl:=q9 hZ
    go_wp2_with fail
    obtain⟨WF,hWF⟩:∃WF,WF=(wr.setCell ⟨w.heap.size+1,0,none⟩ (.slice p u.globals.length c)).setCell ⟨w.heap.size+1,1,none⟩ (.slice pf u.funcs.length cf):=⟨_,rfl⟩
    rw[←hWF]
    have hF1:WF.heap[w.heap.size+1]?=some (.cells #[.slice p u.globals.length c,.slice pf u.funcs.length cf] 25 (0,0)):=by
     rw[hWF,qg (qg hZ 0 _) 1 _]
     rfl
    have hFo:∀k,k≠w.heap.size+1→WF.heap[k]?=wr.heap[k]?:=fun k h1=>by
     rw[hWF]
     repeat rw[Go.Deep.blk_setCell_other _ _ _ _ (by assumption)]
    have hFs:WF.heap.size=wr.heap.size:=by rw[hWF];simp[World.setCell]
    have hFb:Below w.heap.size w WF:=by
     rw[hWF]
     exact(HBw.out.setCell (by simp) _).setCell (by simp) _
    clear hWF
    have k0:=(blk hF1).1 0
    have k1':=(blk hF1).1 1
    have hG:=(HOg.out.kept zC HK.out (fun i e hi=>by have:=HLg.out i hi;omega)).loc (w':=WF) zC (fun i hi=>hFo i (fun e=>by have:=HLg.out i hi;omega)) (by omega)
    have hF:=HO.out.loc (w':=WF) zj (fun i hi=>hFo i (fun e=>by have:=HL.out i hi;omega)) (by omega)
    refine bodyPost_ret (v:=.agg #[.slice p u.globals.length c,.slice pf u.funcs.length cf]) ?_ rfl ⟨⟨p,c,pf,cf,rfl,fun k=>S1 k∨S k,⟨_,_,S1,S,rfl,⟨hG,HBd.out.1⟩,⟨hF,HBd.out.2⟩,fun i h1 h2=>?_,fun _ h=>.inl h,fun _ h=>.inr h⟩,fun i hi=>?_⟩,hFb⟩
    ·simp[results,Tryz.results21,go_sem,k0,k1']
    ·have:=HOg.out.inb i h1;have:=HL.out i h2;omega
    rcases hi with h|h
    ·have:=HLg.out i h;omega
    have:=HL.out i h;omega
   obtain⟨bp,op,cs,hp,_,hc,b0,rfl,b3,b4,b5,b6⟩:=HFs.out.get hlt
   subst hp
   obtain⟨q3,d3,rfl,_⟩:=b6.outC
   have hc0:=hc 0 (by omega)
   have hbp:=q8 hc0
   have c0:=(HBw.out.cell (p:=⟨bp,_,none⟩) hbp).trans hc0
   have c1:=(HBw.out.cell (p:=⟨bp,_,none⟩) hbp).trans (hc 1 (by omega))
   have c2:=(HBw.out.cell (p:=⟨bp,_,none⟩) hbp).trans (hc 2 (by omega))
   have c3:=(HBw.out.cell (p:=⟨bp,_,none⟩) hbp).trans (hc 3 (by omega))
   simp only[List.getElem?_cons_zero,List.getElem?_cons_succ,Nat.add_zero]at c0 c1 c2 c3
   have HR:=q7 (And.intro b3 (And.intro b4 (And.intro b5 b6)))
   clear hc hc0 b3 b4 b5 b6
   go_wp2_with fail
   obtain⟨w1,hw1⟩:∃w1,w1=wr.alloc (.cells #[.string u.funcs[k].name,.int .i64 u.funcs[k].params,.int .i64 u.funcs[k].regs,.slice q3 u.funcs[k].blocks.length d3] 37):=⟨_,rfl⟩
   rw[←hw1]
   have hz1:w1.heap.size=wr.heap.size+1:=by rw[hw1];simp
   have HBr:Hid (Below wr.heap.size wr w1):=q7 (by rw[hw1];exact bZ)
   have HX1:Hid (w1.heap[wr.heap.size]?=some (.cells #[.string u.funcs[k].name,.int .i64 u.funcs[k].params,.int .i64 u.funcs[k].regs,.slice q3 u.funcs[k].blocks.length d3] 37 (0,0))):=q7 (by rw[hw1];exact qh rfl)
   clear hw1
   have hzA:w.heap.size+1+1<wr.heap.size:=by omega
   obtain⟨Sp,hSp⟩:∃Sp:World→Prop,Sp=fun w'=>w'.heap[w.heap.size+1+1]?=some (.cells #[vg,.slice pf k cf] 25 (0,0))∧w'.heap[wr.heap.size]?=some (.cells #[.string u.funcs[k].name,.int .i64 u.funcs[k].params,.int .i64 u.funcs[k].regs,.slice q3 u.funcs[k].blocks.length d3] 37 (0,0)):=⟨_,rfl⟩
   have ha6:∀w',Sp w'→(w'.cell? ⟨w.heap.size+1+1,1,none⟩=some (.slice pf k cf))∧(∀j,w'.cell? ⟨wr.heap.size,j,none⟩=(#[.string u.funcs[k].name,.int .i64 u.funcs[k].params,.int .i64 u.funcs[k].regs,.slice q3 u.funcs[k].blocks.length d3]:Array Value)[j]?)∧w.heap.size+1+1<w'.heap.size∧wr.heap.size<w'.heap.size∧w'.frozen? ⟨w.heap.size+1+1,1,none⟩=false:=fun w' h=>by
    rw[hSp]at h
    exact⟨(blk h.1).1 1,(blk h.2).1,q9 h.1,q9 h.2,(blk h.1).2 1⟩
   have hSk:∀{U:Blks} {x y:World},Sp x→Kept U x y→¬ U (w.heap.size+1+1)→¬ U wr.heap.size→Sp y:=fun {U x y} h hk n1 n2=>by
    rw[hSp]at h ⊢
    exact⟨(hk.block _ (q9 h.1) n1).trans h.1,(hk.block _ (q9 h.2) n2).trans h.2⟩
   have haS:Sp w1:=by
    rw[hSp]
    exact⟨(HBr.out.block _ hzA).trans HA1.out,HX1.out⟩
   have hS1:Sp w1.drew:=by
    rw[hSp]at haS ⊢
    exact haS
   refine qm (S:=Sp) (by kernel_rfl) 7 ?_
   refine tkZ 0 34 (.pointer (some ⟨w.heap.size+1+1,1,none⟩)) rfl rfl hS1 (fun w' h=>?_) ?_
   ·obtain⟨h1,h2,h3,h4,h5⟩:=ha6 w' h
    go_simp
   refine tkZ 1 35 (.slice pf k cf) rfl rfl hS1 (fun w' h=>?_) ?_
   ·obtain⟨h1,h2,h3,h4,h5⟩:=ha6 w' h
    go_simp
   refine tkZ 2 36 (.agg #[.string u.funcs[k].name,.int .i64 u.funcs[k].params,.int .i64 u.funcs[k].regs,.slice q3 u.funcs[k].blocks.length d3]) rfl rfl hS1 (fun w' h=>?_) ?_
   ·obtain⟨h1,h2,h3,h4,h5⟩:=ha6 w' h
    have g0:=h2 0
    have g1:=h2 1
    have g2:=h2 2
    have g3:=h2 3
    go_simp
   have hw1:Below w.heap.size w w1.drew:=(HBw.out.trans (HBr.out.mono (by omega))).drew
   refine qk (i:=3) (by kernel_rfl) (qt 37 rfl rfl rfl (by go_simp) (Qu u.funcs[k] q3 d3 w1.drew HR.out.1 HR.out.2.1 HR.out.2.2.1 (HR.out.2.2.2.mono hw1 (by omega) fun _ _ g=>g.below hw1)) ?_)
   rintro e w2 ⟨⟨p1,m1,rfl,T,hT,hTl⟩,hb2⟩
   have hTi:InB w2 T:=by
    obtain⟨_,_,_,_,_,h⟩:=hT
    exact h.sl.inb
   have hb2:Below w1.heap.size w1 w2:=(Below.refl _ w1).drew.trans hb2
   have hTl:∀k,T k→w1.heap.size≤k:=hTl
   have hS2:Sp w2:=hSk (x:=w1) haS (Kept.of_below (S:=fun _=>False) hb2) (fun h=>h) (fun h=>h)
   refine⟨_,rfl,hS2,?_⟩
   have hO2:=HO.out.below zj (HBr.out.trans (hb2.mono (by omega)))
   have hz2:=hb2.size
   have HO2:=q7 hO2
   have HT2:=q7 hT
   have HTl:=q7 hTl
   have HTi:=q7 hTi
   have HB2:=q7 hb2
   clear hT hTl hTi hb2 hO2
   have hS3:Sp (w2.alloc (.cells #[.string u.funcs[k].name,.int .i64 u.funcs[k].params,.int .i64 u.funcs[k].regs,.slice p1 u.funcs[k].blocks.length m1] 37)):=hSk hS2 ((Kept.refl (fun _=>False) _).alloc _) (fun h=>h) (fun h=>h)
   refine qk (i:=4) (by kernel_rfl) (qn 38 (.slice (some ⟨w2.heap.size,0,none⟩) 1 1) (w2.alloc (.cells #[.string u.funcs[k].name,.int .i64 u.funcs[k].params,.int .i64 u.funcs[k].regs,.slice p1 u.funcs[k].blocks.length m1] 37)) rfl rfl rfl (by go_simp) hS3 ?_)
   refine qk (i:=5) (by kernel_rfl) (zx 39 _ _ 23 rfl rfl rfl rfl 37 iF _ 4 56 Tryz.underlying23 l1 l2 l3 l4 rfl (by decide) zj rfl (HO2.out.below zj ((Below.refl _ _).alloc (Nat.le_refl _) _)) ⟨w2.heap.size,0,none⟩ 1 [.string u.funcs[k].name,.int .i64 u.funcs[k].params,.int .i64 u.funcs[k].regs,.slice p1 u.funcs[k].blocks.length m1] u.funcs[k] rfl rfl ?hn ?ho (T:=T) ?hy ?ha ?ht ?hm ?hb ?_)
   case hn=>exact qS _ _ _ rfl
   case ho=>intro u hu;simp only[List.mem_cons,List.not_mem_nil,or_false]at hu;rcases hu with rfl|rfl|rfl|rfl<;>rfl
   case hy=>exact zj _ _ _ _ _ HT2.out (fun k hk=>Below.heap_alloc _ _ k (HTi.out k hk)) (by simp)
   case ha=>exact fun k h1 h2=>by have:=HO.out.inb k h1;have:=HTl.out k h2;omega
   case ht=>exact HTi.out.mono (by simp)
   case hm=>unfold maxLen;simp;omega
   case hb=>simp;omega
   intro v2 w4 ⟨S',hO4,hsub,hK4⟩
   obtain⟨pv,cv,hv2,_⟩:=hO4.val
   have hv3:v2 = .slice pv (k+1) cv:=by rw[hv2];congr 1;simp;omega
   clear hv2
   subst hv3
   have hSn:∀i,i<W1.heap.size→¬ S i:=fun i hi h=>by have:=HL.out i h;omega
   have hhC:¬ S wr.heap.size:=fun h=>by have:=HO.out.inb _ h;omega
   have hS4:Sp w4:=hSk hS3 hK4 (hSn _ (by omega)) hhC
   refine⟨hS4,?_⟩
   refine tkZ 6 40 (.pointer (some ⟨w.heap.size+1+1,1,none⟩)) rfl rfl hS4 (fun w' h=>?_) ?_
   ·obtain⟨h1,h2,h3,h4,h5⟩:=ha6 w' h
    go_simp
   obtain⟨h1,h2,h3,h4,h5⟩:=ha6 w4 hS4
   clear h2
   refine qk (i:=7) (by kernel_rfl) (qz (w4.setCell ⟨w.heap.size+1+1,1,none⟩ (.slice pv (k+1) cv)) rfl rfl rfl (by go_simp) (fun h=>absurd rfl h) (qB (by kernel_rfl) ?_ _))
   show Exit.inBlock 3 _ Exit.normal _ _
   have hrel:(∃S,SlO 37 4 FunO (w4.setCell ⟨w.heap.size+1+1,1,none⟩ (.slice pv (k+1) cv)) (.slice pv (k+1) cv) (u.funcs.take (k+1)) S∧LoB W1.heap.size S)∧(w4.setCell ⟨w.heap.size+1+1,1,none⟩ (.slice pv (k+1) cv)).heap[w.heap.size+1+1]?=some (.cells #[vg,.slice pv (k+1) cv] 25 (0,0))∧Kept (fun k=>k=w.heap.size+1+1) W1 (w4.setCell ⟨w.heap.size+1+1,1,none⟩ (.slice pv (k+1) cv)):=by
    have hlo:LoB W1.heap.size S':=fun i hi=>by
     rcases hsub i hi with h|h|h
     ·exact HL.out i h
     ·have:=HTl.out i h;omega
     simp at h;omega
    have e4:w4.heap[w.heap.size+1+1]?=some (.cells #[vg,.slice pf k cf] 25 (0,0)):=by
     rw[hSp]at hS4
     exact hS4.1
    refine⟨⟨S',?_,hlo⟩,?_,?_⟩
    ·have hO9:SlO 37 4 FunO w4 (.slice pv (k+1) cv) (u.funcs.take (k+1)) S':=by first|exact hO4|(rw[List.take_succ_eq_append_getElem hlt];exact hO4)
     exact hO9.loc zj (fun i hi=>Go.Deep.blk_setCell_other _ _ _ _ (fun e=>by have:=hlo i hi;have e2:i=w.heap.size+1+1:=e;omega)) (by simp[World.setCell])
    ·rw[qg e4 1 _]
     rfl
    have kA:Kept (fun k=>k=w.heap.size+1+1) W1 w2:=HK.out.trans (Kept.of_below (S:=fun _=>False) (HBr.out.trans (HB2.out.mono (by omega)))) (fun _ _ h=>h.elim)
    exact((kA.alloc _).trans hK4 (fun i hi h=>absurd h (hSn i hi))).setCell rfl _
   have ha7:=q7 hrel
   clear hrel hS4 h1 h3 h4 h5 hO4 hsub hK4 hS3 hS2
   go_wp2_with fail
   exact⟨⟨k+1,.slice pv (k+1) cv,by omega,by go_num,ha7.out.1,ha7.out.2.1,ha7.out.2.2⟩,by simp[intOf];omega⟩
end Go.Proofs.YtecdphhdmjmmnaaGreatDoor
namespace Go.Proofs.YtecdphhdmjmmnaaGreatDoor
open Go.RowKit

theorem SlW.cell {α:Type} {e:TypeId} {size:Nat} {R:ElemO α} {w:World} {v:Value} {xs:List α} {S:Blks} {cs:Nat→List Value} {T:Nat→Blks} (h:SlW e size R w v xs S cs T) {i:Nat} (hi:i<xs.length):∃g c,v = .slice (some ⟨g,0,none⟩) xs.length c∧S g∧g<w.heap.size∧∀j,j<size→w.cell? ⟨g,i*size+j,none⟩=(cs i)[j]?:=by
 rcases h.own.2 with⟨_,h2⟩|⟨g,cap,cur,hv,_,hg,_,_,_,htk⟩
 ·omega
 refine⟨g,cap,hv,h.blk g (by rw[hv];rfl),(Array.getElem?_eq_some_iff.1 hg).1,fun j hj=>?_⟩
 rw[cell_of_row w g _ cur e (0,0) hg]
 have hlt:i*size+j<xs.length*size:=by
  have:(i+1)*size≤xs.length*size:=Nat.mul_le_mul_right _ hi
  rw[Nat.add_mul]at this
  omega
 rw[←zm xs.length h.len i j hi hj,←htk,List.getElem?_take_of_lt hlt,Array.getElem?_toList]

def putL (b:BlkL) (l:List InsL):BlkL:={ b with list:=l }
def setI (f:FunL) (m j:Nat) (i:InsL):FunL:={ f with blocks:=f.blocks.modify m fun b=>putL b (b.list.set j i) }
theorem Xw {f:FunL} {m j:Nat} {i:InsL} (hm:m<f.blocks.length):f.blocks.modify m (fun b=>putL b (b.list.set j i))=f.blocks.set m (putL f.blocks[m] (f.blocks[m].list.set j i)):=by
 refine List.ext_getElem (by simp) fun k h1 h2=>?_
 have h3:k<f.blocks.length:=by simpa using h1
 rw[List.getElem_modify,List.getElem_set]
 split
 ·next e=>subst e;rfl
 rfl

theorem FunO.ins {w:World} {cs:List Value} {f:FunL} {T:Blks} (h:FunO w cs f T) {m j:Nat} (hm:m<f.blocks.length) (hj:j<f.blocks[m].list.length):∃bb cb lb c2 ci Ti,cs=[.string f.name,.int .i64 f.params,.int .i64 f.regs,.slice (some ⟨bb,0,none⟩) f.blocks.length cb]∧
  w.cell? ⟨bb,m*6+1,none⟩=some (.slice (some ⟨lb,0,none⟩) f.blocks[m].list.length c2)∧T bb∧T lb∧lb≠bb∧InsO w ci f.blocks[m].list[j] Ti∧¬ Ti lb∧¬ Ti bb∧(∀k,Ti k→T k)∧(∀jj,jj<8→w.cell? ⟨lb,j*8+jj,none⟩=ci[jj]?)∧ci.length=8∧(∀o,w.frozen? ⟨lb,o,none⟩=false)∧(∃cur,w.heap[lb]?=some (.cells cur 53 (0,0)))∧
  ∀(w':World) (ci':List Value) (i':InsL) (Ti':Blks),RowPut w w' 53 lb (j*8) 8 ci'→ci'.length=8→(∀u∈ci',u.oneCell'=true)→w.heap.size≤w'.heap.size→(∀k,T k→¬ Ti k→k≠lb→w'.heap[k]?=w.heap[k]?)→
   InsO w' ci' i' Ti'→(∀k,Ti' k→(Ti k∨w.heap.size≤k)∧k<w'.heap.size)→FunO w' cs (setI f m j i') (fun k=>T k∨Ti' k):=by
 obtain⟨v,hcs,hnm,i1,i2,hB⟩:=h
 obtain⟨bb,cb,cB,TB,hv,hbs,hTb,hlB,hoW,hnb,hTB,hcB,hfB,⟨curB,hhD⟩,hput⟩:=hB.sl.focus qE (by omega) hm
 obtain⟨v1,v2,v3,S1,S2,S3,rfl,j1,j2,h3,h4,h5,a1,a2,a3,g1,g2,g3⟩:=hoW
 obtain⟨lb,c2,ci,Ti,hv2,hls,hSl,hli,hI,hnl,hTi,hci,hfi,hau,hhE⟩:=h4.sl.focus qH (by omega) hj
 subst hv hv2
 have hne:lb≠bb:=fun e=>hnb (g2 _ (by rw[←e];exact hSl))
 refine⟨bb,cb,lb,c2,ci,Ti,hcs,(hcB 1 (by omega)),hTb,hTB _ (g2 _ hSl),hne,hI,hnl,fun h=>hnb (g2 _ (hTi _ h)),fun k hk=>hTB _ (g2 _ (hTi _ hk)),hci,hli,hfi,hau,?_⟩
 intro w' ci' i' Ti' hp hl' h1' hs hk hI' hT'
 have e1:∀k,T k→¬ Ti k→k≠lb→w'.heap[k]?=w.heap[k]?:=hk
 have hL:=hhE w' ci' i' Ti' hp hl' h1' hs (fun k hk1 hk2 hk3=>e1 k (hTB _ (g2 _ hk1)) hk2 hk3) hI' hT'
 have hlen:(f.blocks[m].list.set j i').length=f.blocks[m].list.length:=by simp
 have h1n:∀k,S1 k→w'.heap[k]?=w.heap[k]?:=fun k hk=>e1 k (hTB _ (g1 _ hk)) (fun h=>a1 _ hk (hTi _ h)) (fun e=>a1 _ hk (by rw[e];exact hSl))
 have h3n:∀k,S3 k→w'.heap[k]?=w.heap[k]?:=fun k hk=>e1 k (hTB _ (g3 _ hk)) (fun h=>a3 _ (hTi _ h) hk) (fun e=>a3 _ hSl (by rw[←e];exact hk))
 have hoX:w'.heap[bb]?=w.heap[bb]?:=e1 bb hTb (fun h=>hnb (g2 _ (hTi _ h))) (fun e=>hne e.symm)
 have hB':BlkO w' [v1,.slice (some ⟨lb,0,none⟩) f.blocks[m].list.length c2,.int .i64 f.blocks[m].fin.kind,.bool f.blocks[m].fin.onr,.int .i64 f.blocks[m].fin.onn,v3] (putL f.blocks[m] (f.blocks[m].list.set j i')) (fun k=>TB k∨Ti' k):=by
  refine⟨v1,_,v3,S1,fun k=>S2 k∨Ti' k,S3,rfl,j1,j2,h3.loc zq (fun _ g=>g) h1n hs,⟨?_,by show(f.blocks[m].list.set j i').length*80≤_;rw[hlen];exact h4.bd⟩,h5.loc qT (fun _ g=>g) h3n hs,fun k x y=>?_,a2,fun k x y=>?_,fun k x=>.inl (g1 k x),fun k x=>?_,fun k x=>.inl (g3 k x)⟩
  ·exact hL
  ·rcases y with y|y
   ·exact a1 k x y
   rcases (hT' k y).1 with z|z
   ·exact a1 k x (hTi _ z)
   have:=h3.sl.inb k x;omega
  ·rcases x with x|x
   ·exact a3 k x y
   rcases (hT' k x).1 with z|z
   ·exact a3 k (hTi _ z) y
   have:=h5.sl.inb k y;omega
  rcases x with x|x
  ·exact .inl (g2 k x)
  exact .inr x
 have hhF:(f.blocks.set m (putL f.blocks[m] (f.blocks[m].list.set j i'))).length=f.blocks.length:=by simp
 have hF:=hput w' _ (putL f.blocks[m] (f.blocks[m].list.set j i')) (fun k=>TB k∨Ti' k) (RowPut.same hhD hoX hcB) hlB (fun u hu=>?_) hs (fun k hk1 hk2 hk3=>e1 k hk1 (fun h=>hk2 (g2 _ (hTi _ h))) (fun e=>hk2 (by rw[e];exact g2 _ hSl))) hB' (fun k hk=>?_)
 ·refine⟨.slice (some ⟨bb,0,none⟩) f.blocks.length cb,hcs,hnm,i1,i2,⟨?_,?_⟩⟩
  ·show SlO _ _ _ _ _ (f.blocks.modify m _) _
   rw[Xw hm]
   exact hF.grow (fun k hk=>hk.elim .inl fun x=>x.elim (fun x=>.inl (hTB _ x)) .inr) (fun k hk=>by
    rcases hk with x|x
    ·exact Nat.lt_of_lt_of_le (hB.sl.inb k x) hs
    exact(hT' k x).2)
  show(f.blocks.modify m _).length*96≤_
  rw[Xw hm,hhF]
  exact hB.bd
 ·obtain⟨q1,d1,rfl,_⟩:=h3.sl.val
  obtain⟨q3,d3,rfl,_⟩:=h5.sl.val
  simp only[List.mem_cons,List.not_mem_nil,or_false]at hu
  rcases hu with rfl|rfl|rfl|rfl|rfl|rfl<;>rfl
 rcases hk with x|x
 ·exact⟨.inl x,Nat.lt_of_lt_of_le (hB.sl.inb k (hTB k x)) hs⟩
 refine⟨?_,(hT' k x).2⟩
 rcases (hT' k x).1 with z|z
 ·exact .inl (g2 _ (hTi _ z))
 exact .inr z
end Go.Proofs.YtecdphhdmjmmnaaGreatDoor
