/-
  Plain: a block's end and phis, a phi, written anew in memory of the call's own.
-/
import Derived.Test.YtgjjhadbjmcnpaaGreatDoorJTidJ
namespace Go.Proofs.YtgjjhadbjmcnpaaGreatDoor
open Go.RowKit

def stL (L:List Nat):NamS:=L.foldl jl nam0
theorem stL_add (L M:List Nat):M.foldl jl (stL L)=stL (L++M):=by unfold stL;rw [List.foldl_append]
theorem stL_one (L:List Nat) (r:Nat):jl (stL L) r=stL (L++[r]):=by unfold stL;rw [List.foldl_append];rfl
def XV (L:List Nat):List Nat:=L.foldl (fun D r=>if r∈D then D else D++[r]) []
theorem stL_is (L:List Nat):stL L=stD (XV L):=by
 unfold stL XV
 rw [nam0_st,Zh]
theorem vH (L:List Nat):(XV L).Nodup∧∀r,r∈XV L↔r∈L:=by
 have h:=xL (L:=L) (D:=[]) List.nodup_nil
 refine ⟨h.1,fun r=>?_⟩
 have:=h.2.2 r
 simpa [XV] using this
theorem oncL_len {L:List Nat} {m:Nat} (h:∀r∈L,r<m):(XV L).length≤m:=xE m _ (vH L).1 fun r hr=>h r (((vH L).2 r).1 hr)
theorem stL_bd {L:List Nat} {m:Nat} (h:∀r∈L,r<m):(0≤(stL L).2∧(stL L).2≤m)∧∀j,-1≤(stL L).1 j∧(stL L).1 j≤m:=by
 have hl:=oncL_len h
 rw [stL_is]
 refine ⟨⟨by show (0:Int)≤((XV L).length:Int);omega,by show ((XV L).length:Int)≤m;omega⟩,fun j=>?_⟩
 show -1≤qB (XV L) j∧qB (XV L) j≤m
 unfold qB
 split
 ·next hj=>have:=(xx hj).1;omega
 omega
theorem oncL_more (L M:List Nat):∃E,XV (L++M)=XV L++E:=by
 unfold XV
 rw [List.foldl_append]
 exact (xL (L:=M) (D:=XV L) (vH L).1).2.1
theorem stL_stay {L:List Nat} (M:List Nat) {r:Nat} (h:r∈L):(stL (L++M)).1 r=(stL L).1 r:=by
 obtain ⟨E,hE⟩:=oncL_more L M
 rw [stL_is,stL_is,hE]
 show qB (XV L++E) r=qB (XV L) r
 have h1:=((vH L).2 r).2 h
 rw [xp (List.mem_append_left _ h1),xp h1,List.idxOf_append,if_pos h1]
theorem FunC.metLt {nf:Nat} {P:Nat→Int} {f:FunL} (h:FunC nf P f):∀r∈k8 f++Qg f,r<f.regs.toNat:=fun r hr=>by
 have:=h.met (metL_mem.2 hr)
 omega
def OkV (m:Nat) (v:Bool×Int):Prop:=v.1=true→0≤v.2∧v.2<(m:Int)
structure OkB (m:Nat) (x:BlkL):Prop where
 dst:∀p∈x.phis,0≤p.dst∧p.dst<(m:Int)
 src:∀p∈x.phis,∀v∈p.src,OkV m v
 ia:∀i∈x.list,OkV m (i.ar,i.an)
 ib:∀i∈x.list,OkV m (i.br,i.bn)
 ic:∀i∈x.list,∀v∈i.args,OkV m v
 id:∀i∈x.list,i.dst<(m:Int)
 on:OkV m (x.fin.onr,x.fin.onn)
theorem FunC.okB {nf:Nat} {P:Nat→Int} {f:FunL} (h:FunC nf P f) {b:Nat} (hb:b<f.blocks.length):OkB f.regs.toNat f.blocks[b]:=by
 have hg:=h.reg
 have hp:=h.par
 have hm:((f.regs.toNat:Nat):Int)=f.regs:=by omega
 have val:∀{v:Bool×Int},Q5 f.regs v.1 v.2→OkV f.regs.toNat v:=fun hv e=>by rw [hm];exact hv e
 have hi:∀i∈f.blocks[b].list,InsC f.regs nf P i:=fun i hi=>insC_iff.1 (h.ins b hb i hi)
 refine ⟨fun p hp=>?_,fun p hp v hv=>val ((h.phi b hb p hp).src v hv),fun i hii=>val (v:=(i.ar,i.an)) (hi i hii).a,fun i hii=>val (v:=(i.br,i.bn)) (hi i hii).b,fun i hii v hv=>?_,fun i hii=>?_,val (v:=(f.blocks[b].fin.onr,f.blocks[b].fin.onn)) (h.fin b hb).on⟩
 ·have:=(h.phi b hb p hp).dst
  rw [hm]
  exact this
 ·by_cases e:i.op=20
  ·exact val (((hi i hii).call e).2.2 v hv)
  have:=((hi i hii).c0 e).2
  rw [List.eq_nil_of_length_eq_zero this] at hv
  cases hv
 rw [hm]
 have hc:=hi i hii
 by_cases e:shD i.op=true∧¬(i.op=20∧i.dst = -1)
 ·exact (hc.d1 e.1 e.2).2
 by_cases e2:shD i.op=true
 ·have e3:i.op=20∧i.dst = -1:=Classical.byContradiction fun g=>e ⟨e2,g⟩
  omega
 have:=hc.d0 (by simpa using e2)
 omega
structure NmL (w:World) (nb A m:Nat) (L:List Nat):Prop where
 st:NmSt w nb A m (stL L)
 lt:∀r∈L,r<m
 m100:m≤100
theorem NmL.kept {U:Blks} {w w':World} {nb A m:Nat} {L:List Nat} (h:NmL w nb A m L) (hk:Kept U w w') (h1:¬ U nb) (h2:¬ U A):NmL w' nb A m L:=⟨h.st.kept hk h1 h2,h.lt,h.m100⟩
theorem NmL.below {w w':World} {nb A m:Nat} {L:List Nat} (h:NmL w nb A m L) (hb:Below w.heap.size w w'):NmL w' nb A m L:=⟨h.st.below hb,h.lt,h.m100⟩
theorem NmL.at {w:World} {nb A m:Nat} {L:List Nat} (h:NmL w nb A m L):nb<w.heap.size∧A<w.heap.size:=⟨qd h.st.st,h.st.row.lt⟩
theorem metV_lt {m:Nat} {v:Bool×Int} (hv:OkV m v):∀r∈xq v,r<m:=fun r hr=>by
 obtain ⟨e1,e2⟩:=metV_is hr
 have:=hv e1
 omega
theorem vj {w:World} {nb A m:Nat} {L:List Nat} (h:NmL w nb A m L) (r:Nat) (hr:r<m) :
  Calls Tryz.prog 93 #[.pointer (some ⟨nb,0,none⟩),.int .i64 r] w fun e w'=>e = .returned (.int .i64 ((stL (L++[r])).1 r))∧NmL w' nb A m (L++[r])∧Kept (fun k=>k=nb∨k=A) w w':=by
 have hb:=stL_bd h.lt
 have hnZ:=h.m100
 refine (XE r nb A m (stL L) w h.st hr ⟨(hb.2 r).1,by have:=(hb.2 r).2;omega⟩).mono ?_
 rintro e w' ⟨h1,h2,h3⟩
 rw [stL_one] at h1 h2
 exact ⟨h1,⟨h2 (by omega),fun x hx=>(List.mem_append.1 hx).elim (h.lt x) (fun e=>by rw [List.mem_singleton.1 e];exact hr),h.m100⟩,h3⟩
theorem j5 {w:World} {nb A m:Nat} {L:List Nat} (h:NmL w nb A m L) (v:Bool×Int) (hv:OkV m v) :
  Calls Tryz.prog 94 #[.pointer (some ⟨nb,0,none⟩),.agg #[.bool v.1,.int .i64 v.2]] w fun e w'=>e = .returned (.agg #[.bool v.1,.int .i64 (zD (stL (L++xq v)).1 v).2])∧NmL w' nb A m (L++xq v)∧Kept (fun k=>k=nb∨k=A) w w':=by
 have hb:=stL_bd h.lt
 have hnZ:=h.m100
 refine (nval_any v nb A m (stL L) w h.st hv (fun r=>⟨(hb.2 r).1,by have:=(hb.2 r).2;omega⟩)).mono ?_
 rintro e w' ⟨h1,h2,h3⟩
 rw [stL_add] at h1 h2
 exact ⟨h1,⟨h2 (by omega),fun x hx=>(List.mem_append.1 hx).elim (h.lt x) (metV_lt hv x),h.m100⟩,h3⟩
/-! what is met so far, as a part of all that is met -/
theorem ky {α β:Type} {f:α→List β} {l:List α} {j:Nat} (h:j<l.length) {q:List β} (hq:q <+: f l[j]):(l.take j).flatMap f++q <+: l.flatMap f:=by
 obtain ⟨r,hr⟩:=hq
 refine ⟨r++(l.drop (j+1)).flatMap f,?_⟩
 have e:l.flatMap f=(l.take j++l[j]::l.drop (j+1)).flatMap f:=by rw [List.getElem_cons_drop,List.take_append_drop]
 rw [e,List.flatMap_append,List.flatMap_cons,←hr]
 simp
theorem pre_app {β:Type} {a b c:List β} (h:a++b <+: c):a <+: c:=(List.prefix_append a b).trans h
theorem Jo {L K:List Nat} (h:L <+: K) {r:Nat} (hr:r∈L):(stL L).1 r=(stL K).1 r:=by
 obtain ⟨R,rfl⟩:=h
 exact (stL_stay R hr).symm
theorem kB {L K:List Nat} {v:Bool×Int} (h:L++xq v <+: K):(zD (stL (L++xq v)).1 v).2=(zD (stL K).1 v).2:=by
 unfold zD
 by_cases e:v.1=true
 ·rw [if_pos e,if_pos e]
  exact Jo h (List.mem_append_right _ (xw e))
 rw [if_neg e,if_neg e]
theorem Ve (m:Nat→Int) (v:Bool×Int):(zD m v).1=v.1:=by
 unfold zD
 split
 ·next e=>exact e.symm
 rfl
def metP (p:PhiL):List Nat:=p.dst.toNat::p.src.flatMap xq
def renP (m:Nat→Int) (p:PhiL):PhiL:={ dst:=m p.dst.toNat,src:=p.src.map (zD m) }
theorem Jp (x:BlkL):Z0 x=x.phis.flatMap metP++x.list.flatMap (fun i=>vN i++jg i.dst)++xq (x.fin.onr,x.fin.onn):=rfl
theorem renB_is (m:Nat→Int) (x:BlkL):kP m x={ phis:=x.phis.map (renP m),list:=x.list.map (xU m),fin:={ x.fin with onn:=(zD m (x.fin.onr,x.fin.onn)).2 } }:=rfl
theorem RowPut.two {w w1:World} {e:TypeId} {g o:Nat} {c0 c1:Value} (h:RowPut w w1 e g o 2 [c0,c1]) (a0 a1:Value):RowPut w ((w1.setCell ⟨g,o,none⟩ a0).setCell ⟨g,o+1,none⟩ a1) e g o 2 [a0,a1]:=by
 have h0:=RowPut.set h rfl (j:=0) (by omega) a0
 simp only [Nat.add_zero,List.set_cons_zero] at h0
 have h1:=RowPut.set h0 rfl (j:=1) (by omega) a1
 simp only [List.set_cons_succ,List.set_cons_zero] at h1
 exact h1
def eight (w:World) (g o:Nat) (a0 a1 a2 a3 a4 a5 a6 a7:Value):World:=(((((((w.setCell ⟨g,o,none⟩ a0).setCell ⟨g,o+1,none⟩ a1).setCell ⟨g,o+2,none⟩ a2).setCell ⟨g,o+3,none⟩ a3).setCell ⟨g,o+4,none⟩ a4).setCell ⟨g,o+5,none⟩ a5).setCell ⟨g,o+6,none⟩ a6).setCell ⟨g,o+7,none⟩ a7
theorem Zi (w:World) (g o:Nat) (a0 a1 a2 a3 a4 a5 a6 a7:Value):Kept (fun i=>i=g) w (eight w g o a0 a1 a2 a3 a4 a5 a6 a7):=by
 unfold eight
 have h0:Kept (fun i=>i=g) w w:=Kept.refl _ w
 have h1:=h0.setCell (p:=⟨g,o,none⟩) rfl a0
 have h2:=h1.setCell (p:=⟨g,o+1,none⟩) rfl a1
 have h3:=h2.setCell (p:=⟨g,o+2,none⟩) rfl a2
 have h4:=h3.setCell (p:=⟨g,o+3,none⟩) rfl a3
 have h5:=h4.setCell (p:=⟨g,o+4,none⟩) rfl a4
 have h6:=h5.setCell (p:=⟨g,o+5,none⟩) rfl a5
 have h7:=h6.setCell (p:=⟨g,o+6,none⟩) rfl a6
 exact h7.setCell (p:=⟨g,o+7,none⟩) rfl a7
theorem RowPut.eight {w w1:World} {e:TypeId} {g o:Nat} {cs:List Value} (h:RowPut w w1 e g o 8 cs) (hl:cs.length=8) (a0 a1 a2 a3 a4 a5 a6 a7:Value):RowPut w (Go.Proofs.YtgjjhadbjmcnpaaGreatDoor.eight w1 g o a0 a1 a2 a3 a4 a5 a6 a7) e g o 8 [a0,a1,a2,a3,a4,a5,a6,a7]:=by
 obtain ⟨c0,c1,c2,c3,c4,c5,c6,c7,rfl⟩:=len_8 hl
 have h0:=RowPut.set h rfl (j:=0) (by omega) a0
 simp only [Nat.add_zero,List.set_cons_zero] at h0
 have h1:=RowPut.set h0 rfl (j:=1) (by omega) a1
 simp only [List.set_cons_succ,List.set_cons_zero] at h1
 have h2:=RowPut.set h1 rfl (j:=2) (by omega) a2
 simp only [List.set_cons_succ,List.set_cons_zero] at h2
 have h3:=RowPut.set h2 rfl (j:=3) (by omega) a3
 simp only [List.set_cons_succ,List.set_cons_zero] at h3
 have h4:=RowPut.set h3 rfl (j:=4) (by omega) a4
 simp only [List.set_cons_succ,List.set_cons_zero] at h4
 have h5:=RowPut.set h4 rfl (j:=5) (by omega) a5
 simp only [List.set_cons_succ,List.set_cons_zero] at h5
 have h6:=RowPut.set h5 rfl (j:=6) (by omega) a6
 simp only [List.set_cons_succ,List.set_cons_zero] at h6
 have h7:=RowPut.set h6 rfl (j:=7) (by omega) a7
 simp only [List.set_cons_succ,List.set_cons_zero] at h7
 unfold Go.Proofs.YtgjjhadbjmcnpaaGreatDoor.eight
 exact h7
end Go.Proofs.YtgjjhadbjmcnpaaGreatDoor
namespace Go.Proofs.YtgjjhadbjmcnpaaGreatDoor
open Go.RowKit Go.Shelf

section
variable {P : Program} {md : Region.Mode} {ops : Array Oper} {Q : Exit → Act → World → Prop} {S : World → Prop} {z : Nat}
inductive Deep (md:Region.Mode) (ops:Array Oper) (listed:Array Bool) (i:Nat):Nat→Prop
 | here {y:Nat} {o:Oper}:ops[y]?=some o→(∃e∈o.after,Region.binds md e=true∧e.on=i)→Deep md ops listed i y
 | over {y m:Nat} {o:Oper}:ops[y]?=some o→(∃e∈o.after,Region.binds md e=true∧e.on=m)→listed.getD m true=false→Deep md ops listed i m→Deep md ops listed i y
theorem Deep.not_ready {listed:Array Bool} {i y:Nat} (h:Deep md ops listed i y) (hi:listed.getD i true=false):y∉Region.ready md ops listed:=fun hr=>by
 obtain ⟨_,o,ho,hall⟩:=mem_ready.1 hr
 cases h with
 | here h1 h2=>
  rw [ho] at h1
  cases h1
  obtain ⟨e,he,hb,hon⟩:=h2
  have h1:=hall e he hb
  rw [hon] at h1
  rcases Nat.lt_or_ge i listed.size with g|g
  ·simp [g] at hi h1;rw [hi] at h1;cases h1
  simp [Array.getElem?_eq_none g] at h1
 | @over _ m _ h1 h2 h3 _=>
  rw [ho] at h1
  cases h1
  obtain ⟨e,he,hb,hon⟩:=h2
  have h1:=hall e he hb
  rw [hon] at h1
  rcases Nat.lt_or_ge m listed.size with g|g
  ·simp [g] at h3 h1;rw [h3] at h1;cases h1
  simp [Array.getElem?_eq_none g] at h1
theorem Deep.set {listed:Array Bool} {i y j:Nat} (h:Deep md ops listed i y) (hi:listed.getD i true=false) (hj:j∈Region.ready md ops listed):Deep md ops (listed.setIfInBounds j true) i y:=by
 induction h with
 | here h1 h2=>exact .here h1 h2
 | @over y m o h1 h2 h3 h4 ih=>
  refine .over h1 h2 ?_ ih
  have hne:j≠m:=fun e=>h4.not_ready hi (e ▸ hj)
  rw [getD_set_ne true hne]
  exact h3
theorem Jq {i:Nat} {oi:Oper} {v:Value} (hi:ops[i]?=some oi) (hsel:∀(j:Nat) (o:Oper) cs b,ops[j]?=some o→o.op≠.select cs b)
  (hQ:∀c a w,Q (.panic c) (a.put oi.dst v) w→Q (.panic c) a w) :
  ∀(fuel:Nat) (listed:Array Bool) (a:Act) (w:World),Deep md ops listed i z→
   (∀j oj,ops[j]?=some oj→j≠i→listed.getD j true=false→(∀e∈oj.after,Region.binds md e=true→e.on≠i)→oi.apart ops oj=true)→
   i∈Region.ready md ops listed→YieldsIf P ops S oi v a→S w→
   qX P md ops Q S z fuel (listed.setIfInBounds i true) (a.put oi.dst v) w→qX P md ops Q S z (fuel+1) listed a w:=by
 intro fuel
 induction fuel with
 | zero=>
  intro listed a w _ _ hr hy hS H
  refine ⟨fun h=>(by rw [h] at hr;cases hr),fun j hj=>?_⟩
  by_cases hji:j=i
  ·subst hji;exact hy.wpOp hi hS ⟨fun _=>hS,H⟩
  have:=ready_mono hj hji
  rw [H.1] at this
  cases this
 | succ fuel ih=>
  intro listed a w hD hfree hr hy hS H
  have hiu:=(mem_ready.1 hr).1
  refine ⟨fun h=>(by rw [h] at hr;cases hr),fun j hj=>?_⟩
  by_cases hji:j=i
  ·subst hji;exact hy.wpOp hi hS ⟨fun _=>hS,H⟩
  have h1:=H.2 j (ready_mono hj hji)
  obtain ⟨hjun,oj,hoj,hall⟩:=mem_ready.1 hj
  have hnot:∀e∈oj.after,Region.binds md e=true→e.on≠i:=fun e he hb heq=>by
   have h1:=hall e he hb
   rw [heq] at h1
   rcases Nat.lt_or_ge i listed.size with h'|h'
   ·simp [h'] at hiu h1;rw [hiu] at h1;cases h1
   simp [Array.getElem?_eq_none h'] at h1
  have hjz:j≠z:=fun e=>hD.not_ready hiu (e ▸ hj)
  have h2:=wpOp_putIf hoj (hfree j oj hoj hji hjun hnot) (fun cs b=>hsel i oi cs b hi) (fun cs b=>hsel j oj cs b hoj) hQ hy h1
  have hfree':∀k ok,ops[k]?=some ok→k≠i→(listed.setIfInBounds j true).getD k true=false→
    (∀e∈ok.after,Region.binds md e=true→e.on≠i)→oi.apart ops ok=true:=fun k ok hk hki hun hno=>by
   refine hfree k ok hk hki ?_ hno
   by_cases hjk:j=k
   ·subst hjk;exact hjun
   rw [getD_set_ne true hjk] at hun;exact hun
  refine wpOp_mono (fun a' w' h3=>⟨fun _=>h3.2.1 hjz,ih (listed.setIfInBounds j true) a' w' (hD.set hiu hj) hfree' (ready_mono hr (Ne.symm hji)) h3.1 (h3.2.1 hjz) ?_⟩) h2
  rw [Array.setIfInBounds_comm _ _ hji]
  exact h3.2.2
def deepB (md:Region.Mode) (ops:Array Oper) (listed:Array Bool) (i:Nat):Nat→Nat→Bool
 | 0,_=>false
 | k+1,y=>match ops[y]? with
  | none=>false
  | some o=>o.after.any fun e=>Region.binds md e&&(e.on == i || (!listed.getD e.on true&&deepB md ops listed i k e.on))
theorem Zj {listed:Array Bool} {i:Nat}:∀(k y:Nat),deepB md ops listed i k y=true→Deep md ops listed i y
 | 0,_,h=>by cases h
 | k+1,y,h=>by
  unfold deepB at h
  cases ho:ops[y]? with
  | none=>rw [ho] at h;cases h
  | some o=>
   rw [ho] at h
   simp only [Array.any_eq_true',Bool.and_eq_true,Bool.or_eq_true,beq_iff_eq,Bool.not_eq_true'] at h
   obtain ⟨e,he,hb,h|⟨h1,h2⟩⟩:=h
   ·exact .here ho ⟨e,he,hb,h⟩
   exact .over ho ⟨e,he,hb,rfl⟩ h1 (Zj k _ h2)
theorem qD (i d:Nat) (v:Value) {oi:Oper} {fuel:Nat} {listed:Array Bool} {a:Act} {w:World} (hi:ops[i]?=some oi) (hd:oi.dst=some d) (hS:S w) (hy:∀w',S w'→(execOp a.eval oi).run P w' = .ok (.value v) w')
  (h:qX P md ops Q S z fuel (listed.setIfInBounds i true) (a.put (some d) v) w) (hg:Region.wanted oi (yielded ops a.tmps)=true:=by rfl) (hw:deepB md ops listed i ops.size z=true:=by kernel_rfl)
  (hs:Region.noSelect ops=true:=by kernel_rfl) (hf:Region.free md ops listed i=true:=by kernel_rfl) (hr:(Region.ready md ops listed).contains i=true:=by kernel_rfl)
  (hQ:∀c a w,Q (.panic c) (a.put (some d) v) w→Q (.panic c) a w:=by exact fun _ _ _ h=>h):qX P md ops Q S z (fuel+1) listed a w:=
 Jq hi (Region.noSelect_spec hs) (by rw [hd];exact hQ) fuel listed a w (Zj _ _ hw) (Region.free_spec hi hf) (by simpa using hr) (Or.inl ⟨hg,hy⟩) hS (by rw [hd];exact h)
end

structure PutAt (w w':World) (b o:Nat) (u:Value):Prop where
 kept:Kept (fun i=>i=b) w w'
 row:∀(cur:Array Value) (e:TypeId),w.heap[b]?=some (.cells cur e (0,0))→w'.heap[b]?=some (.cells (cur.setIfInBounds o u) e (0,0))
theorem PutAt.set {w w1:World} (hK:Kept (fun _=>False) w w1) (b o:Nat) (hb:b<w.heap.size) (u:Value):PutAt w (w1.setCell ⟨b,o,none⟩ u) b o u:=
 ⟨(hK.mono fun _ _ h=>h.elim:Kept (fun i=>i=b) w w1).setCell (p:=⟨b,o,none⟩) rfl u,fun _ _ h=>J7 ((hK.block b hb (fun h=>h)).trans h) o u⟩
theorem PutAt.same {w w':World} (hK:Kept (fun _=>False) w w') {b o:Nat} {u:Value} (h:w.cell? ⟨b,o,none⟩=some u):PutAt w w' b o u:=by
 refine ⟨hK.mono fun _ _ h=>h.elim,fun cur e hc=>?_⟩
 rw [hK.block b (q9 h) (fun h=>h),hc]
 have h2:cur[o]?=some u:=by rw [←h,cell_of_row w b o cur e (0,0) hc]
 have h3:cur.setIfInBounds o u=cur:=by
  refine Array.ext (by simp) fun i h4 h5=>?_
  rw [Array.getElem_setIfInBounds]
  split
  ·next e=>subst e;rw [Array.getElem?_eq_getElem h5] at h2;injection h2 with h2;exact h2.symm
  rfl
 rw [h3]
theorem RowPut.put1 {w w' w'':World} {e:TypeId} {g o size j:Nat} {cs:List Value} {v:Value} (h:RowPut w w' e g o size cs) (hl:cs.length=size) (hj:j<size) (p:PutAt w' w'' g (o+j) v):RowPut w w'' e g o size (cs.set j v):=by
 obtain ⟨cur,cur',h1,h2,h3,h4,h5⟩:=h
 refine ⟨cur,cur'.setIfInBounds (o+j) v,h1,p.row _ _ h2,by simpa using h3,fun k hk=>?_,fun k hk=>?_⟩
 ·rw [Array.getElem?_setIfInBounds,List.getElem?_set]
  have hlt:o+j<cur'.size:=by
   rcases Nat.lt_or_ge (o+j) cur'.size with a|a
   ·exact a
   have:=h4 j hj
   rw [Array.getElem?_eq_none a,List.getElem?_eq_getElem (by omega)] at this
   cases this
  by_cases e1:j=k
  ·subst e1
   rw [if_pos rfl,if_pos rfl,if_pos hlt,if_pos (by omega)]
  rw [if_neg (by omega),if_neg e1]
  exact h4 k hk
 rw [Array.getElem?_setIfInBounds,if_neg (by omega)]
 exact h5 k hk
theorem RowPut.at1 {w w':World} {e:TypeId} {g o size j:Nat} {cs:List Value} (h:RowPut w w' e g o size cs) (hj:j<size):w'.cell? ⟨g,o+j,none⟩=cs[j]?:=by
 obtain ⟨cur,cur',_,h2,_,h4,_⟩:=h
 rw [←h4 j hj,cell_of_row w' g _ cur' e (0,0) h2]
theorem RowPut.free1 {w w':World} {e:TypeId} {g o size:Nat} {cs:List Value} (h:RowPut w w' e g o size cs) (i:Nat):w'.frozen? ⟨g,i,none⟩=false:=by
 obtain ⟨cur,cur',_,h2,_⟩:=h
 exact (blk h2).2 i
theorem RowPut.other1 {w w' w'':World} {e:TypeId} {g o size:Nat} {cs:List Value} (h:RowPut w w' e g o size cs) (h2:w''.heap[g]?=w'.heap[g]?):RowPut w w'' e g o size cs:=by
 obtain ⟨cur,cur',h1,h3,h4⟩:=h
 exact ⟨cur,cur',h1,h2.trans h3,h4⟩

structure ToAt (A B:Nat) (p last:Int) (w:World):Prop where
 p:w.cell? ⟨A,0,none⟩=some (.int .i64 p)
 last:w.cell? ⟨B,0,none⟩=some (.int .i64 last)
theorem ToAt.other {A B:Nat} {p last:Int} {w w':World} (h:ToAt A B p last w) (h1:w'.heap[A]?=w.heap[A]?) (h2:w'.heap[B]?=w.heap[B]?):ToAt A B p last w':=
 ⟨(World.cell?_of_block (a:=⟨A,0,none⟩) h1).trans h.p,(World.cell?_of_block (a:=⟨B,0,none⟩) h2).trans h.last⟩
theorem to_any (A B:Nat) (p last r:Int) (w:World) (h:ToAt A B p last w) (hp:0≤p) (hr:I64 r) :
  Calls Tryz.prog 52 #[.int .i64 r,.pointer (some ⟨A,0,none⟩),.pointer (some ⟨B,0,none⟩)] w fun e w'=>e = .returned (.int .i64 (qK p last r))∧w'=w:=by
 have c1:=h.p
 have c2:=h.last
 have z1:=q9 c1
 have z2:=q9 c2
 clear h
 unfold qK
 by_cases e:r=p
 ·have e1:(r == p)=true:=by simp [e]
  rw [if_pos e]
  clear e
  go_enter Tryz.func52,Tryz.ntmps52
  go_wp2
  go_ret
  exact ⟨rfl,rfl⟩
 have e1:(r == p)=false:=by simp [e]
 rw [if_neg e]
 by_cases g:p<r
 ·by_cases g2:r≤last
  ·rw [if_pos ⟨g,g2⟩]
   clear e
   have hw:IntKind.i64.wrap (r - 1)=r - 1:=by rw [IntKind.wrap_i64];unfold I64 at hr;omega
   go_enter Tryz.func52,Tryz.ntmps52
   go_wp2
   go_ret
   exact ⟨by simp,rfl⟩
  rw [if_neg (fun h=>g2 h.2)]
  clear e
  go_enter Tryz.func52,Tryz.ntmps52
  go_wp2
  go_ret
  exact ⟨rfl,rfl⟩
 rw [if_neg (fun h=>g h.1)]
 clear e
 go_enter Tryz.func52,Tryz.ntmps52
 go_wp2
 go_ret
 exact ⟨rfl,rfl⟩
theorem QI (b o T A B:Nat) (p last n:Int) (rr:Bool) (w:World) (h0:w.cell? ⟨b,o,none⟩=some (.bool rr)) (h1:w.cell? ⟨b,o+1,none⟩=some (.int .i64 n)) (hfr:w.frozen? ⟨b,o+1,none⟩=false) (hn:I64 n)
  (hT:w.cell? ⟨T,0,none⟩=some (.func (.func 52) #[] #[.pointer (some ⟨A,0,none⟩),.pointer (some ⟨B,0,none⟩)])) (h:ToAt A B p last w) (hp:0≤p) :
  Calls Tryz.prog 78 #[.pointer (some ⟨b,o,none⟩),.pointer (some ⟨T,0,none⟩)] w fun e w'=>e = .returned (.tuple #[])∧PutAt w w' b (o+1) (.int .i64 (toW (qK p last) (rr,n)).2):=by
 have z0:=q9 h0
 have zT:=q9 hT
 cases rr
 ·go_enter Tryz.func78,Tryz.ntmps78
  go_wp2
  exact bodyPost_end (results_none rfl _ _ _) rfl ⟨rfl,.same (Kept.refl _ _) h1⟩
 have HT:=q8 h
 clear h
 go_enter Tryz.func78,Tryz.ntmps78
 go_wp2
 refine qz (S:=fun W'=>W'.cell? ⟨b,o+1,none⟩=some (.int .i64 n)∧W'.cell? ⟨T,0,none⟩=some (.func (.func 52) #[] #[.pointer (some ⟨A,0,none⟩),.pointer (some ⟨B,0,none⟩)])) (by kernel_rfl) 9 ?_
 have hS:(fun W':World=>W'.cell? ⟨b,o+1,none⟩=some (.int .i64 n)∧W'.cell? ⟨T,0,none⟩=some (.func (.func 52) #[] #[.pointer (some ⟨A,0,none⟩),.pointer (some ⟨B,0,none⟩)])) w.drew:=⟨h1,hT⟩
 refine tkZ 0 7 (.pointer (some ⟨b,o,none⟩)) rfl rfl hS (fun W' hS'=>(by obtain ⟨h1,h2⟩:=hS';go_simp)) ?_
 refine tkZ 1 8 (.func (.func 52) #[] #[.pointer (some ⟨A,0,none⟩),.pointer (some ⟨B,0,none⟩)]) rfl rfl hS (fun W' hS'=>(by obtain ⟨h1,h2⟩:=hS';go_simp)) ?_
 refine tkZ 2 9 (.pointer (some ⟨b,o,none⟩)) rfl rfl hS (fun W' hS'=>(by obtain ⟨h1,h2⟩:=hS';go_simp)) ?_
 refine tkZ 3 10 (.pointer (some ⟨b,o,none⟩)) rfl rfl hS (fun W' hS'=>(by obtain ⟨h1,h2⟩:=hS';go_simp)) ?_
 refine tkZ 4 11 (.pointer (some ⟨b,o+1,none⟩)) rfl rfl hS (fun W' hS'=>(by obtain ⟨h1,h2⟩:=hS';go_simp)) ?_
 refine tkZ 5 12 (.int .i64 n) rfl rfl hS (fun W' hS'=>(by obtain ⟨h1,h2⟩:=hS';go_simp)) ?_
 refine qm (i:=6) (by kernel_rfl) (qr 13 rfl rfl rfl (by go_simp) (to_any A B p last n w.drew (HT.out.other rfl rfl) hp hn) ?_)
 rintro e w' ⟨rfl,rfl⟩
 refine ⟨_,rfl,hS,?_⟩
 refine qm (i:=7) (by kernel_rfl) (qC 14 (.pointer (some ⟨b,o,none⟩)) _ rfl rfl rfl (by go_simp) hS ?_)
 refine qm (i:=8) (by kernel_rfl) (qC 15 (.pointer (some ⟨b,o+1,none⟩)) _ rfl rfl rfl (by go_simp) hS ?_)
 refine qm (i:=9) (by kernel_rfl) (qt (w.drew.setCell ⟨b,o+1,none⟩ (.int .i64 (qK p last n))) rfl rfl rfl (by obtain ⟨h1,h2⟩:=hS;go_simp) (fun h=>absurd rfl h) ?_)
 refine ⟨by kernel_rfl,?_⟩
 unfold calm
 dsimp only [Act.put]
 exact bodyPost_end (results_none rfl _ _ _) rfl ⟨rfl,.set ((Kept.refl _ _).drew) b (o+1) z0 _⟩
end Go.Proofs.YtgjjhadbjmcnpaaGreatDoor
namespace Go.Proofs.YtgjjhadbjmcnpaaGreatDoor
open Go.RowKit

structure Ins64 (x:InsL):Prop where
 op:I64 x.op
 dst:I64 x.dst
 an:I64 x.an
 bn:I64 x.bn
 fn:I64 x.fn
def XF (x:InsL) (v:Value):List Value:=[.int .i64 x.op,.int .i64 x.dst,.bool x.ar,.int .i64 x.an,.bool x.br,.int .i64 x.bn,.int .i64 x.fn,v]
theorem Vf {W:World} {g n c k m j bb cb:Nat} {zs:List FunL} {S:Blks} {G:Nat→InsL→InsL} {f:FunL} {lq:Nat→Option Addr} {lc:Nat→Nat} (h:SlO 38 4 FunO W (.slice (some ⟨g,0,none⟩) n c) (zs.set k (upI G f ((zX (ql f) m).length+j))) S) (hk:k<zs.length)
  (hm:m<f.blocks.length) (hj:j<f.blocks[m].list.length) (hsh:FunSh g k bb f.blocks.length cb lq (ql f) lc W) :
  ∃lb v Ti,lq m=some ⟨lb,0,none⟩∧S lb∧lb<W.heap.size∧(∀o,W.frozen? ⟨lb,o,none⟩=false)∧(∀i,i<8→W.cell? ⟨lb,j*8+i,none⟩=(XF f.blocks[m].list[j] v)[i]?)∧lb≠g∧lb≠bb∧Ins64 f.blocks[m].list[j]∧
   SlQ 44 2 16 vM W v f.blocks[m].list[j].args Ti∧¬ Ti lb∧¬ Ti bb∧¬ Ti g∧(∀b,Ti b→S b)∧(∃cur,W.heap[lb]?=some (.cells cur 51 (0,0)))∧
   ∀(W':World) (y:InsL) (v':Value) (Ti':Blks),RowPut W W' 51 lb (j*8) 8 (XF y v')→v'.oneCell'=true→W.heap.size≤W'.heap.size→(∀b,S b→¬ Ti b→b≠lb→W'.heap[b]?=W.heap[b]?)→Ins64 y→SlQ 44 2 16 vM W' v' y.args Ti'→
    (∀b,Ti' b→(Ti b∨W.heap.size≤b)∧b<W'.heap.size)→G ((zX (ql f) m).length+j) f.blocks[m].list[j]=y→SlO 38 4 FunO W' (.slice (some ⟨g,0,none⟩) n c) (zs.set k (upI G f ((zX (ql f) m).length+j+1))) (fun b=>S b∨Ti' b):=by
 have hkl:k<(zs.set k (upI G f ((zX (ql f) m).length+j))).length:=by rw [List.length_set];exact hk
 obtain ⟨g',c',cs',T',hv',hhY,hhZ,hcl',hF',het,haO,hdG,hkO,⟨cur',hdH⟩,hdI⟩:=h.focus qV (by omega) hkl
 have hg':g=g':=by
  injection hv' with a
  injection a with a
  injection a
 subst hg'
 rw [List.getElem_set_self] at hF'
 have hmu:m<(upI G f ((zX (ql f) m).length+j)).blocks.length:=by rw [Qy];exact hm
 have hju:j<((upI G f ((zX (ql f) m).length+j)).blocks[m]'hmu).list.length:=by rw [ZD hm];exact hj
 obtain ⟨bb',cb',lb,c2',ci,Ti,hcs',ho4,ho5,hdJ,hbK,hI,hi6,hi7,heZ,hci,hrA,hfh,⟨curi,hfk⟩,hi8⟩:=hF'.ins hmu hju
 rw [upI_get hm hj] at hI
 have hbb:bb=bb':=by
  have h1:=hdG 3 (by omega)
  rw [hcs'] at h1
  have h2:=hsh.fn.symm.trans h1
  simp at h2
  exact h2.1
 subst hbb
 have hlq:lq m=some ⟨lb,0,none⟩:=by
  have h2:=(hsh.blk m hm).symm.trans ho4
  simp at h2
  exact h2.1
 obtain ⟨va,rfl,y1,y2,y3,y4,y5,hA⟩:=hI
 have heu:lb<W.heap.size:=(Array.getElem?_eq_some_iff.1 hfk).1
 have hlg:lb≠g:=fun e=>het (by rw [←e];exact hdJ)
 refine ⟨lb,va,Ti,hlq,haO lb hdJ,heu,hfh,hci,hlg,hbK,⟨y1,y2,y3,y4,y5⟩,hA,hi6,hi7,fun h=>het (heZ g h),fun b hb=>haO b (heZ b hb),⟨curi,hfk⟩,fun W' y v' Ti' hp h1' hs hk' hy hA' hT' hG=>?_⟩
 have hfi:=h.inb
 have hF2:=hi8 W' _ (G ((zX (ql f) m).length+j) f.blocks[m].list[j]) Ti' hp rfl (fun v hv=>by
   unfold XF at hv
   simp only [List.mem_cons,List.not_mem_nil,or_false] at hv
   rcases hv with rfl|rfl|rfl|rfl|rfl|rfl|rfl|rfl
   all_goals first|rfl|exact h1') hs (fun b hb h1 h2=>hk' b (haO b hb) h1 h2) (by
   rw [hG]
   exact ⟨v',rfl,hy.op,hy.dst,hy.an,hy.bn,hy.fn,hA'⟩) hT'
 have hgn:W'.heap[g]?=W.heap[g]?:=hk' g hhZ (fun h=>het (heZ g h)) (fun e=>hlg e.symm)
 have hF3:=hdI W' cs' _ (fun b=>T' b∨Ti' b) (RowPut.same hdH hgn hdG) hcl' (fun v hv=>by
   rw [hcs'] at hv
   simp only [List.mem_cons,List.not_mem_nil,or_false] at hv
   rcases hv with rfl|rfl|rfl|rfl<;>rfl) hs (fun b hb h1 h2=>hk' b hb (fun h=>h1 (heZ b h)) (fun e=>h1 (by rw [e];exact hdJ))) hF2 (fun b hb=>by
   rcases hb with hb|hb
   ·exact ⟨.inl hb,by have:=h.inb b (haO b hb);omega⟩
   exact ⟨(hT' b hb).1.imp (heZ b) id,(hT' b hb).2⟩)
 rw [List.set_set,JX hm hj] at hF3
 refine hF3.grow (fun b hb=>?_) (fun b hb=>?_)
 ·rcases hb with hb|hb|hb
  ·exact .inl hb
  ·exact .inl (haO b hb)
  exact .inr hb
 rcases hb with hb|hb
 ·have:=h.inb b hb;omega
 exact (hT' b hb).2
theorem vals_step {wo:World} {qa:Option Addr} {ca kk:Nat} {xs:List (Bool×Int)} {u:Bool×Int→Bool×Int} {Ti:Blks} (h:SlO 44 2 vM wo (.slice qa xs.length ca) (qN kk u xs) Ti) (hlt:kk<xs.length) :
  ∃ga,qa=some ⟨ga,0,none⟩∧Ti ga∧wo.cell? ⟨ga,kk*2,none⟩=some (.bool xs[kk].1)∧wo.cell? ⟨ga,kk*2+1,none⟩=some (.int .i64 xs[kk].2)∧wo.frozen? ⟨ga,kk*2+1,none⟩=false∧I64 xs[kk].2∧
   ∀W4,PutAt wo.drew W4 ga (kk*2+1) (.int .i64 (u xs[kk]).2)→(u xs[kk]).1=xs[kk].1→I64 (u xs[kk]).2→SlO 44 2 vM W4 (.slice qa xs.length ca) (qN (kk+1) u xs) Ti∧Kept (fun b=>b=ga) wo W4:=by
 obtain ⟨ga,ca2,cs,T1,hv2,ho6,haZ,hcl,hV,_,hfq,hce,hfz,⟨cur2,haC⟩,haP⟩:=h.focus zJ (by omega) (i:=kk) (by rw [qY];exact hlt)
 rw [x6 (by rw [qY];exact hlt) (Nat.le_refl _)] at hV
 obtain ⟨hcs,hv64⟩:=hV
 subst hcs
 refine ⟨ga,by injection hv2,haZ,hce 0 (by omega),hce 1 (by omega),hfz _,hv64,fun W4 hP h1 h2=>?_⟩
 have hK4:Kept (fun b=>b=ga) wo W4:=((Kept.refl (fun b=>b=ga) wo).drew).trans hP.kept (fun _ _ h=>h)
 have hn4:(qN kk u xs).set kk (u xs[kk])=qN (kk+1) u xs:=zh hlt
 have hR4:=((RowPut.same haC rfl hce).other1 rfl:RowPut wo wo.drew 44 ga (kk*2) 2 _).put1 (j:=1) rfl (by omega) hP
 have hS4:=haP W4 _ (u xs[kk]) T1 hR4 rfl (fun u hu=>by
   simp only [List.set_cons_succ,List.set_cons_zero,List.mem_cons,List.not_mem_nil,or_false] at hu
   rcases hu with rfl|rfl<;>rfl) hK4.size (fun b hb h1 h2=>hK4.block b (h.inb b hb) h2) ⟨by rw [←h1];rfl,h2⟩ (fun b hb=>⟨.inl hb,by have:=h.inb b (hfq b hb);have:=hK4.size;omega⟩)
 rw [hn4] at hS4
 exact ⟨hS4.grow (fun b hb=>hb.elim id (hfq b)) (fun b hb=>by have:=h.inb b hb;have:=hK4.size;omega),hK4⟩

theorem phi_step {wo:World} {qp:Option Addr} {cp q:Nat} {ps:List PhiL} {u:PhiL→PhiL} {S1:Blks} (h:SlO 84 2 PhiO wo (.slice qp ps.length cp) (qN q u ps) S1) (hlt:q<ps.length) :
  ∃gp qs cs Tq,qp=some ⟨gp,0,none⟩∧S1 gp∧wo.cell? ⟨gp,q*2,none⟩=some (.int .i64 ps[q].dst)∧wo.cell? ⟨gp,q*2+1,none⟩=some (.slice qs ps[q].src.length cs)∧I64 ps[q].dst∧(∀b,Tq b→S1 b)∧¬ Tq gp∧
   SlQ 44 2 16 vM wo (.slice qs ps[q].src.length cs) ps[q].src Tq∧RowPut wo wo 84 gp (q*2) 2 [.int .i64 ps[q].dst,.slice qs ps[q].src.length cs]∧
   ∀W' (x':PhiL),RowPut wo W' 84 gp (q*2) 2 [.int .i64 x'.dst,.slice qs ps[q].src.length cs]→wo.heap.size≤W'.heap.size→(∀b,S1 b→¬ Tq b→b≠gp→W'.heap[b]?=wo.heap[b]?)→I64 x'.dst→SlQ 44 2 16 vM W' (.slice qs ps[q].src.length cs) x'.src Tq→
    SlO 84 2 PhiO W' (.slice qp ps.length cp) ((qN q u ps).set q x') S1:=by
 obtain ⟨gp,c2,cs',Tq,hv2,hgz,hTg,hcl,hV,hnT,hTS,hce,hfz,⟨cur2,haC⟩,hput⟩:=h.focus zZ (by omega) (i:=q) (by rw [qY];exact hlt)
 rw [x6 (by rw [qY];exact hlt) (Nat.le_refl _)] at hV
 obtain ⟨v,hcs,hd,hs⟩:=hV
 subst hcs
 obtain ⟨qs,cs,rfl,_,_⟩:=hs.sl.val
 refine ⟨gp,qs,cs,Tq,by injection hv2,hTg,hce 0 (by omega),hce 1 (by omega),hd,hTS,hnT,hs,RowPut.same haC rfl hce,fun W' x' hp hz hk hd' hs'=>?_⟩
 have h1:=hput W' _ x' Tq hp rfl (fun u hu=>by
   simp only [List.mem_cons,List.not_mem_nil,or_false] at hu
   rcases hu with rfl|rfl<;>rfl) hz hk ⟨_,rfl,hd',hs'⟩ (fun b hb=>⟨.inl hb,hs'.sl.inb b hb⟩)
 exact h1.grow (fun b hb=>hb.elim id (hTS b)) (fun b hb=>by have:=h.inb b hb;omega)
theorem blk_step {wo:World} {qb:Option Addr} {cb b:Nat} {bs:List BlkL} {u:BlkL→BlkL} {TB:Blks} (h:SlO 49 6 BlkO wo (.slice qb bs.length cb) (qN b u bs) TB) (hlt:b<bs.length) :
  ∃gb qp cp v2 v3 S1,qb=some ⟨gb,0,none⟩∧TB gb∧(∀i,S1 i→TB i)∧¬ S1 gb∧I64 bs[b].fin.onn∧SlQ 84 2 32 PhiO wo (.slice qp bs[b].phis.length cp) bs[b].phis S1∧
   RowPut wo wo 49 gb (b*6) 6 [.slice qp bs[b].phis.length cp,v2,.int .i64 bs[b].fin.kind,.bool bs[b].fin.onr,.int .i64 bs[b].fin.onn,v3]∧
   ∀W' (ps:List PhiL) (n:Int),RowPut wo W' 49 gb (b*6) 6 [.slice qp bs[b].phis.length cp,v2,.int .i64 bs[b].fin.kind,.bool bs[b].fin.onr,.int .i64 n,v3]→wo.heap.size≤W'.heap.size→(∀i,TB i→¬ S1 i→i≠gb→W'.heap[i]?=wo.heap[i]?)→I64 n→SlQ 84 2 32 PhiO W' (.slice qp bs[b].phis.length cp) ps S1→
    SlO 49 6 BlkO W' (.slice qb bs.length cb) ((qN b u bs).set b { phis:=ps,list:=bs[b].list,fin:={ bs[b].fin with onn:=n } }) TB:=by
 obtain ⟨gb,c2,cs',Ty,hv2,hgz,hTg,hcl,hV,hnT,hTS,hce,hfz,⟨cur2,haC⟩,hput⟩:=h.focus qU (by omega) (i:=b) (by rw [qY];exact hlt)
 rw [x6 (by rw [qY];exact hlt) (Nat.le_refl _)] at hV
 obtain ⟨v1,v2,v3,S1,S2,S3,hcs,j1,j2,h3,h4,h5,a1,a2,a3,g1,g2,g3⟩:=hV
 subst hcs
 obtain ⟨qp,cp,rfl,_,_⟩:=h3.sl.val
 obtain ⟨q2,e2,rfl,_,_⟩:=h4.sl.val
 obtain ⟨q3,e3,rfl,_,_⟩:=h5.sl.val
 refine ⟨gb,qp,cp,_,_,S1,by injection hv2,hTg,fun i hi=>hTS i (g1 i hi),fun h=>hnT (g1 _ h),j2,h3,RowPut.same haC rfl hce,fun W' ps n hp hz hk hn hs'=>?_⟩
 have e1:∀i,Ty i→¬ S1 i→W'.heap[i]?=wo.heap[i]?:=fun i hi h1=>hk i (hTS i hi) h1 (fun e=>hnT (e ▸ hi))
 have h1:=hput W' _ { phis:=ps,list:=bs[b].list,fin:={ bs[b].fin with onn:=n } } Ty hp rfl (fun u hu=>by
   simp only [List.mem_cons,List.not_mem_nil,or_false] at hu
   rcases hu with rfl|rfl|rfl|rfl|rfl|rfl<;>rfl) hz (fun i hi h1 h2=>hk i hi (fun h=>h1 (g1 i h)) h2)
  ⟨_,_,_,S1,S2,S3,rfl,j1,hn,hs',h4.loc zR (fun _ g=>g) (fun i hi=>e1 i (g2 i hi) (fun h=>a1 i h hi)) hz,h5.loc xe (fun _ g=>g) (fun i hi=>e1 i (g3 i hi) (fun h=>a2 i h hi)) hz,a1,a2,a3,g1,g2,g3⟩
  (fun i hi=>⟨.inl hi,by have:=h.inb i (hTS i hi);omega⟩)
 exact h1.grow (fun b hb=>hb.elim id (hTS b)) (fun b hb=>by have:=h.inb b hb;omega)
end Go.Proofs.YtgjjhadbjmcnpaaGreatDoor
