/-
  The contract of calls.CopyFunc.
-/
import Derived.RangeFuncNested
import Derived.RangeFuncBound
import Derived.RangeFuncCalls
import Derived.RangeFuncLeaves
import Derived.RangeFuncBox
import Derived.Shelf.Abstract
import Derived.Shelf.RegionOpen
import Derived.OwnWalkIn
import Derived.TacticsInMore
import Derived.LoopNIn
import Derived.LoopIn
import Derived.OrdersHeld
import Derived.OrdersIn
import Derived.Test.YtecdphhdmjmmnaaGreatDoorJCopB
import Derived.Deep.DeepCutAuto
import Derived.Outline
set_option maxRecDepth 100000
set_option maxHeartbeats 16000000
namespace Go.Proofs.YtecdphhdmjmmnaaGreatDoor
open Go.RowKit Go.Shelf
attribute [local go_sem] Oper.semAt_some

def InsCell (w:World) (b o:Nat) (x:InsL):Prop:=
 ∃q c,w.cell? ⟨b,o,none⟩=some (.int .i64 x.op)∧w.cell? ⟨b,o+1,none⟩=some (.int .i64 x.dst)∧w.cell? ⟨b,o+2,none⟩=some (.bool x.ar)∧w.cell? ⟨b,o+3,none⟩=some (.int .i64 x.an)∧w.cell? ⟨b,o+4,none⟩=some (.bool x.br)∧w.cell? ⟨b,o+5,none⟩=some (.int .i64 x.bn)∧w.cell? ⟨b,o+6,none⟩=some (.int .i64 x.fn)∧w.cell? ⟨b,o+7,none⟩=some (.slice q x.args.length c)∧I64 x.op∧I64 x.dst∧I64 x.an∧I64 x.bn∧I64 x.fn∧x.args.length*16≤140737488351232∧SliceAt w 2 k8 q x.args
abbrev InsPos (w:World):={ y:(Nat×Nat)×InsL // InsCell w y.1.1 y.1.2 y.2 }
def XQ (w:World) (y:InsPos w):Array Value:=#[.pointer (some ⟨y.1.1.1,y.1.1.2,none⟩)]
def zq (f:FunL):List InsL:=f.blocks.flatMap fun b=>b.list
def zw {w:World} (ys:List (InsPos w)):List InsL:=ys.map fun y=>y.1.2
theorem kd {w:World} (ys:List (InsPos w)) (y:InsPos w):zw (ys++[y])=zw ys++[y.1.2]:=by simp[zw]
theorem ZA {w:World} (ys:List (InsPos w)):(zw ys).length=ys.length:=by simp[zw]
def XR (n₀ Bx:Nat) (W W':World):Prop:=Below n₀ W W'∧W'.heap[Bx]?=W.heap[Bx]?
theorem eachK_t {n₀ Bx:Nat} {A B C:World} (h:XR n₀ Bx A B) (k:XR n₀ Bx B C):XR n₀ Bx A C:=⟨h.1.trans k.1,k.2.trans h.2⟩
theorem eachK_b {n₀ Bx:Nat} {w:World} (hn:n₀≤w.heap.size) (hB:Bx<w.heap.size) (W:World) (l:Nat) (o o':Obj) (hl:w.heap.size≤l) (h:W.heap[l]?=some o) (ho:o.isCells=false) (hw:o.isWalk=false):XR n₀ Bx W (W.putObj l o'):=
 ⟨belowK_b hn W l o o' hl h ho hw,World.putObj_heap_other (by omega)⟩
def ke (f:FunL) (m j:Nat):List InsL:=(f.blocks.take m).flatMap (fun b=>b.list)++((f.blocks[m]?.map fun b=>b.list.take j).getD [])
theorem Kl (f:FunL):ke f 0 0=[]:=by
 unfold ke
 cases f.blocks[0]?<;>simp
theorem Km {f:FunL} {m j:Nat} (hm:m<f.blocks.length) (hj:j<f.blocks[m].list.length):ke f m (j+1)=ke f m j++[f.blocks[m].list[j]]:=by
 unfold ke
 rw[List.getElem?_eq_getElem hm]
 simp only[Option.map_some,Option.getD_some,List.take_succ_eq_append_getElem hj,List.append_assoc]
theorem insTo_blk {f:FunL} {m:Nat} (hm:m<f.blocks.length):ke f m f.blocks[m].list.length=ke f (m+1) 0:=by
 unfold ke
 have e:(f.blocks.take (m+1)).flatMap (fun b=>b.list)=(f.blocks.take m).flatMap (fun b=>b.list)++f.blocks[m].list:=by
  rw[List.take_succ_eq_append_getElem hm,List.flatMap_append]
  simp
 rw[List.getElem?_eq_getElem hm,e]
 cases f.blocks[m+1]?<;>simp
theorem insTo_all (f:FunL):ke f f.blocks.length 0=zq f:=by
 unfold ke zq
 rw[List.getElem?_eq_none (Nat.le_refl _),List.take_length]
 simp
theorem insTo_len {f:FunL} {m j:Nat} (hm:m<f.blocks.length) (hj:j<f.blocks[m].list.length):(ke f m j).length<(zq f).length:=by
 have h1:zq f=ke f m j++(f.blocks[m].list.drop j++(f.blocks.drop (m+1)).flatMap fun b=>b.list):=by
  unfold zq ke
  rw[List.getElem?_eq_getElem hm]
  simp only[Option.map_some,Option.getD_some]
  conv=>lhs;rw[←List.take_append_drop m f.blocks,List.drop_eq_getElem_cons hm]
  rw[List.flatMap_append,List.flatMap_cons,List.append_assoc,←List.append_assoc (f.blocks[m].list.take j),List.take_append_drop]
 rw[h1,List.length_append,List.length_append,List.length_drop]
 omega

theorem each1_in (F:Fence) (n:Nat) (hF:F.fn 112) (hro:F.round=none) (hn:1≤n) (l Bx fb fo c:Nat) (q:Option Addr) (f:FunL) (wa:World) (hfn:wa.cell? ⟨fb,fo+3,none⟩=some (.slice q f.blocks.length c)) (hbl:f.blocks.length*96≤140737488351232) (hbs:SliceAt wa 6 (BlkR wa) q f.blocks) (_hBn:wa.heap.size≤Bx)
  (J Jx:List (InsPos wa)→World→Prop)
  (hY:∀pre x W,J pre W→pre.length<(zq f).length→YieldAt F (n - 1) Tryz.prog l (XQ wa x) W fun e W'=>
   (e = .returned (.bool true)∧J (pre++[x]) W'∧XR wa.heap.size Bx W W')∨(e = .returned (.bool false)∧Jx (pre++[x]) W'))
  (W:World) (hW:Below wa.heap.size wa W) (hBx:W.cell? ⟨Bx,0,none⟩=some (.pointer (some ⟨fb,fo,none⟩))) (h0:J [] W) :
  CallsIn F n Tryz.prog 112 #[.func (.yield l) #[] #[],.pointer (some ⟨Bx,0,none⟩)] W fun e W'=>(∃v,e = .returned v)∧((∃ys,zw ys=zq f∧J ys W')∨(∃pre,True∧Jx pre W')):=by
 have hfl:=q8 hfn
 have HFn:=q7 hfn
 have HBS:=q7 hbs
 have HY:=q7 hY
 clear hfn hbs hY
 refine callsIn_of_wp Tryz.func112 rfl hF ?_ hro
 simp only[Tryz.ntmps112,List.size_toArray,List.length_cons,List.length_nil,Nat.reduceAdd,Nat.reduceSub,Array.replicate_succ,Array.replicate_zero,List.push_toArray,List.append_toArray,List.nil_append,List.cons_append]
 have f0:=(hW.cell (p:=⟨fb,fo+3,none⟩) hfl).trans HFn.out
 have HW:=q7 hW
 have HB0:=q7 hBx
 clear hW
 gi_wp2
 gi_loopw [10] (fun i wr=>∃(m:Nat) (pre:List (InsPos wa)),m≤f.blocks.length∧i = .int .i64 m∧zw pre=ke f m 0∧J pre wr∧XR wa.heap.size Bx W wr) (fun i _=>f.blocks.length - (intOf i).toNat)
 case atStart=>exact⟨0,[],by omega,rfl,(Kl f).symm,h0,Below.refl _ _,rfl⟩
 case round=>
  obtain⟨m,pre,hm,rfl,hp,hJ,hK⟩:=hrel
  obtain⟨wo,hwo⟩:∃wo:World,wo=wr:=⟨_,rfl⟩
  have HWr:Hid (Below wa.heap.size wa wr):=HW.out.trans hK.1
  have cb:wr.cell? ⟨Bx,0,none⟩=some (.pointer (some ⟨fb,fo,none⟩)):=(World.cell?_of_block (a:=⟨Bx,0,none⟩) hK.2).trans HB0.out
  have c0:=(HWr.out.cell (p:=⟨fb,fo+3,none⟩) hfl).trans HFn.out
  have HK:=q7 hK
  have HP:=q7 hp
  clear hK hp
  by_cases hlt:m<f.blocks.length
  rotate_left
  ·obtain rfl:m=f.blocks.length:=by omega
   gi_wp2
   go_end0
   exact⟨⟨_,rfl⟩,.inl ⟨pre,by rw[HP.out,insTo_all],hJ⟩⟩
  obtain⟨b3,o3,q1,c1,q2,c2,q3,c3,hp,d0,d1,d2,d3,d4,d5,_,_,_,hl2,_,_,hls,_⟩:=xA HBS.out (Below.refl _ _) hlt
  subst hp
  have hjC:=q8 d0
  have e1:=(HWr.out.cell (p:=⟨b3,_,none⟩) hjC).trans d1
  have HL:=q7 hls
  have D1:=q7 d1
  clear d0 d1 d2 d3 d4 d5 hls
  gi_wp2
  subst hwo
  gi_loopw [22] (fun i wr=>∃(j:Nat) (pre:List (InsPos wa)),j≤f.blocks[m].list.length∧i = .int .i64 j∧zw pre=ke f m j∧J pre wr∧XR wa.heap.size Bx W wr) (fun i _=>f.blocks[m].list.length - (intOf i).toNat)
  case atStart=>exact⟨0,pre,by omega,rfl,HP.out,hJ,HK.out⟩
  case round=>
   clear HWr cb c0 HK HP e1
   obtain⟨j,pre,hj,rfl,hp,hJ,hK⟩:=hrel
   have HWr:Hid (Below wa.heap.size wa wr):=HW.out.trans hK.1
   have cb:wr.cell? ⟨Bx,0,none⟩=some (.pointer (some ⟨fb,fo,none⟩)):=(World.cell?_of_block (a:=⟨Bx,0,none⟩) hK.2).trans HB0.out
   have c0:=(HWr.out.cell (p:=⟨fb,fo+3,none⟩) hfl).trans HFn.out
   have e1:=(HWr.out.cell (p:=⟨b3,_,none⟩) hjC).trans D1.out
   have HK:=q7 hK
   have HP:=q7 hp
   clear hK hp
   by_cases hjl:j<f.blocks[m].list.length
   rotate_left
   ·obtain rfl:j=f.blocks[m].list.length:=by omega
    gi_wp2
    go_roundw
    case rel=>exact⟨m+1,pre,by omega,by go_num,by rw[HP.out,insTo_blk hlt],hJ,HK.out⟩
    case measure=>simp[intOf];omega
   obtain⟨b4,o4,q4,c4,hp4,g0,g1,g2,g3,g4,g5,g6,g7,i1,i2,i3,i4,i5,hl4,hsr⟩:=Zv HL.out (Below.refl _ _) hjl
   subst hp4
   have hx:InsCell wa b4 (o4+j*8) f.blocks[m].list[j]:=⟨q4,c4,g0,g1,g2,g3,g4,g5,g6,g7,i1,i2,i3,i4,i5,hl4,hsr⟩
   have hlen:pre.length<(zq f).length:=by
    rw[←ZA,HP.out]
    exact insTo_len hlt hjl
   obtain⟨y,hy1⟩:∃y:InsPos wa,y.1=((b4,o4+j*8),f.blocks[m].list[j]):=⟨⟨_,hx⟩,rfl⟩
   obtain⟨fn,tmps,assign,body,hy,hR⟩:=HY.out pre y wr hJ hlen
   have he:XQ wa y=#[.pointer (some ⟨b4,o4+j*8,none⟩)]:=by unfold XQ;rw[hy1]
   rw[he]at hy
   have HR:=q7 hR
   have HY1:Hid (y.1.2=f.blocks[m].list[j]):=by show _=_;rw[hy1]
   clear g0 g1 g2 g3 g4 g5 g6 g7 hsr hx hR he hy1
   gi_wp2
   refine HR.out.mono ?_
   rintro e W3 (⟨rfl,hJ3,hk3⟩|⟨rfl,hJx3⟩)
   ·have HK3:=q7 hk3
    clear hk3
    gi_wp2
    go_roundw
    case rel=>exact⟨j+1,_,by omega,by go_num,by rw[kd,HP.out,HY1.out,Km hlt hjl],hJ3,eachK_t HK.out HK3.out⟩
    case measure=>simp[intOf];omega
   gi_wp2
   refine bodyPost_ret (results_none rfl _ _ _) rfl ?_
   exact⟨⟨_,rfl⟩,.inr ⟨_,trivial,hJx3⟩⟩

theorem each_any (a:Option Addr) (w:World) :
  Calls Tryz.prog 75 #[.pointer a] w fun e w'=>e = .returned (.func (.func 112) #[] #[.pointer (some ⟨w.heap.size,0,none⟩)])∧w'=w.alloc (.cells #[.pointer a] 79):=by
 go_enter Tryz.func75,Tryz.ntmps75
 go_wp2
 go_ret
 exact⟨rfl,rfl⟩

theorem Kn (F:Fence) (n:Nat) (hF:F.fn 112) (hro:F.round=none) (hn:1≤n) (Bx fb fo c:Nat) (q:Option Addr) (f:FunL) (wa w:World) (hwa:Below wa.heap.size wa w) (hfn:wa.cell? ⟨fb,fo+3,none⟩=some (.slice q f.blocks.length c)) (hbl:f.blocks.length*96≤140737488351232) (hbs:SliceAt wa 6 (BlkR wa) q f.blocks) (hBn:wa.heap.size≤Bx) (hBw:Bx<w.heap.size)
  (hBx:w.cell? ⟨Bx,0,none⟩=some (.pointer (some ⟨fb,fo,none⟩))) :
  SeqStopsK F n Tryz.prog 112 #[.pointer (some ⟨Bx,0,none⟩)] (XQ wa) (XR wa.heap.size Bx) (fun ys=>zw ys=zq f) (fun _=>True) (zq f).length w:=fun l J Jx W hW _ _ hY h0=>
 each1_in F n hF hro hn l Bx fb fo c q f wa hfn hbl hbs hBn J Jx hY W (hwa.trans (hW.mono hwa.size)) ((hW.cell (p:=⟨Bx,0,none⟩) hBw).trans hBx) h0
end Go.Proofs.YtecdphhdmjmmnaaGreatDoor
namespace Go.Proofs.YtecdphhdmjmmnaaGreatDoor
open Go.RowKit Go.Shelf

theorem Zo {l n:Nat} {P:Program} {ops:Array Oper} {Q:Exit→Act→World→Prop} (hL:¬ LetsOut Q) (hnd:∀(i:Nat) (o:Oper),ops[i]?=some o→∀c,o.op≠.defer c) {i:Nat} {K K':Act→World→Prop} (hK:∀a w,K a w→K' a w) {a:Act} {w:World}
  (h:wpOp P ops Q i K a w):wpOpIn (Fence.wide.inRound l) n P ops Q i K' a w:=by
 unfold wpOp at h
 unfold wpOpIn
 cases ho:ops[i]? with
 | none=>
  rw[ho]at h
  exact hK _ _ h
 | some o=>
  rw[ho]at h
  simp only at h ⊢
  split
  ·rename_i hw
   rw[if_pos hw]at h
   rcases h with h|⟨_,hl⟩
   rotate_left
   ·exact absurd hl hL
   unfold Oper.wp at h
   unfold Oper.wpIn
   refine⟨fun _ _=>trivial,?_⟩
   rw[Oper.semAt_plain _ _ _ (hnd i o ho)]
   generalize (execOp a.eval o).run P w=r at h
   cases r with
   | ok x w'=>
    cases x<;>simp only[Oper.upon]at h<;>simp only[Oper.uponIn]
    case value v=>exact hK _ _ h
    case skip=>exact hK _ _ h
    case defer d=>exact hK _ _ h
    case enter f args=>
     refine⟨fun e=>(by simp[Fence.wide]at e),CallsIn.inRound l (callsIn_wide.2 (h.mono fun e w'' he=>?_))⟩
     cases e with
     | returned v=>exact hK _ _ he
     | panicked c=>exact he
     | outgrown=>exact he
    case row row args=>
     refine⟨fun e=>(by simp[Fence.wide]at e),fun c cs _=>?_⟩
     obtain⟨v,w'',r,s⟩:=h c cs
     exact⟨v,w'',hK _ _ r,stepsIn_wide.2 s⟩
   | halt x w'=>
    cases x<;>simp only[Oper.upon]at h<;>simp only[Oper.uponIn]
    case panic v=>exact h
  rename_i hw
  rw[if_neg hw]at h
  exact⟨fun _ _=>trivial,hK _ _ h⟩
theorem jU {l n:Nat} {P:Program} {md:Region.Mode} {ops:Array Oper} {Q:Exit→Act→World→Prop} (hL:¬ LetsOut Q) (hnd:∀(i:Nat) (o:Oper),ops[i]?=some o→∀c,o.op≠.defer c) :
  ∀(fuel:Nat) (listed:Array Bool) (a:Act) (w:World),wpAny P md ops Q fuel listed a w→wpAnyIn (Fence.wide.inRound l) n P md ops Q fuel listed a w
 | 0,_,_,_,h=>h
 | fuel+1,_,_,_,h=>⟨h.1,fun i hi=>Zo hL hnd (fun _ _ hh=>jU hL hnd fuel _ _ _ hh) (h.2 i hi)⟩
theorem Qw {P:Program} {ops:Array Oper} {Q:Exit→Act→World→Prop} {i:Nat} {o:Oper} {K:Act→World→Prop} {a:Act} {w:World} (ho:ops[i]?=some o) (hg:o.guard=none) (h:o.wp P a w K Q):wpOp P ops Q i K a w:=by
 unfold wpOp
 rw[ho]
 simp only[Region.wanted,hg]
 exact .inl h
section
variable {P : Program} {md : Region.Mode} {ops : Array Oper} {Q : Exit → Act → World → Prop} {S : World → Prop} {z : Nat}
def qJ (P:Program) (md:Region.Mode) (ops:Array Oper) (Q:Exit→Act→World→Prop) (S:World→Prop) (z:Nat):Nat→Array Bool→Act→World→Prop
 | 0,listed,a,w=>Region.ready md ops listed=[]∧Q .normal a w
 | fuel+1,listed,a,w=>
  (Region.ready md ops listed=[]→Q .normal a w)∧
  ∀i∈Region.ready md ops listed,wpOp P ops Q i (fun a' w'=>(i≠z→S w')∧qJ P md ops Q S z fuel (listed.setIfInBounds i true) a' w') a w
theorem kU:∀(fuel:Nat) (listed:Array Bool) (a:Act) (w:World),qJ P md ops Q S z fuel listed a w→wpAny P md ops Q fuel listed a w
 | 0,_,_,_,h=>h
 | fuel+1,_,_,_,h=>⟨h.1,fun i hi=>wpOp_mono (fun a' w' h'=>kU fuel _ a' w' h'.2) (h.2 i hi)⟩
theorem XS {i:Nat} {oi oz:Oper} {v:Value} (hi:ops[i]?=some oi) (hz:ops[z]?=some oz) (hiz:i≠z) (hw:∃e∈oz.after,Region.binds md e=true∧e.on=i) (hsel:∀(j:Nat) (o:Oper) cs b,ops[j]?=some o→o.op≠.select cs b)
  (hQ:∀c a w,Q (.panic c) (a.put oi.dst v) w→Q (.panic c) a w) :
  ∀(fuel:Nat) (listed:Array Bool) (a:Act) (w:World),
   (∀j oj,ops[j]?=some oj→j≠i→listed.getD j true=false→(∀e∈oj.after,Region.binds md e=true→e.on≠i)→oi.apart ops oj=true)→
   i∈Region.ready md ops listed→YieldsIf P ops S oi v a→S w→
   qJ P md ops Q S z fuel (listed.setIfInBounds i true) (a.put oi.dst v) w→qJ P md ops Q S z (fuel+1) listed a w:=by
 intro fuel
 induction fuel with
 | zero=>
  intro listed a w _ hr hy hS H
  refine⟨fun h=>(by rw[h]at hr;cases hr),fun j hj=>?_⟩
  by_cases hji:j=i
  ·subst hji;exact hy.wpOp hi hS ⟨fun _=>hS,H⟩
  have:=ready_mono hj hji
  rw[H.1]at this
  cases this
 | succ fuel ih=>
  intro listed a w hfree hr hy hS H
  refine⟨fun h=>(by rw[h]at hr;cases hr),fun j hj=>?_⟩
  by_cases hji:j=i
  ·subst hji;exact hy.wpOp hi hS ⟨fun _=>hS,H⟩
  have h1:=H.2 j (ready_mono hj hji)
  obtain⟨hjun,oj,hoj,hall⟩:=mem_ready.1 hj
  have hnot:∀e∈oj.after,Region.binds md e=true→e.on≠i:=fun e he hb heq=>by
   have h1:=hall e he hb
   have h0:=(mem_ready.1 hr).1
   rw[heq]at h1
   rcases Nat.lt_or_ge i listed.size with h'|h'
   ·simp[h']at h0 h1;rw[h0]at h1;cases h1
   simp[Array.getElem?_eq_none h']at h1
  have hjz:j≠z:=fun e=>by
   subst e
   rw[hoj]at hz
   cases hz
   obtain⟨e,he,hb,hon⟩:=hw
   exact hnot e he hb hon
  have h2:=wpOp_putIf hoj (hfree j oj hoj hji hjun hnot) (fun cs b=>hsel i oi cs b hi) (fun cs b=>hsel j oj cs b hoj) hQ hy h1
  have hfree':∀k ok,ops[k]?=some ok→k≠i→(listed.setIfInBounds j true).getD k true=false→
    (∀e∈ok.after,Region.binds md e=true→e.on≠i)→oi.apart ops ok=true:=fun k ok hk hki hun hno=>by
   refine hfree k ok hk hki ?_ hno
   by_cases hjk:j=k
   ·subst hjk;exact hjun
   rw[getD_set_ne true hjk]at hun;exact hun
  refine wpOp_mono (fun a' w' h3=>⟨fun _=>h3.2.1 hjz,ih (listed.setIfInBounds j true) a' w' hfree' (ready_mono hr (Ne.symm hji)) h3.1 (h3.2.1 hjz) ?_⟩) h2
  rw[Array.setIfInBounds_comm _ _ hji]
  exact h3.2.2
def VD (md:Region.Mode) (ops:Array Oper) (z i:Nat):Bool:=decide (i≠z)&&match ops[z]? with|some o=>o.after.any fun e=>Region.binds md e&&e.on == i|none=>false
theorem qE {i:Nat} {oi:Oper} {v:Value} {fuel:Nat} {listed:Array Bool} {a:Act} {w:World} (hi:ops[i]?=some oi) (hw:VD md ops z i=true)
  (hs:Region.noSelect ops=true) (hf:Region.free md ops listed i=true) (hr:(Region.ready md ops listed).contains i=true)
  (hQ:∀c a w,Q (.panic c) (a.put oi.dst v) w→Q (.panic c) a w) (hy:YieldsIf P ops S oi v a) (hS:S w)
  (h:qJ P md ops Q S z fuel (listed.setIfInBounds i true) (a.put oi.dst v) w):qJ P md ops Q S z (fuel+1) listed a w:=by
 unfold VD at hw
 rw[Bool.and_eq_true]at hw
 obtain⟨h1,h2⟩:=hw
 cases hz:ops[z]? with
 | none=>rw[hz]at h2;cases h2
 | some oz=>
  rw[hz]at h2
  simp only[Array.any_eq_true',Bool.and_eq_true,beq_iff_eq]at h2
  obtain⟨e,he,hb,hon⟩:=h2
  exact XS hi hz (of_decide_eq_true h1) ⟨e,he,hb,hon⟩ (Region.noSelect_spec hs) hQ fuel listed a w (Region.free_spec hi hf) (by simpa using hr) hy hS h
theorem kV {rs:List Nat} {fuel:Nat} {listed:Array Bool} {a:Act} {w:World} (hr:Region.ready md ops listed=rs) (hne:rs≠[])
  (h:∀i∈rs,wpOp P ops Q i (fun a' w'=>(i≠z→S w')∧qJ P md ops Q S z fuel (listed.setIfInBounds i true) a' w') a w):qJ P md ops Q S z (fuel+1) listed a w:=
 ⟨fun h0=>absurd (hr ▸ h0) hne,hr ▸ h⟩
theorem vI {i:Nat} {o:Oper} {fuel:Nat} {listed:Array Bool} {a:Act} {w:World} (hr:Region.ready md ops listed=[i]) (ho:ops[i]?=some o) (hg:o.guard=none)
  (h:o.wp P a w (fun a' w'=>(i≠z→S w')∧qJ P md ops Q S z fuel (listed.setIfInBounds i true) a' w') Q):qJ P md ops Q S z (fuel+1) listed a w:=
 kV hr (by simp) fun j hj=>by
  obtain rfl:j=i:=by simpa using hj
  exact Qw ho hg h
theorem qz {listed:Array Bool} {a:Act} {w:World} (hr:Region.ready md ops listed=[]) (h:Q .normal a w) :
  ∀fuel,qJ P md ops Q S z fuel listed a w
 | 0=>⟨hr,h⟩
 | _+1=>⟨fun _=>h,by rw[hr];simp⟩
end

def noDefer (ops:Array Oper):Bool:=ops.toList.all fun o=>match o.op with|.defer _=>false|_=>true
theorem XT {ops:Array Oper} (h:noDefer ops=true):∀(i:Nat) (o:Oper),ops[i]?=some o→∀c,o.op≠.defer c:=by
 intro i o ho c hc
 have hm:o∈ops.toList:=by
  rw[Array.mem_toList_iff]
  exact Array.mem_of_getElem? ho
 have:=List.all_eq_true.1 h o hm
 rw[hc]at this
 cases this
theorem kW {l n:Nat} {P:Program} {id:Nat} {ops:Array Oper} {Q:Exit→Act→World→Prop} {S:World→Prop} {a:Act} {w:World} (hm:P.follows .mixedOrders=true) (hL:¬ LetsOut Q) (hnd:noDefer ops=true)
  (z:Nat) (h:qJ P .any ops Q S z ops.size (Array.replicate ops.size false) a w.drew):(Code.region id ops true).wpIn (Fence.wide.inRound l) n P Q a w:=
 wpIn_region_any hm (jU hL (XT hnd) _ _ _ _ (kU _ _ _ _ h))
theorem JW {P:Program} {id:Nat} {ops:Array Oper} {Q:Exit→Act→World→Prop} {S:World→Prop} {a:Act} {w:World} (hm:P.follows .mixedOrders=true)
  (z:Nat) (h:qJ P .any ops Q S z ops.size (Array.replicate ops.size false) a w.drew):(Code.region id ops true).wp P Q a w:=
 wp_region_any hm (kU _ _ _ _ h)
def calm (Q:Exit→Act→World→Prop):Exit→Act→World→Prop
 | .panic _,_,_=>False
 | e,a,w=>Q e a w
theorem ql {P:Program} {id:Nat} {ops:Array Oper} {Q:Exit→Act→World→Prop} {S:World→Prop} {a:Act} {w:World} (hm:P.follows .mixedOrders=true)
  (z:Nat) (h:qJ P .any ops (calm Q) S z ops.size (Array.replicate ops.size false) a w.drew):(Code.region id ops true).wp P Q a w:=
 Code.wp_mono (Q:=calm Q) (fun e a w h=>by cases e<;>first|exact h|exact h.elim) (JW hm z h)
theorem XU {P:Program} {o:Oper} {a:Act} {w w':World} {v:Value} {K:Act→World→Prop} {Q:Exit→Act→World→Prop} (h:(execOp a.eval o).run P w = .ok (.value v) w') (hk:K (a.put o.dst v) w'):o.wp P a w K Q:=by
 unfold Oper.wp
 rw[h]
 exact hk
theorem ZB {P:Program} {o:Oper} {a:Act} {w w':World} {K:Act→World→Prop} {Q:Exit→Act→World→Prop} (h:(execOp a.eval o).run P w = .ok .skip w') (hk:K (a.put o.dst undef) w'):o.wp P a w K Q:=by
 unfold Oper.wp
 rw[h]
 exact hk
theorem QP {P:Program} {md:Region.Mode} {ops:Array Oper} {Q:Exit→Act→World→Prop} {S:World→Prop} {z i:Nat} {o:Oper} {fuel:Nat} {listed:Array Bool} {a:Act} {w:World} (w':World) (hr:Region.ready md ops listed=[i]) (ho:ops[i]?=some o) (hg:o.guard=none)
  (h:(execOp a.eval o).run P w = .ok .skip w') (hS:i≠z→S w') (hk:qJ P md ops Q S z fuel (listed.setIfInBounds i true) (a.put o.dst undef) w'):qJ P md ops Q S z (fuel+1) listed a w:=
 vI hr ho hg (ZB h ⟨hS,hk⟩)
theorem JX {P:Program} {md:Region.Mode} {ops:Array Oper} {Q:Exit→Act→World→Prop} {S:World→Prop} {z i:Nat} {o:Oper} {fuel:Nat} {listed:Array Bool} {a:Act} {w:World} {f:FuncId} {args:Array Value} {R:Ending→World→Prop} (hr:Region.ready md ops listed=[i]) (ho:ops[i]?=some o) (hg:o.guard=none)
  (h:(execOp a.eval o).run P w = .ok (.enter f args) w) (hc:Calls P f args w R) (hk:∀e w',R e w'→∃v,e = .returned v∧(i≠z→S w')∧qJ P md ops Q S z fuel (listed.setIfInBounds i true) (a.put o.dst v) w'):qJ P md ops Q S z (fuel+1) listed a w:=by
 refine vI hr ho hg ?_
 unfold Oper.wp
 rw[h]
 refine hc.mono fun e w' he=>?_
 obtain⟨v,rfl,h1,h2⟩:=hk e w' he
 exact⟨h1,h2⟩
theorem XV {P:Program} (w:World) {o:Oper} {a:Act} {K:Act→World→Prop} {Q:Exit→Act→World→Prop} (s x:Operand) (t:TypeId)
  (ho:o.op = .call { callee:=.builtin .append,args:=#[s,x],argTypes:=#[t,t] })
  (base:Nat) (e:TypeId) (i:TypeInfo) (z:Value) (size bytes:Nat) (ht:P.underlying t=some (.slice e)) (hi:P.info? e=some i) (hz:i.zero=some z)
  (hsize:i.size=size) (hby:i.bytes=bytes) (hzs:z.cells.size=size) (hsz:0<size)
  (v:Value) (n:Nat) (xs:List Value) (hs:a.eval s=v) (hown:w.ownsRow base e size v n xs)
  (ad:Addr) (m c:Nat) (news:List Value) (hx:a.eval x = .slice (some ad) m c) (hl:news.length=m*size) (hnews:∀j u,news[j]?=some u→w.cell? (ad.add j)=some u) (h1:∀u∈news,u.oneCell'=true)
  (h63:n+m≤maxLen) (hbytes:(n+m)*bytes≤140737488355328) (hbase:base≤w.heap.size)
  (h:∀v' w',w'.ownsRow base e size v' (n+m) (xs++news)→w.grownBy w' v.ownBlock→(v'.ownBlock=v.ownBlock∨v'.ownBlock=some w.heap.size)→K (a.put o.dst v') w'):o.wp P a w K Q:=by
 obtain⟨v',w',hr,h2,h3,_,h5⟩:=run_append_own_at (P:=P) w base t o.type e i z size bytes ht hi hz hsize hby hzs hsz v n xs hown ad m c news hl hnews h1 h63 hbytes hbase
 unfold Oper.wp execOp
 simp only[ho,resolve,invoke,builtin,Sem.run_bind,Sem.run_pure,Result.andThen_ok,List.map_toArray,List.map_cons,List.map_nil,hs,hx,hr]
 exact h v' w' h2 h3 h5

section
variable {P : Program} {md : Region.Mode} {ops : Array Oper} {Q : Exit → Act → World → Prop} {S : World → Prop} {z : Nat}
theorem takeZ (i d:Nat) (v:Value) {oi:Oper} {fuel:Nat} {listed:Array Bool} {a:Act} {w:World} (hi:ops[i]?=some oi) (hd:oi.dst=some d) (hw:VD md ops z i=true)
  (hs:Region.noSelect ops=true) (hf:Region.free md ops listed i=true) (hr:(Region.ready md ops listed).contains i=true)
  (hQ:∀c a w,Q (.panic c) (a.put (some d) v) w→Q (.panic c) a w) (hy:YieldsIf P ops S oi v a) (hS:S w)
  (h:qJ P md ops Q S z fuel (listed.setIfInBounds i true) (a.put (some d) v) w):qJ P md ops Q S z (fuel+1) listed a w:=
 qE hi hw hs hf hr (by rw[hd];exact hQ) hy hS (by rw[hd];exact h)
theorem tkZ (i d:Nat) (v:Value) {oi:Oper} {fuel:Nat} {listed:Array Bool} {a:Act} {w:World} (hi:ops[i]?=some oi) (hd:oi.dst=some d) (hS:S w) (hy:∀w',S w'→(execOp a.eval oi).run P w' = .ok (.value v) w')
  (h:qJ P md ops Q S z fuel (listed.setIfInBounds i true) (a.put (some d) v) w) (hg:Region.wanted oi (yielded ops a.tmps)=true:=by rfl) (hw:VD md ops z i=true:=by kernel_rfl)
  (hs:Region.noSelect ops=true:=by kernel_rfl) (hf:Region.free md ops listed i=true:=by kernel_rfl) (hr:(Region.ready md ops listed).contains i=true:=by kernel_rfl)
  (hQ:∀c a w,Q (.panic c) (a.put (some d) v) w→Q (.panic c) a w:=by exact fun _ _ _ h=>h):qJ P md ops Q S z (fuel+1) listed a w:=
 takeZ i d v hi hd hw hs hf hr hQ (Or.inl ⟨hg,hy⟩) hS h
theorem stepZ_val {i:Nat} {o:Oper} {fuel:Nat} {listed:Array Bool} {a:Act} {w:World} (v:Value) (w':World) (ho:ops[i]?=some o) (hg:o.guard=none) (h:(execOp a.eval o).run P w = .ok (.value v) w') (hS:S w')
  (hk:qJ P md ops Q S z fuel (listed.setIfInBounds i true) (a.put o.dst v) w'):wpOp P ops Q i (fun a' w'=>(i≠z→S w')∧qJ P md ops Q S z fuel (listed.setIfInBounds i true) a' w') a w:=
 Qw ho hg (XU h ⟨fun _=>hS,hk⟩)
theorem qA {i:Nat} {o:Oper} {fuel:Nat} {listed:Array Bool} {a:Act} {w:World} (d:Nat) (v:Value) (w':World) (ho:ops[i]?=some o) (hd:o.dst=some d) (hg:o.guard=none) (h:(execOp a.eval o).run P w = .ok (.value v) w') (hS:S w')
  (hk:qJ P md ops Q S z fuel (listed.setIfInBounds i true) (a.put (some d) v) w'):wpOp P ops Q i (fun a' w'=>(i≠z→S w')∧qJ P md ops Q S z fuel (listed.setIfInBounds i true) a' w') a w:=
 stepZ_val v w' ho hg h hS (by rw[hd];exact hk)
theorem Ko {i:Nat} {o:Oper} {fuel:Nat} {listed:Array Bool} {a:Act} {w:World} (w':World) (ho:ops[i]?=some o) (hg:o.guard=none) (h:(execOp a.eval o).run P w = .ok .skip w') (hS:i≠z→S w')
  (hk:qJ P md ops Q S z fuel (listed.setIfInBounds i true) (a.put o.dst undef) w'):wpOp P ops Q i (fun a' w'=>(i≠z→S w')∧qJ P md ops Q S z fuel (listed.setIfInBounds i true) a' w') a w:=
 Qw ho hg (ZB h ⟨hS,hk⟩)
theorem Kq {i:Nat} {o:Oper} {fuel:Nat} {listed:Array Bool} {a:Act} {w:World} {f:FuncId} {args:Array Value} {R:Ending→World→Prop} (ho:ops[i]?=some o) (hg:o.guard=none)
  (h:(execOp a.eval o).run P w = .ok (.enter f args) w) (hc:Calls P f args w R) (hk:∀e w',R e w'→∃v,e = .returned v∧S w'∧qJ P md ops Q S z fuel (listed.setIfInBounds i true) (a.put o.dst v) w'):wpOp P ops Q i (fun a' w'=>(i≠z→S w')∧qJ P md ops Q S z fuel (listed.setIfInBounds i true) a' w') a w:=by
 refine Qw ho hg ?_
 unfold Oper.wp
 rw[h]
 refine hc.mono fun e w' he=>?_
 obtain⟨v,rfl,h1,h2⟩:=hk e w' he
 exact⟨fun _=>h1,h2⟩
theorem qn {i:Nat} {o:Oper} {fuel:Nat} {listed:Array Bool} {a:Act} {w:World} {f:FuncId} {args:Array Value} {R:Ending→World→Prop} (d:Nat) (ho:ops[i]?=some o) (hd:o.dst=some d) (hg:o.guard=none)
  (h:(execOp a.eval o).run P w = .ok (.enter f args) w) (hc:Calls P f args w R) (hk:∀e w',R e w'→∃v,e = .returned v∧S w'∧qJ P md ops Q S z fuel (listed.setIfInBounds i true) (a.put (some d) v) w'):wpOp P ops Q i (fun a' w'=>(i≠z→S w')∧qJ P md ops Q S z fuel (listed.setIfInBounds i true) a' w') a w:=
 Kq ho hg h hc (by rw[hd];exact hk)
theorem qC {i:Nat} {o:Oper} {fuel:Nat} {listed:Array Bool} {a:Act} {w:World} (w':World) (ho:ops[i]?=some o) (hd:o.dst=none) (hg:o.guard=none) (h:(execOp a.eval o).run P w = .ok .skip w') (hS:i≠z→S w')
  (hk:qJ P md ops Q S z fuel (listed.setIfInBounds i true) a w'):wpOp P ops Q i (fun a' w'=>(i≠z→S w')∧qJ P md ops Q S z fuel (listed.setIfInBounds i true) a' w') a w:=
 Ko w' ho hg h hS (by rw[hd];exact hk)
theorem qk {i:Nat} {fuel:Nat} {listed:Array Bool} {a:Act} {w:World} (hr:Region.ready md ops listed=[i])
  (h1:wpOp P ops Q i (fun a' w'=>(i≠z→S w')∧qJ P md ops Q S z fuel (listed.setIfInBounds i true) a' w') a w):qJ P md ops Q S z (fuel+1) listed a w:=
 kV hr (by simp) fun m hm=>by
  obtain rfl:m=i:=by simpa using hm
  exact h1
theorem stepZ_2 {i j:Nat} {fuel:Nat} {listed:Array Bool} {a:Act} {w:World} (hr:Region.ready md ops listed=[i,j])
  (h1:wpOp P ops Q i (fun a' w'=>(i≠z→S w')∧qJ P md ops Q S z fuel (listed.setIfInBounds i true) a' w') a w)
  (h2:wpOp P ops Q j (fun a' w'=>(j≠z→S w')∧qJ P md ops Q S z fuel (listed.setIfInBounds j true) a' w') a w):qJ P md ops Q S z (fuel+1) listed a w:=
 kV hr (by simp) fun m hm=>by
  rcases List.mem_cons.1 hm with rfl|hm
  ·exact h1
  obtain rfl:m=j:=by simpa using hm
  exact h2
end


theorem QQ {P:Program} {o:Oper} {a:Act} {w w':World} {s x:Operand} {t:TypeId} {u v v':Value} (ho:o.op = .call { callee:=.builtin .append,args:=#[s,x],argTypes:=#[t,t] }) (hs:a.eval s=v) (hx:a.eval x=u) (h:(Builtin.append_ #[t,t] o.type #[v,u]).run P w = .ok v' w') :
  (execOp a.eval o).run P w = .ok (.value v') w':=by
 unfold execOp
 simp only[ho,resolve,invoke,builtin,Sem.run_bind,Sem.run_pure,Result.andThen_ok,List.map_toArray,List.map_cons,List.map_nil,hs,hx,h]
section
variable {P : Program} {md : Region.Mode} {ops : Array Oper} {Q : Exit → Act → World → Prop} {S : World → Prop} {z : Nat} {α : Type} {R : ElemO α}
theorem xW {i:Nat} {o:Oper} {fuel:Nat} {listed:Array Bool} {a:Act} {w:World} (d:Nat) (s x:Operand) (t:TypeId) (ho:ops[i]?=some o) (hop:o.op = .call { callee:=.builtin .append,args:=#[s,x],argTypes:=#[t,t] }) (hd:o.dst=some d) (hg:o.guard=none)
  (e:TypeId) (ti:TypeInfo) (zv:Value) (size bytes:Nat) (ht:P.underlying t=some (.slice e)) (hi:P.info? e=some ti) (hz:ti.zero=some zv)
  (hsize:ti.size=size) (hby:ti.bytes=bytes) (hzs:zv.cells.size=size) (hsz:0<size) (hR:vF R)
  {v:Value} {xs:List α} {U T:Blks} (hs:a.eval s=v) (hO:SlO e size R w v xs U)
  (ad:Addr) (cc:Nat) (c:List Value) (y:α) (hx:a.eval x = .slice (some ad) 1 cc) (hl:c.length=size) (hnews:∀j u,c[j]?=some u→w.cell? (ad.add j)=some u) (h1:∀u∈c,u.oneCell'=true) (hy:R w c y T) (hT:Apart U T) (hTi:InB w T)
  (h63:xs.length+1≤maxLen) (hbytes:(xs.length+1)*bytes≤140737488355328)
  (hk:∀v' w',Snoc e size R w (xs++[y]) U T v' w'→S w'∧qJ P md ops Q S z fuel (listed.setIfInBounds i true) (a.put (some d) v') w') :
  wpOp P ops Q i (fun a' w'=>(i≠z→S w')∧qJ P md ops Q S z fuel (listed.setIfInBounds i true) a' w') a w:=by
 obtain⟨v',w',hr,h2⟩:=vY (P:=P) w t o.type e ti zv size bytes ht hi hz hsize hby hzs hsz hR hO ad cc c y hl hnews h1 hy hT hTi h63 hbytes
 obtain⟨h3,h4⟩:=hk v' w' h2
 exact qA d v' w' ho hd hg (QQ hop hs hx hr) h3 h4
end

theorem kq:(Tryz.prog.info? 48).map (fun i=>(i.zero,i.size,i.bytes))=some (some (.agg #[.slice none 0 0,.slice none 0 0,.int .i64 0,.bool false,.int .i64 0,.slice none 0 0]),6,96):=by kernel_rfl

theorem BlkO.tight {w:World} {cs:List Value} {x:BlkL} {T:Blks} (h:BlkO w cs x T):∃T',BlkO w cs x T'∧InB w T'∧∀k,T' k→T k:=by
 obtain⟨v1,v2,v3,S1,S2,S3,h0,h1,h2,h3,h4,h5,a1,a2,a3,g1,g2,g3⟩:=h
 refine⟨fun k=>S1 k∨S2 k∨S3 k,⟨v1,v2,v3,S1,S2,S3,h0,h1,h2,h3,h4,h5,a1,a2,a3,fun _ h=>.inl h,fun _ h=>.inr (.inl h),fun _ h=>.inr (.inr h)⟩,?_,?_⟩
 ·rintro k (h|h|h)
  ·exact h3.sl.inb k h
  ·exact h4.sl.inb k h
  exact h5.sl.inb k h
 rintro k (h|h|h)
 ·exact g1 k h
 ·exact g2 k h
 exact g3 k h

theorem QR (f:FunL) (q:Option Addr) (e1:Nat) (w:World) (hn:f.name.size≤reachBytes) (i1:I64 f.params) (i2:I64 f.regs) (hB:SlF w 6 96 (BlkR w) (.slice q f.blocks.length e1) f.blocks) :
  Calls Tryz.prog 44 #[.agg #[.string f.name,.int .i64 f.params,.int .i64 f.regs,.slice q f.blocks.length e1]] w fun e w'=>(∃p c,e = .returned (.agg #[.string f.name,.int .i64 f.params,.int .i64 f.regs,.slice p f.blocks.length c])∧
   ∃S,FunO w' [.string f.name,.int .i64 f.params,.int .i64 f.regs,.slice p f.blocks.length c] f S∧LoB w.heap.size S)∧Below w.heap.size w w':=by
 obtain⟨iB,k1,k2,k3,k4⟩:=info_parts kq
 have hbd:=hB.bdC
 have hlb:f.blocks.length*96≤140737488351232:=hbd
 have hBs:SliceAt w 6 (BlkR w) q f.blocks:=by
  obtain⟨p,c,e,_,_,h⟩:=hB.outC
  cases e
  exact h
 have HBs:=q7 hBs
 have HBd:=q7 hbd
 have HN:=q7 (And.intro hn (And.intro i1 i2))
 clear hB hBs hbd hn i1 i2
 go_enter Tryz.func44,Tryz.ntmps44
 go_wp2_with fail
 obtain⟨W0,hW0⟩:∃W0,W0=(w.alloc (.cells #[.string f.name,.int .i64 f.params,.int .i64 f.regs,.slice none 0 0] 37)).alloc (.cells #[.string { data:=#[] },.int .i64 0,.int .i64 0,.slice none 0 0] 37):=⟨_,rfl⟩
 rw[←hW0]
 have hz0:W0.heap.size=w.heap.size+1+1:=by rw[hW0];simp
 have HB0:Hid (Below w.heap.size w W0):=q7 (by rw[hW0];exact bZ)
 have HA:Hid (W0.heap[w.heap.size]?=some (.cells #[.string f.name,.int .i64 f.params,.int .i64 f.regs,.slice none 0 0] 37 (0,0))):=q7 (by rw[hW0];exact qh (qj rfl))
 have HZ:Hid (W0.heap[w.heap.size+1]?=some (.cells #[.string { data:=#[] },.int .i64 0,.int .i64 0,.slice none 0 0] 37 (0,0))):=q7 (by rw[hW0];exact qj (by simp))
 clear hW0
 go_loopw [11] (fun i wr=>∃(k:Nat) (v:Value),k≤f.blocks.length∧i = .int .i64 k∧(∃S,SlO 48 6 BlkO wr v (f.blocks.take k) S∧LoB W0.heap.size S)∧wr.heap[w.heap.size]?=some (.cells #[.string f.name,.int .i64 f.params,.int .i64 f.regs,v] 37 (0,0))∧Kept (fun k=>k=w.heap.size) W0 wr) (fun i _=>f.blocks.length - (intOf i).toNat)
 case atStart=>exact⟨0,.slice none 0 0,by omega,rfl,⟨fun _=>False,SlO.nil _ _ _ _ (fun _ h=>h.elim),fun _ h=>h.elim⟩,HA.out,Kept.refl _ _⟩
 case round=>
  obtain⟨k,v,hk,rfl,⟨S,hO,hL⟩,hA,hK⟩:=hrel
  obtain⟨p,c,hv,_⟩:=hO.val
  rw[List.length_take_of_le hk]at hv
  subst hv
  have HO:=q7 hO
  have HL:=q7 hL
  have HK:=q7 hK
  have HA1:=q7 hA
  have hsz:=hK.size
  have HBw:Hid (Below w.heap.size w wr):=HB0.out.trans (hK.below (by omega) (fun _ e=>by omega))
  clear hO hL hK hA
  by_cases hlt:k<f.blocks.length
  rotate_left
  ·obtain rfl:k=f.blocks.length:=by omega
   have r0:wr.cell? ⟨w.heap.size,0,none⟩=some (.string f.name):=(blk HA1.out).1 0
   have r1:wr.cell? ⟨w.heap.size,1,none⟩=some (.int .i64 f.params):=(blk HA1.out).1 1
   have r2:wr.cell? ⟨w.heap.size,2,none⟩=some (.int .i64 f.regs):=(blk HA1.out).1 2
   have r3:wr.cell? ⟨w.heap.size,3,none⟩=some (.slice p f.blocks.length c):=(blk HA1.out).1 3
   have hZ:=(HK.out.block (w.heap.size+1) (by omega) (by omega)).trans HZ.out
   have rZ:=blk hZ
   have rz0:wr.cell? ⟨w.heap.size+1,0,none⟩=some (.string { data:=#[] }):=rZ.1 0
   have rz1:wr.cell? ⟨w.heap.size+1,1,none⟩=some (.int .i64 0):=rZ.1 1
   have rz2:wr.cell? ⟨w.heap.size+1,2,none⟩=some (.int .i64 0):=rZ.1 2
   have rz3:wr.cell? ⟨w.heap.size+1,3,none⟩=some (.slice none 0 0):=rZ.1 3
   have rf:=rZ.2
   have hzl:=q9 hZ
   go_wp2_with fail
   rw[List.take_length]at HO
   obtain⟨WF,hWF⟩:∃WF,WF=(((wr.setCell ⟨w.heap.size+1,0,none⟩ (.string f.name)).setCell ⟨w.heap.size+1,1,none⟩ (.int .i64 f.params)).setCell ⟨w.heap.size+1,2,none⟩ (.int .i64 f.regs)).setCell ⟨w.heap.size+1,3,none⟩ (.slice p f.blocks.length c):=⟨_,rfl⟩
   rw[←hWF]
   have hF1:WF.heap[w.heap.size+1]?=some (.cells #[.string f.name,.int .i64 f.params,.int .i64 f.regs,.slice p f.blocks.length c] 37 (0,0)):=by
    rw[hWF,qg (qg (qg (qg hZ 0 _) 1 _) 2 _) 3 _]
    rfl
   have hFo:∀k,k≠w.heap.size+1→WF.heap[k]?=wr.heap[k]?:=fun k h1=>by
    rw[hWF]
    repeat rw[Go.Deep.blk_setCell_other _ _ _ _ (by assumption)]
   have hFs:WF.heap.size=wr.heap.size:=by rw[hWF];simp[World.setCell]
   have hFb:Below w.heap.size w WF:=by
    rw[hWF]
    exact(((HBw.out.setCell (by simp) _).setCell (by simp) _).setCell (by simp) _).setCell (by simp) _
   clear hWF
   have k0:=(blk hF1).1 0
   have k1':=(blk hF1).1 1
   have k2':=(blk hF1).1 2
   have k3':=(blk hF1).1 3
   refine bodyPost_ret (v:=.agg #[.string f.name,.int .i64 f.params,.int .i64 f.regs,.slice p f.blocks.length c]) ?_ rfl ⟨⟨p,c,rfl,S,⟨_,rfl,HN.out.1,HN.out.2.1,HN.out.2.2,⟨HO.out.loc qR (fun i hi=>hFo i (fun e=>by have:=HL.out i hi;omega)) (by omega),HBd.out⟩⟩,fun i hi=>by have:=HL.out i hi;omega⟩,hFb⟩
   simp[results,Tryz.results44,go_sem,k0,k1',k2',k3']
  obtain⟨bp,op,cs,hp,_,hc,b0,b1,b2,rfl,b3,b4,b5,b6,b7⟩:=HBs.out.get hlt
  subst hp
  obtain⟨q1,d1,rfl,_⟩:=b5.outC
  obtain⟨q2,d2,rfl,_⟩:=b6.outC
  obtain⟨q3,d3,rfl,_⟩:=b7.outC
  have hc0:=hc 0 (by omega)
  have hbp:=q8 hc0
  have c0:=(HBw.out.cell (p:=⟨bp,_,none⟩) hbp).trans hc0
  have c1:=(HBw.out.cell (p:=⟨bp,_,none⟩) hbp).trans (hc 1 (by omega))
  have c2:=(HBw.out.cell (p:=⟨bp,_,none⟩) hbp).trans (hc 2 (by omega))
  have c3:=(HBw.out.cell (p:=⟨bp,_,none⟩) hbp).trans (hc 3 (by omega))
  have c4:=(HBw.out.cell (p:=⟨bp,_,none⟩) hbp).trans (hc 4 (by omega))
  have c5:=(HBw.out.cell (p:=⟨bp,_,none⟩) hbp).trans (hc 5 (by omega))
  simp only[List.getElem?_cons_zero,List.getElem?_cons_succ,Nat.add_zero]at c0 c1 c2 c3 c4 c5
  have HR:=q7 (And.intro b3 (And.intro b4 (And.intro b5 (And.intro b6 b7))))
  clear hc hc0 b3 b4 b5 b6 b7
  go_wp2_with fail
  obtain⟨w1,hw1⟩:∃w1,w1=wr.alloc (.cells #[.slice q1 f.blocks[k].phis.length d1,.slice q2 f.blocks[k].list.length d2,.int .i64 f.blocks[k].fin.kind,.bool f.blocks[k].fin.onr,.int .i64 f.blocks[k].fin.onn,.slice q3 f.blocks[k].fin.to.length d3] 48):=⟨_,rfl⟩
  rw[←hw1]
  have hz1:w1.heap.size=wr.heap.size+1:=by rw[hw1];simp
  have HBr:Hid (Below wr.heap.size wr w1):=q7 (by rw[hw1];exact bZ)
  have HX1:Hid (w1.heap[wr.heap.size]?=some (.cells #[.slice q1 f.blocks[k].phis.length d1,.slice q2 f.blocks[k].list.length d2,.int .i64 f.blocks[k].fin.kind,.bool f.blocks[k].fin.onr,.int .i64 f.blocks[k].fin.onn,.slice q3 f.blocks[k].fin.to.length d3] 48 (0,0))):=q7 (by rw[hw1];exact qj rfl)
  clear hw1
  have hzA:w.heap.size<wr.heap.size:=by omega
  obtain⟨Sp,hSp⟩:∃Sp:World→Prop,Sp=fun w'=>w'.heap[w.heap.size]?=some (.cells #[.string f.name,.int .i64 f.params,.int .i64 f.regs,.slice p k c] 37 (0,0))∧w'.heap[wr.heap.size]?=some (.cells #[.slice q1 f.blocks[k].phis.length d1,.slice q2 f.blocks[k].list.length d2,.int .i64 f.blocks[k].fin.kind,.bool f.blocks[k].fin.onr,.int .i64 f.blocks[k].fin.onn,.slice q3 f.blocks[k].fin.to.length d3] 48 (0,0)):=⟨_,rfl⟩
  have ha6:∀w',Sp w'→(∀j,w'.cell? ⟨w.heap.size,j,none⟩=(#[.string f.name,.int .i64 f.params,.int .i64 f.regs,.slice p k c]:Array Value)[j]?)∧(∀j,w'.cell? ⟨wr.heap.size,j,none⟩=(#[.slice q1 f.blocks[k].phis.length d1,.slice q2 f.blocks[k].list.length d2,.int .i64 f.blocks[k].fin.kind,.bool f.blocks[k].fin.onr,.int .i64 f.blocks[k].fin.onn,.slice q3 f.blocks[k].fin.to.length d3]:Array Value)[j]?)∧w.heap.size<w'.heap.size∧wr.heap.size<w'.heap.size∧w'.frozen? ⟨w.heap.size,3,none⟩=false:=fun w' h=>by
   rw[hSp]at h
   exact⟨(blk h.1).1,(blk h.2).1,q9 h.1,q9 h.2,(blk h.1).2 3⟩
  have hSk:∀{U:Blks} {x y:World},Sp x→Kept U x y→¬ U w.heap.size→¬ U wr.heap.size→Sp y:=fun {U x y} h hk n1 n2=>by
   rw[hSp]at h ⊢
   exact⟨(hk.block _ (q9 h.1) n1).trans h.1,(hk.block _ (q9 h.2) n2).trans h.2⟩
  have hcU:Sp w1:=by
   rw[hSp]
   exact⟨(HBr.out.block _ hzA).trans HA1.out,HX1.out⟩
  have hS1:Sp w1.drew:=by
   rw[hSp]at hcU ⊢
   exact hcU
  refine ql (S:=Sp) (by kernel_rfl) 7 ?_
  refine tkZ 0 15 (.pointer (some ⟨w.heap.size,3,none⟩)) rfl rfl hS1 (fun w' h=>?_) ?_
  ·obtain⟨h1,h2,h3,h4,h5⟩:=ha6 w' h
   go_simp
  refine tkZ 1 16 (.slice p k c) rfl rfl hS1 (fun w' h=>?_) ?_
  ·obtain⟨h1,h2,h3,h4,h5⟩:=ha6 w' h
   go_simp
  refine tkZ 2 17 (.agg #[.slice q1 f.blocks[k].phis.length d1,.slice q2 f.blocks[k].list.length d2,.int .i64 f.blocks[k].fin.kind,.bool f.blocks[k].fin.onr,.int .i64 f.blocks[k].fin.onn,.slice q3 f.blocks[k].fin.to.length d3]) rfl rfl hS1 (fun w' h=>?_) ?_
  ·obtain⟨h1,h2,h3,h4,h5⟩:=ha6 w' h
   have g0:=h2 0
   have g1:=h2 1
   have g2:=h2 2
   have g3:=h2 3
   have g4:=h2 4
   have g5:=h2 5
   go_simp
  have hw1:Below w.heap.size w w1.drew:=(HBw.out.trans (HBr.out.mono (by omega))).drew
  refine qk (i:=3) (by kernel_rfl) (qn 18 rfl rfl rfl (by go_simp) (JV f.blocks[k] q1 q2 q3 d1 d2 d3 w1.drew (HR.out.2.2.1.mono hw1 (by omega) fun _ _ g=>g.below hw1) (HR.out.2.2.2.1.mono hw1 (by omega) fun _ _ g=>g.below hw1) (HR.out.2.2.2.2.mono hw1 (by omega) fun _ _ g=>g) HR.out.1 HR.out.2.1) ?_)
  rintro e w2 ⟨⟨p1,m1,p2,m2,p3,m3,rfl,T0,hT0,hjD⟩,hb2⟩
  obtain⟨T,hT,hTi,hTs⟩:=hT0.tight
  have hTl:LoB w1.drew.heap.size T:=fun k h=>hjD k (hTs k h)
  clear hT0 hjD hTs
  have hb2:Below w1.heap.size w1 w2:=(Below.refl _ w1).drew.trans hb2
  have hTl:∀k,T k→w1.heap.size≤k:=hTl
  have hS2:Sp w2:=hSk (x:=w1) hcU (Kept.of_below (S:=fun _=>False) hb2) (fun h=>h) (fun h=>h)
  refine⟨_,rfl,hS2,?_⟩
  have hO2:=HO.out.below qR (HBr.out.trans (hb2.mono (by omega)))
  have hz2:=hb2.size
  have HO2:=q7 hO2
  have HT2:=q7 hT
  have HTl:=q7 hTl
  have HTi:=q7 hTi
  have HB2:=q7 hb2
  clear hT hTl hTi hb2 hO2
  refine qk (i:=4) (by kernel_rfl) (qA 19 (.slice (some ⟨w2.heap.size,0,none⟩) 1 1) (w2.alloc (.cells #[.slice p1 f.blocks[k].phis.length m1,.slice p2 f.blocks[k].list.length m2,.int .i64 f.blocks[k].fin.kind,.bool f.blocks[k].fin.onr,.int .i64 f.blocks[k].fin.onn,.slice p3 f.blocks[k].fin.to.length m3] 48)) rfl rfl rfl (by go_simp) (hSk hS2 ((Kept.refl (fun _=>False) _).alloc _) (fun h=>h) (fun h=>h)) ?_)
  have hS3:Sp (w2.alloc (.cells #[.slice p1 f.blocks[k].phis.length m1,.slice p2 f.blocks[k].list.length m2,.int .i64 f.blocks[k].fin.kind,.bool f.blocks[k].fin.onr,.int .i64 f.blocks[k].fin.onn,.slice p3 f.blocks[k].fin.to.length m3] 48)):=hSk hS2 ((Kept.refl (fun _=>False) _).alloc _) (fun h=>h) (fun h=>h)
  refine qk (i:=5) (by kernel_rfl) (xW 20 _ _ 35 rfl rfl rfl rfl 48 iB _ 6 96 Tryz.underlying35 k1 k2 k3 k4 rfl (by decide) qR rfl (HO2.out.below qR ((Below.refl _ _).alloc (Nat.le_refl _) _)) ⟨w2.heap.size,0,none⟩ 1 [.slice p1 f.blocks[k].phis.length m1,.slice p2 f.blocks[k].list.length m2,.int .i64 f.blocks[k].fin.kind,.bool f.blocks[k].fin.onr,.int .i64 f.blocks[k].fin.onn,.slice p3 f.blocks[k].fin.to.length m3] f.blocks[k] rfl rfl ?hn ?ho (T:=T) ?hy ?ha ?ht ?hm ?hb ?_)
  case hn=>exact xm _ _ _ rfl
  case ho=>intro u hu;simp only[List.mem_cons,List.not_mem_nil,or_false]at hu;rcases hu with rfl|rfl|rfl|rfl|rfl|rfl<;>rfl
  case hy=>exact qR _ _ _ _ _ HT2.out (fun k hk=>Below.heap_alloc _ _ k (HTi.out k hk)) (by simp)
  case ha=>exact fun k h1 h2=>by have:=HO.out.inb k h1;have:=HTl.out k h2;omega
  case ht=>exact HTi.out.mono (by simp)
  case hm=>unfold maxLen;simp;omega
  case hb=>simp;omega
  intro v2 w4 ⟨S',hO4,hsub,hK4⟩
  obtain⟨pv,cv,hv2,_⟩:=hO4.val
  have hlv:(f.blocks.take k++[f.blocks[k]]).length=k+1:=by simp;omega
  rw[hlv]at hv2
  subst hv2
  have hSn:∀i,i<W0.heap.size→¬ S i:=fun i hi h=>by have:=HL.out i h;omega
  have hgU:¬ S wr.heap.size:=fun h=>by have:=HO.out.inb _ h;omega
  have hS4:Sp w4:=hSk hS3 hK4 (hSn _ (by omega)) hgU
  refine⟨hS4,?_⟩
  refine tkZ 6 21 (.pointer (some ⟨w.heap.size,3,none⟩)) rfl rfl hS4 (fun w' h=>?_) ?_
  ·obtain⟨h1,h2,h3,h4,h5⟩:=ha6 w' h
   go_simp
  obtain⟨h1,h2,h3,h4,h5⟩:=ha6 w4 hS4
  have h13:w4.cell? ⟨w.heap.size,3,none⟩=some (.slice p k c):=h1 3
  clear h1
  refine qk (i:=7) (by kernel_rfl) (qC (w4.setCell ⟨w.heap.size,3,none⟩ (.slice pv (k+1) cv)) rfl rfl rfl (by go_simp) (fun h=>absurd rfl h) (qz (by kernel_rfl) ?_ _))
  show Exit.inBlock 1 _ Exit.normal _ _
  have hrel:(∃S,SlO 48 6 BlkO (w4.setCell ⟨w.heap.size,3,none⟩ (.slice pv (k+1) cv)) (.slice pv (k+1) cv) (f.blocks.take (k+1)) S∧LoB W0.heap.size S)∧(w4.setCell ⟨w.heap.size,3,none⟩ (.slice pv (k+1) cv)).heap[w.heap.size]?=some (.cells #[.string f.name,.int .i64 f.params,.int .i64 f.regs,.slice pv (k+1) cv] 37 (0,0))∧Kept (fun k=>k=w.heap.size) W0 (w4.setCell ⟨w.heap.size,3,none⟩ (.slice pv (k+1) cv)):=by
   have hlo:LoB W0.heap.size S':=fun i hi=>by
    rcases hsub i hi with h|h|h
    ·exact HL.out i h
    ·have:=HTl.out i h;omega
    simp at h;omega
   have e4:w4.heap[w.heap.size]?=some (.cells #[.string f.name,.int .i64 f.params,.int .i64 f.regs,.slice p k c] 37 (0,0)):=by
    rw[hSp]at hS4
    exact hS4.1
   refine⟨⟨S',?_,hlo⟩,?_,?_⟩
   ·rw[List.take_succ_eq_append_getElem hlt]
    exact hO4.loc qR (fun i hi=>Go.Deep.blk_setCell_other _ _ _ _ (fun e=>by have:=hlo i hi;have e2:i=w.heap.size:=e;omega)) (by simp[World.setCell])
   ·rw[qg e4 3 _]
    rfl
   have kA:Kept (fun k=>k=w.heap.size) W0 w2:=HK.out.trans (Kept.of_below (S:=fun _=>False) (HBr.out.trans (HB2.out.mono (by omega)))) (fun _ _ h=>h.elim)
   exact((kA.alloc _).trans hK4 (fun i hi h=>absurd h (hSn i hi))).setCell rfl _
  have ha7:=q7 hrel
  clear hrel hS4 h2 h3 h4 h5 h13 hO4 hsub hK4 hS3 hS2
  go_wp2_with fail
  exact⟨⟨k+1,.slice pv (k+1) cv,by omega,by go_num,ha7.out.1,ha7.out.2.1,ha7.out.2.2⟩,by simp[intOf];omega⟩
end Go.Proofs.YtecdphhdmjmmnaaGreatDoor
