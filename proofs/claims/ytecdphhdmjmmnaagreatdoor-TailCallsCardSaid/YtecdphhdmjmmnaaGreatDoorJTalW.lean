/-
  The walk of TailCalls: it tells true.
-/
import Derived.Test.YtecdphhdmjmmnaaGreatDoorJLaidW
set_option maxRecDepth 100000
set_option maxHeartbeats 16000000
namespace Go.Proofs.YtecdphhdmjmmnaaGreatDoor
open Go.RowKit

def CallsIn (f g:FunL):Prop:=∀b,b<f.blocks.length→∀x∈(atF f b).list,x.op=20→∃c,c<g.blocks.length∧∃y∈(atF g c).list,y.op=20∧y.fn=x.fn
theorem CallsIn.refl (f:FunL):CallsIn f f:=fun b hb x hx ho=>⟨b,hb,x,hx,ho,rfl⟩
theorem CallsIn.trans {f g h:FunL} (a:CallsIn f g) (b:CallsIn g h):CallsIn f h:=fun k hk x hx ho=>by
 obtain⟨c,hc,y,hy,h1,h2⟩:=a k hk x hx ho
 obtain⟨d,hd,z,hz,h3,h4⟩:=b c hc y hy h1
 exact⟨d,hd,z,hz,h3,h4.trans h2⟩
theorem yk (f:FunL):CallsIn (qH f) f:=fun b hb x hx ho=>by
 have hb':b<f.blocks.length:=by rw[←qM f];exact hb
 rw[qF hb,jk hb]at hx
 obtain⟨y,hy,rfl⟩:=List.mem_map.1 hx
 exact⟨b,hb',y,by rw[qF hb'];exact hy,ho,rfl⟩
theorem ZV {f:FunL} {o:List Nat} (ho:OrdC f o):CallsIn (qU o f) f:=fun b hb x hx h=>by
 have hb':b<o.length:=by rw[←qV o f];exact hb
 rw[qF hb,Q1 o f hb']at hx
 exact⟨o[b],ho.inb _ (List.getElem_mem hb'),x,hx,h,rfl⟩
theorem yl {f:FunL} {b t:Nat} (m:MayJ f b t):CallsIn (zX f b t) f:=fun k hk x hx h=>by
 rw[qI]at hk
 rw[jS hk m.hb m.ht]at hx
 by_cases e:k=t
 ·rw[if_pos e]at hx;cases hx
 rw[if_neg e]at hx
 by_cases e2:k=b
 ·simp only[if_pos e2]at hx
  rcases List.mem_append.1 hx with h1|h1
  ·exact⟨b,m.hb,x,h1,h,rfl⟩
  exact⟨t,m.ht,x,h1,h,rfl⟩
 simp only[if_neg e2]at hx
 exact⟨k,hk,x,hx,h,rfl⟩
theorem Zk {nf:Nat} {P:Nat→Int}:∀(c:Nat) {f:FunL} {b:Nat},FunC nf P f→b<f.blocks.length→CallsIn (qN c f b) f
 | 0,_,_,_,_=>.refl _
 | c+1,f,b,h,hb=>by
  unfold qN
  cases e:jC f b with
  | none=>exact .refl _
  | some t=>
   have hm:=mayJ h hb e
   exact(Zk c (h.join hm) (by rw[qI];exact hb)).trans (yl hm)
theorem JG {nf:Nat} {P:Nat→Int} {f:FunL} (h:FunC nf P f):CallsIn (qG f) f:=by
 unfold qG
 have key:∀(l:List Nat) (g:FunL) (c:Nat),(∀b∈l,b<f.blocks.length)→FunC nf P g→g.blocks.length=f.blocks.length→CallsIn (l.foldl (fun g b=>qN c g b) g) g:=by
  intro l
  induction l with
  | nil=>intro g c _ _ _;exact .refl _
  | cons b l ih=>
   intro g c hl hg hn
   have hb:b<g.blocks.length:=by rw[hn];exact hl b (.head _)
   obtain⟨h1,h2⟩:=hg.chain c hb
   exact(ih _ c (fun x hx=>hl x (.tail _ hx)) h1 (h2.trans hn)).trans (Zk c hg hb)
 exact key _ f _ (fun b hb=>List.mem_range.1 hb) h rfl
theorem FunC.calls {nf:Nat} {P:Nat→Int} {f:FunL} (h:FunC nf P f):CallsIn (doT f) f:=by
 have h1:=h.order.chains
 have a:=yk (j8 (qG (j8 f)))
 have b:CallsIn (j8 (qG (j8 f))) (qG (j8 f)):=ZV h1.funD.toFunS.ordC
 have c:=JG h.order
 have d:CallsIn (j8 f) f:=ZV h.funD.toFunS.ordC
 exact a.trans (b.trans (c.trans d))
theorem Vl (k:Nat) (f:FunL):CallsIn (zl k f) f:=fun b hb x hx h=>by
 rw[qF hb]at hx
 cases b with
 | zero=>cases hx
 | succ i=>
  have hi:i<f.blocks.length:=by rw[zM]at hb;omega
  rw[kG k f hi]at hx
  refine⟨i,hi,x,?_,h,rfl⟩
  rw[qF hi]
  cases e:zJ k f.blocks[i] with
  | none=>rw[jm e]at hx;exact hx
  | some c=>
   rw[jn e]at hx
   rcases List.mem_append.1 hx with h1|h1
   ·exact List.dropLast_subset _ h1
   obtain⟨p,_,h2⟩:=Jk h1
   rcases h2 with⟨v,_,rfl⟩|rfl
   ·exact absurd h (by show ¬ (1:Int)=20;decide)
   exact absurd h (by show ¬ (1:Int)=20;decide)
theorem ym (pl:FunL→Bool) (k:Nat) (f:FunL):CallsIn (tailF pl k f) f:=by
 unfold tailF
 split
 ·exact Vl k f
 exact .refl f
theorem CallsIn.calls {f g:FunL} (h:CallsIn f g) {x:Int} (hx:kv f x=true):kv g x=true:=by
 unfold kv callB at hx ⊢
 simp only[List.any_eq_true,Bool.and_eq_true,beq_iff_eq]at hx ⊢
 obtain⟨b,hb,i,hi,ho,rfl⟩:=hx
 obtain⟨k,hk,rfl⟩:=List.mem_iff_getElem.1 hb
 obtain⟨c,hc,y,hy,h1,h2⟩:=h k hk i (by rw[qF hk];exact hi) ho
 rw[qF hc]at hy
 exact⟨_,List.getElem_mem hc,y,hy,h1,h2⟩
theorem tidy_at {X:UniL} {k:Nat} (hk:k<X.funcs.length) (h:k<(qZ X).funcs.length):(qZ X).funcs[k]=doT X.funcs[k]:=by simp[qZ]
theorem yn {pl:FunL→Bool} (hpl:ZO pl) {u:UniL} (h:ChkOk u) {k:Nat} (hk:k<u.funcs.length) (hv:k<(qZ (xx pl (qZ u))).funcs.length) {x:Int} (hx:kv (qZ (xx pl (qZ u))).funcs[k] x=true):kv u.funcs[k] x=true:=by
 have ht:=h.tidy.2
 have hy:=(ht.tail hpl).2
 have hk1:k<(qZ u).funcs.length:=by simp[qZ];exact hk
 have hk2:k<(xx pl (qZ u)).funcs.length:=by rw[jb];exact hk1
 rw[tidy_at hk2]at hx
 have h1:=(hy.funC hk2).calls.calls hx
 rw[VY hk1,tidy_at hk]at h1
 exact(h.funC hk).calls.calls ((ym pl k _).calls h1)
end Go.Proofs.YtecdphhdmjmmnaaGreatDoor
namespace Go.Proofs.YtecdphhdmjmmnaaGreatDoor
open Go.RowKit Go.Shelf

theorem any_take {α:Type} (p:α→Bool) {l:List α} {j:Nat} (h:j<l.length):(l.take (j+1)).any p=((l.take j).any p || p l[j]):=by
 rw[List.take_succ_eq_append_getElem h,List.any_append]
 simp

theorem tal_all (u:UniL) (gp fp:Option Addr) (gc fc:Nat) (w:World) (hG:SlF w 3 48 (GloR w) (.slice gp u.globals.length gc) u.globals) (hF:SlF w 4 56 (FunR w) (.slice fp u.funcs.length fc) u.funcs) (hw0:Ways w) :
  Calls Tryz.prog 8 #[.agg #[.slice gp u.globals.length gc,.slice fp u.funcs.length fc]] w fun e w'=>e = .returned (.bool true)∧Below w.heap.size w w':=by
 have hF0:SliceAt w 4 (FunR w) fp u.funcs:=by
  obtain⟨p,c,e,_,_,h⟩:=hF.outC
  cases e
  exact h
 have hgl:u.globals.length*48≤140737488351232:=hG.bdC
 have hfl:u.funcs.length*56≤140737488351232:=hF.bdC
 have HGs:=q7 hG
 have HFs:=q7 hF
 have HW:=q7 hw0
 have HF0:=q7 hF0
 clear hG hF hF0 hw0
 go_enter Tryz.func8,Tryz.ntmps8
 go_wp2_with fail
 obtain⟨w1,hw1⟩:∃w1,w1=w.alloc (.cells #[.slice gp u.globals.length gc,.slice fp u.funcs.length fc] 25):=⟨_,rfl⟩
 rw[←hw1]
 have hb1:Below w.heap.size w w1:=by rw[hw1];exact bZ
 have hO1:w1.heap[w.heap.size]?=some (.cells #[.slice gp u.globals.length gc,.slice fp u.funcs.length fc] 25 (0,0)):=by rw[hw1];exact qj rfl
 have hz1:w1.heap.size=w.heap.size+1:=by rw[hw1];simp
 have hgm:=SlF.mono HGs.out hb1 (by omega) fun _ _ h=>h.below hb1
 have hfm:=SlF.mono HFs.out hb1 (by omega) fun _ _ h=>h.below hb1
 have HB1:=q7 hb1
 have HO1:=q7 hO1
 clear hw1 hb1 hO1
 refine(tlo_any u gp fp gc fc w1 hgm hfm (HW.out.below HB1.out)).mono ?_
 rintro e w2 ⟨h,hb2⟩
 have HB2:=q7 (HB1.out.trans (hb2.mono HB1.out.size))
 have HO2:=q7 ((hb2.block _ (by omega)).trans HO1.out)
 have hz2:=hb2.size
 clear hgm hfm hb2
 rcases h with⟨c,k,hne,rfl⟩|⟨hc,V,hV,p1,c1,p2,c2,rfl,hgr,hfr⟩
 ·go_wp2_with fail
  refine(JE _).mono ?_
  rintro e w3 ⟨rfl,hb3⟩
  have HB3:Hid (Below w.heap.size w w3):=q7 (HB2.out.trans (Below.trans bZ (hb3.mono (by simp;omega))))
  clear hb3
  go_wp2_with fail
  go_ret
  exact⟨rfl,HB3.out⟩
 obtain⟨m,hm,_⟩:=hc.main
 have hpos:0<u.funcs.length:=Nat.lt_of_le_of_lt (Nat.zero_le _) (Zh hm)
 have HC:=q7 hc
 have HV:=q7 hV
 have HGr:=q7 hgr
 have HFr:=q7 hfr
 clear hc hm hV hgr hfr
 have hp1:decide (0<(u.funcs.length:Int))=true:=decide_eq_true (by omega)
 have b0:w2.cell? ⟨w.heap.size,0,none⟩=some (.slice gp u.globals.length gc):=(blk HO2.out).1 0
 have b1:w2.cell? ⟨w.heap.size,1,none⟩=some (.slice fp u.funcs.length fc):=(blk HO2.out).1 1
 have bz:=q9 HO2.out
 go_wp2_with fail
 obtain⟨W3,hW3⟩:∃W3,W3=(w2.alloc (.cells #[.slice p1 u.globals.length c1,.slice p2 u.funcs.length c2] 25)).alloc (.cells #[.int .i64 0,.int .i64 0] 27):=⟨_,rfl⟩
 rw[←hW3]
 have hz3:W3.heap.size=w2.heap.size+1+1:=by rw[hW3];simp
 have hb3:Below w2.heap.size w2 W3:=by rw[hW3];exact bZ
 have hO3:W3.heap[w2.heap.size]?=some (.cells #[.slice p1 u.globals.length c1,.slice p2 u.funcs.length c2] 25 (0,0)):=by rw[hW3];exact qh (qj rfl)
 have HO4:=q7 ((hb3.block _ (by omega)).trans HO2.out)
 have HB3:=q7 hb3
 have HBw:=q7 (HB2.out.trans (hb3.mono HB2.out.size))
 have HO3:=q7 hO3
 clear hW3 hb3 hO3
 have hgr:=HGr.out.mono HB3.out (by omega) fun _ _ h=>h.below HB3.out
 have hfr:=HFr.out.mono HB3.out (by omega) fun _ _ h=>h.below HB3.out
 have hVl:=HV.out.len
 have hV0:(chk { globals:=u.globals,funcs:=V }).1=0:=by rw[HV.out.ok]
 have hu0:(chk u).1=0:=by rw[(HC.out.same rfl rfl fun _ hk=>⟨rfl,rfl,HC.out.funC hk⟩).1]
 have hje:=q7 hgr
 have hjf:=q7 hfr
 have HVl:=q7 hVl
 have HV0:=q7 hV0
 have HU0:=q7 hu0
 clear hgr hfr hVl hV0 hu0
 go_wp2_with fail
 refine(gr_ok u gp fp gc fc W3 hgl (zT (by obtain⟨p,c,e,_,_,h⟩:=HGs.out.outC;cases e;exact h) HBw.out) hfl (xF HF0.out HBw.out) (HW.out.below HBw.out) HU0.out).mono ?_
 rintro e w4 ⟨T1,rfl,hr1,hb4⟩
 have HB4:=q7 hb4
 have hmQ:=q7 (HBw.out.trans (hb4.mono HBw.out.size))
 have hz4:=hb4.size
 have hzw:=HBw.out.size
 have HR1:=q7 hr1
 have hju:=q7 ((hb4.block _ (by omega)).trans HO3.out)
 have v0:w4.cell? ⟨w2.heap.size,0,none⟩=some (.slice p1 u.globals.length c1):=(blk hju.out).1 0
 have v1:w4.cell? ⟨w2.heap.size,1,none⟩=some (.slice p2 u.funcs.length c2):=(blk hju.out).1 1
 have vz:=q9 hju.out
 clear hb4 hr1
 go_wp2_with fail
 obtain⟨W5,hW5⟩:∃W5,W5=w4.alloc (.cells #[.int .i64 0,.int .i64 0] 27):=⟨_,rfl⟩
 rw[←hW5]
 have hb5:Below w4.heap.size w4 W5:=by rw[hW5];exact bZ
 have hF5:W5.heap[w4.heap.size]?=some (.cells #[.int .i64 0,.int .i64 0] 27 (0,0)):=by rw[hW5];exact qj rfl
 have HB5:=q7 hb5
 have hdP:=q7 (hmQ.out.trans (hb5.mono hmQ.out.size))
 have hmR:=q7 (HB4.out.trans (hb5.mono HB4.out.size))
 have HF5:=q7 hF5
 have hz5:=hb5.size
 clear hW5 hb5 hF5
 have hgv:SliceAt W5 3 (GloR W5) p1 u.globals:=by
  obtain⟨p,c,e,_,_,h⟩:=hje.out.outC
  cases e
  exact zT h hmR.out
 have hfv:SliceAt W5 4 (FunR W5) p2 V:=by
  have h9:=hjf.out
  rw[←HVl.out]at h9
  obtain⟨p,c,e,_,_,h⟩:=h9.outC
  cases e
  exact xF h hmR.out
 have hg2:=gr_ok { globals:=u.globals,funcs:=V } p1 p2 c1 c2 W5 hgl hgv (by show V.length*56≤_;rw[HVl.out];exact hfl) hfv (HW.out.below hdP.out) HV0.out
 rw[show({ globals:=u.globals,funcs:=V }:UniL).funcs.length=u.funcs.length from HVl.out]at hg2
 refine hg2.mono ?_
 rintro e w6 ⟨T2,rfl,hr2,hb6⟩
 have hz6:=hb6.size
 have hmS:=q7 (hdP.out.trans (hb6.mono hdP.out.size))
 have HR2:=q7 hr2
 have HF6:=q7 ((hb6.block _ (q9 HF5.out)).trans HF5.out)
 have g0:w6.cell? ⟨w4.heap.size,0,none⟩=some (.int .i64 0):=(blk HF6.out).1 0
 have gz:=q9 HF6.out
 have heE:=q7 (HB5.out.trans (hb6.mono HB5.out.size))
 clear hb6 hr2 hg2 hgv hfv
 have hnn:((u.funcs.length:Int) == 0)=false:=beq_eq_false_iff_ne.2 (by omega)
 have hnq:((u.funcs.length:Int) != u.funcs.length)=false:=by simp
 go_wp2_with fail
 obtain⟨W7,hW7⟩:∃W7,W7=w6.alloc (.cells #[.int .i64 0,.int .i64 0] 27):=⟨_,rfl⟩
 rw[←hW7]
 have hb7:Below w6.heap.size w6 W7:=by rw[hW7];exact bZ
 have HB7:=q7 hb7
 have hdh:=q7 (hmS.out.trans (hb7.mono hmS.out.size))
 have hmT:=q7 (heE.out.trans (hb7.mono heE.out.size))
 clear hW7 hb7 g0 gz v0 v1 vz hnn hnq
 have hga:∀k (hk:k<u.funcs.length),(jO u.funcs u.funcs.length)[k]'(by rw[jP (Nat.le_refl _)];exact hk)=Ql u.funcs[k] u.funcs.length:=fun k hk=>by simp[jO]
 have hgb:∀k (hk:k<V.length),(jO V u.funcs.length)[k]'(by rw[jP (by rw[HVl.out];exact Nat.le_refl _)];rw[←HVl.out];exact hk)=Ql V[k] u.funcs.length:=fun k hk=>by
  have hk2:k<u.funcs.length:=by rw[←HVl.out];exact hk
  simp[jO,HVl.out]
 have hsub:∀k (hk:k<u.funcs.length) (hk2:k<V.length) x,x∈Ql V[k] u.funcs.length→x∈Ql u.funcs[k] u.funcs.length:=fun k hk hk2 x hx=>by
  rw[J4]at hx ⊢
  refine⟨hx.1,?_⟩
  obtain⟨hc,rfl⟩:=HV.out
  exact yn vB hc hk hk2 hx.2
 have HGa:=q7 hga
 have HGb:=q7 hgb
 have HSub:=q7 hsub
 clear hga hgb hsub
 go_loopg [9] u.funcs.length (fun qq s wr=>∃k:Nat,k≤u.funcs.length∧qq=u.funcs.length - k∧s = .int .i64 k∧Below W7.heap.size W7 wr)
 case atStart=>exact⟨0,by omega,rfl,rfl,Below.refl _ _⟩
 case round=>
  obtain⟨k,hk,rfl,rfl,hb⟩:=hrel
  obtain⟨wo,hwo⟩:∃wo,wo=wr:=⟨_,rfl⟩
  subst hwo
  have HBo:=q7 hb
  clear hb
  by_cases hlt:k<u.funcs.length
  rotate_left
  ·obtain rfl:k=u.funcs.length:=by omega
   go_wp2_with fail
   go_ret
   exact⟨rfl,hdh.out.trans (HBo.out.mono hdh.out.size)⟩
  have hlv:k<V.length:=by rw[HVl.out];exact hlt
  have k0:(0:Int)≤(k:Int):=by omega
  have k1:(k:Int)<u.funcs.length:=by omega
  obtain⟨ra,hra⟩:∃ra,ra=Ql u.funcs[k] u.funcs.length:=⟨_,rfl⟩
  obtain⟨rb,hrb⟩:∃rb,rb=Ql V[k] u.funcs.length:=⟨_,rfl⟩
  have hsb:∀x∈rb,x∈ra:=fun x hx=>by rw[hra];rw[hrb]at hx;exact HSub.out k hlt hlv x hx
  have hrows:∀W,Below W7.heap.size W7 W→(ra.length≤140737488355328∧rb.length≤140737488355328)∧(∃q c,W.cell? ⟨T1,k,none⟩=some (.slice q ra.length c)∧SliceAt W 1 xT q ra)∧∃q c,W.cell? ⟨T2,k,none⟩=some (.slice q rb.length c)∧SliceAt W 1 xT q rb:=fun W h=>by
   obtain⟨b1,o1,q1,c1,hp,e0,l1,hs⟩:=rowGet HR1.out (hmT.out.trans (h.mono hmT.out.size)) (i:=k) (by rw[jP (Nat.le_refl _)];exact hlt)
   obtain⟨b2,o2,q2,c2,hp2,f0,l2,hs2⟩:=rowGet HR2.out (HB7.out.trans (h.mono HB7.out.size)) (i:=k) (by rw[jP (by rw[HVl.out];exact Nat.le_refl _)];exact hlt)
   cases hp
   cases hp2
   rw[HGa.out k hlt,←hra]at e0 hs l1
   rw[HGb.out k hlv,←hrb]at f0 hs2 l2
   rw[Nat.zero_add]at e0 f0
   exact⟨⟨l1,l2⟩,⟨q1,c1,e0,hs⟩,q2,c2,f0,hs2⟩
  obtain⟨hla,hlb⟩:=(hrows W7 (Below.refl _ _)).1
  have hfM:=q7 hrows
  have HSb:=q7 hsb
  clear hrows hsb hra hrb
  go_wp2_with fail
  go_loopg [10] rb.length (fun qq s wr=>∃i:Nat,i≤rb.length∧qq=rb.length - i∧s = .int .i64 i∧Below W7.heap.size W7 wr)
  case atStart=>exact⟨0,by omega,rfl,rfl,HBo.out⟩
  case round=>
   obtain⟨i,hi,rfl,rfl,hb⟩:=hrel
   obtain⟨wp,hwp⟩:∃wp,wp=wr:=⟨_,rfl⟩
   subst hwp
   have HBp:=q7 hb
   clear hb
   obtain⟨_,_,qb,cb,f0,hsq⟩:=hfM.out wp HBp.out
   have fz:=q8 f0
   have HSq:=q7 hsq
   clear hsq
   by_cases hil:i<rb.length
   rotate_left
   ·obtain rfl:i=rb.length:=by omega
    go_wp2_with fail
    go_roundg (u.funcs.length - (k+1))
    case measure=>omega
    case rel=>exact⟨k+1,by omega,rfl,by go_num,HBp.out⟩
   have hmem:=HSb.out _ (List.getElem_mem hil)
   obtain⟨x,hx⟩:∃x,x=rb[i]:=⟨_,rfl⟩
   rw[←hx]at hmem
   have HX:=q7 hx
   have hqh:=q7 hmem
   clear hmem hx
   go_wp2_with fail
   go_loopg [11,12] ra.length (fun qq s t wr=>∃j:Nat,j≤ra.length∧qq=ra.length - j∧t = .int .i64 j∧s = .bool ((ra.take j).any fun y=>y == x)∧Below W7.heap.size W7 wr)
   case atStart=>exact⟨0,by omega,rfl,rfl,rfl,HBp.out⟩
   case round=>
    obtain⟨j,hj,rfl,rfl,rfl,hb⟩:=hrel
    obtain⟨_,⟨qa,ca,e0,hsa⟩,qb',cb',f0',hjv⟩:=hfM.out wr hb
    have ez:=q8 e0
    have fz':=q8 f0'
    have HBr:=q7 hb
    obtain⟨fd,hfd⟩:∃fd,fd=(ra.take j).any fun y=>y == x:=⟨_,rfl⟩
    rw[←hfd]
    have HFd:=q7 hfd
    clear hb hfd
    by_cases hjl:j<ra.length
    ·obtain⟨bx,ox,hpx,ex,-⟩:=kl hsa (Below.refl _ _) hjl
     obtain⟨by',oy,hpy,ey,-⟩:=kl hjv (Below.refl _ _) hil
     subst hpx
     subst hpy
     rw[←HX.out]at ey
     have xz:=q8 ex
     have yz:=q8 ey
     have hnx:=any_take (fun y=>y == x) hjl
     rw[←HFd.out]at hnx
     have HNx:=q7 hnx
     have i0:(0:Int)≤(i:Int):=by omega
     have i1:(i:Int)<rb.length:=by omega
     have j0:(0:Int)≤(j:Int):=by omega
     have j1:(j:Int)<ra.length:=by omega
     obtain⟨y,hy⟩:∃y,y=ra[j]:=⟨_,rfl⟩
     rw[←hy]at ex HNx
     clear hsa hjv hnx hy
     cases fd
     all_goals
      go_wp2_with fail
      go_quiet (fail)
      go_wp2_with fail
      go_roundg (ra.length - (j+1))
      case measure=>omega
      case rel=>exact⟨j+1,by omega,rfl,by go_num,by rw[HNx.out];rfl,below_drewN HBr.out _⟩
    obtain rfl:j=ra.length:=by omega
    have hfd:fd=true:=by
     rw[HFd.out,List.take_of_length_le (Nat.le_refl _),List.any_eq_true]
     exact⟨x,hqh.out,by simp⟩
    subst hfd
    clear hsa hjv
    go_wp2_with fail
    go_roundg (rb.length - (i+1))
    case measure=>omega
    case rel=>exact⟨i+1,by omega,rfl,by go_num,HBr.out⟩
end Go.Proofs.YtecdphhdmjmmnaaGreatDoor
