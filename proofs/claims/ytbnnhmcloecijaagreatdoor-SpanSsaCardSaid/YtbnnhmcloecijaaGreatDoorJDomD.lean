/-
  The contract of graph.Ahead: of each block the blocks that lead to it (the same text as co
-/
import Derived.Test.YtbnnhmcloecijaaGreatDoorJNamA
import Derived.Lib.QuietBelow
set_option maxRecDepth 100000
set_option maxHeartbeats 16000000
namespace Go.Proofs.YtbnnhmcloecijaaGreatDoor
open Go.RowKit

def stL (L:List Nat):NamS:=L.foldl vw nam0
theorem stL_add (L M:List Nat):M.foldl vw (stL L)=stL (L++M):=by unfold stL;rw [yh]
theorem stL_one (L:List Nat) (r:Nat):vw (stL L) r=stL (L++[r]):=by unfold stL;rw [yh];rfl
def K3 (L:List Nat):List Nat:=L.foldl (fun D r=>if r∈D then D else D++[r]) []
theorem stL_is (L:List Nat):stL L=stD (K3 L):=by
 unfold stL K3
 rw [nam0_st,XU]
theorem kW (L:List Nat):(K3 L).Nodup∧∀r,r∈K3 L↔r∈L:=by
 have h:=vP (L:=L) (D:=[]) List.nodup_nil
 refine ⟨h.1,fun r=>?_⟩
 have:=h.2.2 r
 simpa [K3] using this
theorem oncL_len {L:List Nat} {m:Nat} (h:∀r∈L,r<m):(K3 L).length≤m:=ji m _ (kW L).1 fun r hr=>h r (((kW L).2 r).1 hr)
theorem stL_bd {L:List Nat} {m:Nat} (h:∀r∈L,r<m):(0≤(stL L).2∧(stL L).2≤m)∧∀j,-1≤(stL L).1 j∧(stL L).1 j≤m:=by
 have hl:=oncL_len h
 rw [stL_is]
 refine ⟨⟨by show (0:Int)≤((K3 L).length:Int);omega,by show ((K3 L).length:Int)≤m;omega⟩,fun j=>?_⟩
 show -1≤qF (K3 L) j∧qF (K3 L) j≤m
 unfold qF
 split
 ·next hj=>have:=(j3 hj).1;omega
 omega
theorem oncL_more (L M:List Nat):∃E,K3 (L++M)=K3 L++E:=by
 unfold K3
 rw [yh]
 exact (vP (L:=M) (D:=K3 L) (kW L).1).2.1
theorem stL_stay {L:List Nat} (M:List Nat) {r:Nat} (h:r∈L):(stL (L++M)).1 r=(stL L).1 r:=by
 obtain ⟨E,hE⟩:=oncL_more L M
 rw [stL_is,stL_is,hE]
 show qF (K3 L++E) r=qF (K3 L) r
 have h1:=((kW L).2 r).2 h
 rw [jc (yE _ h1),jc h1,List.idxOf_append,zZ h1]
theorem FunC.metLt {nf:Nat} {P:Nat→Int} {f:FunL} (h:FunC nf P f):∀r∈Zu f++JS f,r<f.regs.toNat:=fun r hr=>by
 have:=h.met (metL_mem.2 hr)
 omega
def OkV (m:Nat) (v:Bool×Int):Prop:=v.1=true→0≤v.2∧v.2<(m:Int)
structure OkB (m:Nat) (x:BlkL):Prop where
 dst:∀p∈x.phis,0≤p.dst∧p.dst<(m:Int)
 src:∀p∈x.phis,∀v∈p.src,OkV m v
 ia:∀i∈x.list,OkV m (i.ar,i.an)
 ib:∀i∈x.list,OkV m (i.br,i.bn)
 ic:∀i∈x.list,∀v∈i.args,OkV m v
 id:∀i∈x.list,i.dst<(m:Int)
 on:OkV m (x.fin.onr,x.fin.onn)
theorem FunC.okB {nf:Nat} {P:Nat→Int} {f:FunL} (h:FunC nf P f) {b:Nat} (hb:b<f.blocks.length):OkB f.regs.toNat f.blocks[b]:=by
 have hg:=h.reg
 have hp:=h.par
 have hm:((f.regs.toNat:Nat):Int)=f.regs:=by omega
 have val:∀{v:Bool×Int},vh f.regs v.1 v.2→OkV f.regs.toNat v:=fun hv e=>by rw [hm];exact hv e
 have hi:∀i∈f.blocks[b].list,InsC f.regs nf P i:=fun i hi=>insC_iff.1 (h.ins b hb i hi)
 refine ⟨fun p hp=>?_,fun p hp v hv=>val ((h.phi b hb p hp).src v hv),fun i hii=>val (v:=(i.ar,i.an)) (hi i hii).a,fun i hii=>val (v:=(i.br,i.bn)) (hi i hii).b,fun i hii v hv=>?_,fun i hii=>?_,val (v:=(f.blocks[b].fin.onr,f.blocks[b].fin.onn)) (h.fin b hb).on⟩
 ·have:=(h.phi b hb p hp).dst
  rw [hm]
  exact this
 ·by_cases e:i.op=20
  ·exact val (((hi i hii).call e).2.2 v hv)
  have:=((hi i hii).c0 e).2
  rw [List.eq_nil_of_length_eq_zero this] at hv
  cases hv
 rw [hm]
 have hc:=hi i hii
 by_cases e:shD i.op=true∧¬(i.op=20∧i.dst = -1)
 ·exact (hc.d1 e.1 e.2).2
 by_cases e2:shD i.op=true
 ·have e3:i.op=20∧i.dst = -1:=xF fun g=>e ⟨e2,g⟩
  omega
 have:=hc.d0 (by simpa using e2)
 omega
structure NmL (w:World) (nb A m:Nat) (L:List Nat):Prop where
 st:NmSt w nb A m (stL L)
 lt:∀r∈L,r<m
 m100:m≤100
theorem NmL.kept {U:Blks} {w w':World} {nb A m:Nat} {L:List Nat} (h:NmL w nb A m L) (hk:Kept U w w') (h1:¬ U nb) (h2:¬ U A):NmL w' nb A m L:=⟨h.st.kept hk h1 h2,h.lt,h.m100⟩
theorem NmL.below {w w':World} {nb A m:Nat} {L:List Nat} (h:NmL w nb A m L) (hb:Below w.heap.size w w'):NmL w' nb A m L:=⟨h.st.below hb,h.lt,h.m100⟩
theorem NmL.at {w:World} {nb A m:Nat} {L:List Nat} (h:NmL w nb A m L):nb<w.heap.size∧A<w.heap.size:=⟨q8 h.st.st,h.st.row.lt⟩
theorem metV_lt {m:Nat} {v:Bool×Int} (hv:OkV m v):∀r∈je v,r<m:=fun r hr=>by
 obtain ⟨e1,e2⟩:=metV_is hr
 have:=hv e1
 omega
theorem kH {w:World} {nb A m:Nat} {L:List Nat} (h:NmL w nb A m L) (r:Nat) (hr:r<m) :
  Calls Tryz.prog 110 #[.pointer (some ⟨nb,0,none⟩),.int .i64 r] w fun e w'=>e = .returned (.int .i64 ((stL (L++[r])).1 r))∧NmL w' nb A m (L++[r])∧Kept (fun k=>k=nb∨k=A) w w':=by
 have hb:=stL_bd h.lt
 have hqC:=h.m100
 refine (VE r nb A m (stL L) w h.st hr ⟨(hb.2 r).1,by have:=(hb.2 r).2;omega⟩).mono ?_
 rintro e w' ⟨h1,h2,h3⟩
 rw [stL_one] at h1 h2
 exact ⟨h1,⟨h2 (by omega),fun x hx=>(yH.1 hx).elim (h.lt x) (fun e=>by rw [yI.1 e];exact hr),h.m100⟩,h3⟩
theorem jT {w:World} {nb A m:Nat} {L:List Nat} (h:NmL w nb A m L) (v:Bool×Int) (hv:OkV m v) :
  Calls Tryz.prog 111 #[.pointer (some ⟨nb,0,none⟩),.agg #[.bool v.1,.int .i64 v.2]] w fun e w'=>e = .returned (.agg #[.bool v.1,.int .i64 (xe (stL (L++je v)).1 v).2])∧NmL w' nb A m (L++je v)∧Kept (fun k=>k=nb∨k=A) w w':=by
 have hb:=stL_bd h.lt
 have hqC:=h.m100
 refine (nval_any v nb A m (stL L) w h.st hv (fun r=>⟨(hb.2 r).1,by have:=(hb.2 r).2;omega⟩)).mono ?_
 rintro e w' ⟨h1,h2,h3⟩
 rw [stL_add] at h1 h2
 exact ⟨h1,⟨h2 (by omega),fun x hx=>(yH.1 hx).elim (h.lt x) (metV_lt hv x),h.m100⟩,h3⟩
/-! what is met so far, as a part of all that is met -/
theorem QK {α β:Type} {f:α→List β} {l:List α} {j:Nat} (h:j<l.length) {q:List β} (hq:q <+: f l[j]):(l.take j).flatMap f++q <+: l.flatMap f:=by
 obtain ⟨r,hr⟩:=hq
 refine ⟨r++(l.drop (j+1)).flatMap f,?_⟩
 have e:l.flatMap f=(l.take j++l[j]::l.drop (j+1)).flatMap f:=by rw [List.getElem_cons_drop,List.take_append_drop]
 rw [e,yn,List.flatMap_cons,←hr]
 simp
theorem pre_app {β:Type} {a b c:List β} (h:a++b <+: c):a <+: c:=(List.prefix_append a b).trans h
theorem KD {L K:List Nat} (h:L <+: K) {r:Nat} (hr:r∈L):(stL L).1 r=(stL K).1 r:=by
 obtain ⟨R,rfl⟩:=h
 exact (stL_stay R hr).symm
theorem QL {L K:List Nat} {v:Bool×Int} (h:L++je v <+: K):(xe (stL (L++je v)).1 v).2=(xe (stL K).1 v).2:=by
 unfold xe
 by_cases e:v.1=true
 ·rw [zZ e,zZ e]
  exact KD h (yM _ (jR e))
 rw [zQ e,zQ e]
theorem Yy (m:Nat→Int) (v:Bool×Int):(xe m v).1=v.1:=by
 unfold xe
 split
 ·next e=>exact e.symm
 rfl
def metP (p:PhiL):List Nat:=p.dst.toNat::p.src.flatMap je
def renP (m:Nat→Int) (p:PhiL):PhiL:={ dst:=m p.dst.toNat,src:=p.src.map (xe m) }
theorem KE (x:BlkL):ml x=x.phis.flatMap metP++x.list.flatMap (fun i=>QY i++vt i.dst)++je (x.fin.onr,x.fin.onn):=rfl
theorem renB_is (m:Nat→Int) (x:BlkL):mn m x={ phis:=x.phis.map (renP m),list:=x.list.map (ky m),fin:={ x.fin with onn:=(xe m (x.fin.onr,x.fin.onn)).2 } }:=rfl
theorem RowPut.two {w w1:World} {e:TypeId} {g o:Nat} {c0 c1:Value} (h:RowPut w w1 e g o 2 [c0,c1]) (a0 a1:Value):RowPut w ((w1.setCell ⟨g,o,none⟩ a0).setCell ⟨g,o+1,none⟩ a1) e g o 2 [a0,a1]:=by
 have h0:=RowPut.set h rfl (j:=0) (by omega) a0
 simp only [yJ,yQ] at h0
 have h1:=RowPut.set h0 rfl (j:=1) (by omega) a1
 simp only [yZ,yQ] at h1
 exact h1
def eight (w:World) (g o:Nat) (a0 a1 a2 a3 a4 a5 a6 a7:Value):World:=(((((((w.setCell ⟨g,o,none⟩ a0).setCell ⟨g,o+1,none⟩ a1).setCell ⟨g,o+2,none⟩ a2).setCell ⟨g,o+3,none⟩ a3).setCell ⟨g,o+4,none⟩ a4).setCell ⟨g,o+5,none⟩ a5).setCell ⟨g,o+6,none⟩ a6).setCell ⟨g,o+7,none⟩ a7
theorem kX (w:World) (g o:Nat) (a0 a1 a2 a3 a4 a5 a6 a7:Value):Kept (fun i=>i=g) w (eight w g o a0 a1 a2 a3 a4 a5 a6 a7):=by
 unfold eight
 have h0:Kept (fun i=>i=g) w w:=Kept.refl _ w
 have h1:=h0.setCell (p:=⟨g,o,none⟩) rfl a0
 have h2:=h1.setCell (p:=⟨g,o+1,none⟩) rfl a1
 have h3:=h2.setCell (p:=⟨g,o+2,none⟩) rfl a2
 have h4:=h3.setCell (p:=⟨g,o+3,none⟩) rfl a3
 have h5:=h4.setCell (p:=⟨g,o+4,none⟩) rfl a4
 have h6:=h5.setCell (p:=⟨g,o+5,none⟩) rfl a5
 have h7:=h6.setCell (p:=⟨g,o+6,none⟩) rfl a6
 exact h7.setCell (p:=⟨g,o+7,none⟩) rfl a7
theorem RowPut.eight {w w1:World} {e:TypeId} {g o:Nat} {cs:List Value} (h:RowPut w w1 e g o 8 cs) (hl:cs.length=8) (a0 a1 a2 a3 a4 a5 a6 a7:Value):RowPut w (Go.Proofs.YtbnnhmcloecijaaGreatDoor.eight w1 g o a0 a1 a2 a3 a4 a5 a6 a7) e g o 8 [a0,a1,a2,a3,a4,a5,a6,a7]:=by
 obtain ⟨c0,c1,c2,c3,c4,c5,c6,c7,rfl⟩:=len_8 hl
 have h0:=RowPut.set h rfl (j:=0) (by omega) a0
 simp only [yJ,yQ] at h0
 have h1:=RowPut.set h0 rfl (j:=1) (by omega) a1
 simp only [yZ,yQ] at h1
 have h2:=RowPut.set h1 rfl (j:=2) (by omega) a2
 simp only [yZ,yQ] at h2
 have h3:=RowPut.set h2 rfl (j:=3) (by omega) a3
 simp only [yZ,yQ] at h3
 have h4:=RowPut.set h3 rfl (j:=4) (by omega) a4
 simp only [yZ,yQ] at h4
 have h5:=RowPut.set h4 rfl (j:=5) (by omega) a5
 simp only [yZ,yQ] at h5
 have h6:=RowPut.set h5 rfl (j:=6) (by omega) a6
 simp only [yZ,yQ] at h6
 have h7:=RowPut.set h6 rfl (j:=7) (by omega) a7
 simp only [yZ,yQ] at h7
 unfold Go.Proofs.YtbnnhmcloecijaaGreatDoor.eight
 exact h7

theorem Yz {W:World} {g n c k m j bb cb:Nat} {zs:List FunL} {S:Blks} {G:Nat→InsL→InsL} {f:FunL} {lq:Nat→Option Addr} {lc:Nat→Nat} (h:SlO 36 4 FunO W (.slice (some ⟨g,0,none⟩) n c) (zs.set k (upI G f ((jy (qE f) m).length+j))) S) (hk:k<zs.length)
  (hm:m<f.blocks.length) (hj:j<f.blocks[m].list.length) (hsh:FunSh g k bb f.blocks.length cb lq (qE f) lc W) :
  ∃lb qa ca,lq m=some ⟨lb,0,none⟩∧S lb∧lb<W.heap.size∧(∀o,W.frozen? ⟨lb,o,none⟩=false)∧(∀i,i<8→W.cell? ⟨lb,j*8+i,none⟩=[.int .i64 f.blocks[m].list[j].op,.int .i64 f.blocks[m].list[j].dst,.bool f.blocks[m].list[j].ar,.int .i64 f.blocks[m].list[j].an,.bool f.blocks[m].list[j].br,.int .i64 f.blocks[m].list[j].bn,.int .i64 f.blocks[m].list[j].fn,.slice qa f.blocks[m].list[j].args.length ca][i]?)∧lb≠g∧lb≠bb∧
   (G ((jy (qE f) m).length+j) f.blocks[m].list[j]=f.blocks[m].list[j]→SlO 36 4 FunO W (.slice (some ⟨g,0,none⟩) n c) (zs.set k (upI G f ((jy (qE f) m).length+j+1))) S)∧
   ∀y:InsL,y.args=[]→I64 y.op∧I64 y.dst∧I64 y.an∧I64 y.bn∧I64 y.fn→G ((jy (qE f) m).length+j) f.blocks[m].list[j]=y→SlO 36 4 FunO (eight W lb (j*8) (.int .i64 y.op) (.int .i64 y.dst) (.bool y.ar) (.int .i64 y.an) (.bool y.br) (.int .i64 y.bn) (.int .i64 y.fn) (.slice none 0 0)) (.slice (some ⟨g,0,none⟩) n c) (zs.set k (upI G f ((jy (qE f) m).length+j+1))) S:=by
 have hkl:k<(zs.set k (upI G f ((jy (qE f) m).length+j))).length:=by rw [List.length_set];exact hk
 obtain ⟨g',c',cs',T',hv',hqD,hux,hcl',hF',hqE,hfR,hmE,huy,⟨cur',hiV⟩,hiW⟩:=h.focus xu (by omega) hkl
 have hg':g=g':=by
  injection hv' with a
  injection a with a
  injection a
 subst hg'
 rw [List.getElem_set_self] at hF'
 have hmu:m<(upI G f ((jy (qE f) m).length+j)).blocks.length:=by rw [ZU];exact hm
 have hju:j<((upI G f ((jy (qE f) m).length+j)).blocks[m]'hmu).list.length:=by rw [Jk hm];exact hj
 obtain ⟨bb',cb',lb,c2',ci,Ti,hcs',hqG,hqH,he5,he6,hI,hqI,hqJ,hmF,hci,huz,hhM,⟨curi,hfS⟩,hiX⟩:=hF'.ins hmu hju
 rw [upI_get hm hj] at hI
 have hbb:bb=bb':=by
  have h1:=hmE 3 (by omega)
  rw [hcs'] at h1
  have h2:=hsh.fn.symm.trans h1
  simp at h2
  exact h2.1
 subst hbb
 have hlq:lq m=some ⟨lb,0,none⟩:=by
  have h2:=(hsh.blk m hm).symm.trans hqG
  simp at h2
  exact h2.1
 obtain ⟨va,rfl,y1,y2,y3,y4,y5,hA⟩:=hI
 obtain ⟨qa,ca,rfl,_⟩:=hA.sl.val
 have hdK:lb<W.heap.size:=(yL.1 hfS).1
 have hlg:lb≠g:=fun e=>hqE (by rw [←e];exact he5)
 refine ⟨lb,qa,ca,hlq,hfR lb he5,hdK,hhM,hci,hlg,he6,fun hG=>?_,fun y hy0 hdc hG=>?_⟩
 ·rw [←upI_same hm hj hG]
  exact h
 obtain ⟨W',hW'⟩:∃W',W'=eight W lb (j*8) (.int .i64 y.op) (.int .i64 y.dst) (.bool y.ar) (.int .i64 y.an) (.bool y.br) (.int .i64 y.bn) (.int .i64 y.fn) (.slice none 0 0):=⟨_,rfl⟩
 rw [←hW']
 have hK8:Kept (fun i=>i=lb) W W':=by rw [hW'];exact kX ..
 have hsz:W'.heap.size=W.heap.size:=by rw [hW'];simp [eight,World.setCell]
 have hne:∀b,b<W.heap.size→b≠lb→W'.heap[b]?=W.heap[b]?:=fun b hb h=>hK8.block b hb h
 have hiY:RowPut W W' 57 lb (j*8) 8 [.int .i64 y.op,.int .i64 y.dst,.bool y.ar,.int .i64 y.an,.bool y.br,.int .i64 y.bn,.int .i64 y.fn,.slice none 0 0]:=by
  rw [hW']
  exact (RowPut.same hfS rfl hci).eight rfl _ _ _ _ _ _ _ _
 have hfi:=h.inb
 have hF2:=hiX _ _ (G ((jy (qE f) m).length+j) f.blocks[m].list[j]) Ti hiY rfl (fun v hv=>by
   simp only [yC,yG,yl] at hv
   rcases hv with rfl|rfl|rfl|rfl|rfl|rfl|rfl|rfl<;>rfl) (by omega) (fun b hb h1 h2=>hne b (hfi b (hfR b hb)) h2) (by
   rw [hG]
   refine ⟨_,rfl,hdc.1,hdc.2.1,hdc.2.2.1,hdc.2.2.2.1,hdc.2.2.2.2,⟨?_,by rw [hy0];unfold reachBytes;simp⟩⟩
   rw [hy0]
   exact SlO.nil _ _ _ _ (fun b hb=>by have:=hA.sl.inb b hb;omega)) (fun b hb=>⟨.inl hb,by have:=hA.sl.inb b hb;omega⟩)
 have hF3:=hiW _ cs' _ (fun b=>T' b∨Ti b) (RowPut.same hiV (hne _ hqD (fun e=>hlg e.symm)) hmE) hcl' (fun v hv=>by
   rw [hcs'] at hv
   simp only [yC,yG,yl] at hv
   rcases hv with rfl|rfl|rfl|rfl<;>rfl) (by omega) (fun b hb h1 h2=>hne b (hfi b hb) (fun e=>h1 (by rw [e];exact he5))) hF2 (fun b hb=>by
   have h1:T' b:=hb.elim id (hmF b)
   exact ⟨.inl h1,by have:=h.inb b (hfR b h1);omega⟩)
 rw [List.set_set,Y6 hm hj] at hF3
 exact hF3.grow (fun b hb=>hb.elim id fun h=>h.elim (hfR b) fun h=>hfR b (hmF b h)) (fun b hb=>by have:=h.inb b hb;omega)
end Go.Proofs.YtbnnhmcloecijaaGreatDoor
namespace Go.Proofs.YtbnnhmcloecijaaGreatDoor
open Go.RowKit Go.Shelf Go.Sort

theorem qI {l n:Nat} {P:Program} {id:Nat} {Q:Exit→Act→World→Prop} {a:Act} {w:World} {lst:List Oper} (hm:P.follows .mixedOrders=true) (hB:Region.lexB .any lst.toArray=true) (hL:¬ LetsOut Q) (hnd:Ki lst.toArray=true)
  (h:wpQuiet P lst.toArray (fun w'=>∃p:Regrown,w'=grow (redrawn w p.d) p.os) (fun a'=>∀w',(∃p:Regrown,w'=grow (redrawn w p.d) p.os)→Q .normal a' w') lst a):(Code.region id lst.toArray true).wpIn (Fence.wide.inRound l) n P Q a w:=by
 simp only [Region.lexB,Bool.and_eq_true] at hB
 refine wpIn_region_any hm (jI hL (Zh hnd) _ _ _ _ (wpAny_of_quiet (C:=fun w'=>∃p:Regrown,w'=grow (redrawn w p.d) p.os) (Q:=fun a'=>∀w',(∃p:Regrown,w'=grow (redrawn w p.d) p.os)→Q .normal a' w') (fun _ w' hw' h=>h w' hw') _ _ _ _ ⟨⟨w.drawn+1,#[]⟩,by rw [grow_empty];rfl⟩ ?_))
 have:=wpAnyQ_lex (C:=fun w'=>∃p:Regrown,w'=grow (redrawn w p.d) p.os) (md:=.any) hB.1 lst 0 (Array.replicate lst.toArray.size false) a (by simp) (by simpa using hB.2) h
 simpa using this
end Go.Proofs.YtbnnhmcloecijaaGreatDoor
namespace Go.Proofs.YtbnnhmcloecijaaGreatDoor
open Go.RowKit

def Z8 {α:Type} (h:α→α) (k:Nat) (xs:List α):List (Bool×α):=xs.mapIdx fun i x=>(decide (i<k),if i<k then h x else x)
theorem vd {α:Type} (h:α→α) (k:Nat) (xs:List α):(Z8 h k xs).length=xs.length:=by simp [Z8]
theorem QM {α:Type} {h:α→α} {k i:Nat} {xs:List α} (hi:i<(Z8 h k xs).length):(Z8 h k xs)[i]=(decide (i<k),if i<k then h (xs[i]'(by rw [←vd h k xs];exact hi)) else xs[i]'(by rw [←vd h k xs];exact hi)):=by simp [Z8]
theorem flagH_put {α:Type} {h:α→α} {k:Nat} {xs:List α} (hk:k<xs.length):(Z8 h k xs).set k (true,h xs[k])=Z8 h (k+1) xs:=by
 refine yV (by simp [Z8]) fun i h1 h2=>?_
 have h3:i<xs.length:=by rw [vd] at h2;exact h2
 rw [y8,QM h2]
 by_cases e:k=i
 ·subst e
  rw [zZ rfl,zZ (by omega)]
  simp
 rw [zQ e,QM (by rw [vd];exact h3)]
 by_cases g:i<k
 ·rw [zZ g,zZ (by omega)]
  simp [g,(show i<k+1 by omega)]
 rw [zQ g,zQ (by omega)]
 simp [g,(show ¬ i<k+1 by omega)]
theorem SlO.flagH0 {α:Type} {e:TypeId} {size:Nat} {RO:ElemO α} {R:List Value→α→Prop} {w:World} {v:Value} {xs:List α} {S:Blks} {h:α→α} (g:SlO e size (DatO R) w v xs S):SlO e size (jE RO R) w v (Z8 h 0 xs) S:=
 g.imp (vd h 0 xs) fun i h1 h2 cs T _ hr=>by
  rw [QM h2]
  exact hr
theorem SlO.flagHN {α:Type} {e:TypeId} {size:Nat} {RO:ElemO α} {R:List Value→α→Prop} {w:World} {v:Value} {xs:List α} {S:Blks} {h:α→α} (g:SlO e size (jE RO R) w v (Z8 h xs.length xs) S):SlO e size RO w v (xs.map h) S:=
 g.imp (by rw [vd,yT]) fun i h1 h2 cs T _ hr=>by
  have h3:i<xs.length:=by rw [yT] at h2;exact h2
  rw [QM h1] at hr
  unfold jE at hr
  rw [zZ (by simpa using h3)] at hr
  rw [xE]
  rw [zZ h3] at hr
  exact hr
theorem glo_one {w:World} (cs:List Value) (x:GloL) (h:GloR w cs x):∀u∈cs,u.oneCell'=true:=by
 obtain ⟨v,rfl,_,_,h⟩:=h
 obtain ⟨p,c,rfl,_⟩:=h.outC
 intro u hu
 simp only [yC,yG,yl] at hu
 rcases hu with rfl|rfl|rfl<;>rfl
theorem fun_one {w:World} (cs:List Value) (x:FunL) (h:FunR w cs x):∀u∈cs,u.oneCell'=true:=by
 obtain ⟨v,rfl,_,_,_,h⟩:=h
 obtain ⟨p,c,rfl,_⟩:=h.outC
 intro u hu
 simp only [yC,yG,yl] at hu
 rcases hu with rfl|rfl|rfl|rfl<;>rfl
def quad (w:World) (g o:Nat) (a0 a1 a2 a3:Value):World:=(((w.setCell ⟨g,o,none⟩ a0).setCell ⟨g,o+1,none⟩ a1).setCell ⟨g,o+2,none⟩ a2).setCell ⟨g,o+3,none⟩ a3
theorem quad_kept (w:World) (g o:Nat) (a0 a1 a2 a3:Value):Kept (fun i=>i=g) w (quad w g o a0 a1 a2 a3):=by
 unfold quad
 have h0:Kept (fun i=>i=g) w w:=Kept.refl _ w
 have h1:=h0.setCell (p:=⟨g,o,none⟩) rfl a0
 have h2:=h1.setCell (p:=⟨g,o+1,none⟩) rfl a1
 have h3:=h2.setCell (p:=⟨g,o+2,none⟩) rfl a2
 exact h3.setCell (p:=⟨g,o+3,none⟩) rfl a3
theorem RowPut.quad {w w1:World} {e:TypeId} {g o:Nat} {cs:List Value} (h:RowPut w w1 e g o 4 cs) (hl:cs.length=4) (a0 a1 a2 a3:Value):RowPut w (Go.Proofs.YtbnnhmcloecijaaGreatDoor.quad w1 g o a0 a1 a2 a3) e g o 4 [a0,a1,a2,a3]:=by
 obtain ⟨c0,c1,c2,c3,rfl⟩:=YQ hl
 have h0:=RowPut.set h rfl (j:=0) (by omega) a0
 simp only [yJ,yQ] at h0
 have h1:=RowPut.set h0 rfl (j:=1) (by omega) a1
 simp only [yZ,yQ] at h1
 have h2:=RowPut.set h1 rfl (j:=2) (by omega) a2
 simp only [yZ,yQ] at h2
 have h3:=RowPut.set h2 rfl (j:=3) (by omega) a3
 simp only [yZ,yQ] at h3
 unfold Go.Proofs.YtbnnhmcloecijaaGreatDoor.quad
 exact h3

theorem j7 (nm:ByteArray) (params regs:Int) (bb bo bc n:Nat) (TS:List (List Int)) (w:World) (hn:n≤40)
  (hB:∀i,i<n→V4 w bb bo i (TS.getD i []))
  (hE:∀i,i<n→(TS.getD i []).length≤2∧∀t∈TS.getD i [],1≤t∧t<n) :
  Calls Tryz.prog 99 #[.agg #[.string nm,.int .i64 params,.int .i64 regs,.slice (some ⟨bb,bo,none⟩) n bc]] w fun e w'=>
   (∃f:Nat→Value,e = .returned (.slice (some ⟨w.heap.size+1,0,none⟩) n n)∧Rows2 w' (w.heap.size+1+1) (w.heap.size+1) n 41 3 (qQ TS n) f)∧Below w.heap.size w w':=by
 obtain ⟨i1,k1,k2,k3,k4⟩:=info_parts K5
 obtain ⟨i2,l1,l2,l3,l4⟩:=info_parts y6
 have hmk:=run_make_row 102 41 i2 (.slice none 0 0) V3 l1 l2 l3 rfl .i64 .i64 n (by rw [l4];omega) (by omega)
 have HB:Hid (∀i,i<n→V4 w bb bo i (TS.getD i [])):=hB
 have HE:Hid (∀i,i<n→(TS.getD i []).length≤2∧∀t∈TS.getD i [],1≤t∧t<n):=hE
 clear hB hE
 go_enter Tryz.func99,Tryz.ntmps99
 go_wp2
 go_loopw [15] (fun i wr=>∃k:Nat,k≤n∧i = .int .i64 k∧(∃f,Rows2 wr (w.heap.size+1+1) (w.heap.size+1) n 41 3 (qQ TS k) f)∧Below w.heap.size w wr) (fun i _=>n - (intOf i).toNat)
 case atStart=>exact ⟨0,by omega,rfl,⟨_,by have:=Rows2.made (w.alloc (.cells #[.string nm,.int .i64 params,.int .i64 regs,.slice (some ⟨bb,bo,none⟩) n bc] 36)) n 41 3;simpa [qQ] using this⟩,by exact bZ⟩
 case round=>
  obtain ⟨k,hk,rfl,⟨f,hR⟩,hb⟩:=hrel
  have HBw:Hid (Below w.heap.size w wr):=hb
  have HR:Hid (Rows2 wr (w.heap.size+1+1) (w.heap.size+1) n 41 3 (qQ TS k) f):=hR
  have hsz:w.heap.size+1<wr.heap.size:=hR.tab.lt
  clear hb hR
  by_cases hlt:k<n
  rotate_left
  ·go_wp2
   go_ret
   obtain rfl:k=n:=by omega
   exact ⟨⟨f,rfl,HR.out⟩,HBw.out⟩
  obtain ⟨p1,m1,c1,p2,m2,c2,kk,r,m,p,c,e0,e1,e2,e3,e4,e5,hto⟩:=HB.out k hlt
  have hbb:=qd e0
  rw [←HBw.out.cell (p:=⟨bb,bo+k*6,none⟩) hbb] at e0
  rw [←HBw.out.cell (p:=⟨bb,bo+k*6+1,none⟩) hbb] at e1
  rw [←HBw.out.cell (p:=⟨bb,bo+k*6+2,none⟩) hbb] at e2
  rw [←HBw.out.cell (p:=⟨bb,bo+k*6+3,none⟩) hbb] at e3
  rw [←HBw.out.cell (p:=⟨bb,bo+k*6+4,none⟩) hbb] at e4
  rw [←HBw.out.cell (p:=⟨bb,bo+k*6+5,none⟩) hbb] at e5
  obtain ⟨hl2,hts⟩:=HE.out k hlt
  have HTO:Hid (SliceAt w 1 kh p (TS.getD k [])):=hto
  have HTS:Hid (∀t∈TS.getD k [],1≤t∧t<n):=hts
  clear hto hts
  generalize hto:TS.getD k []=tq at *
  have HK:Hid (TS.getD k []=tq):=hto
  clear hto
  go_wp2
  go_loopw [24] (fun i wq=>∃j:Nat,j≤tq.length∧i = .int .i64 j∧(∃f,Rows2 wq (w.heap.size+1+1) (w.heap.size+1) n 41 3 (qQ TS k++(tq.map fun t=>(t.toNat,k)).take j) f)∧Below w.heap.size w wq) (fun i _=>tq.length - (intOf i).toNat)
  case atStart=>exact ⟨0,by omega,rfl,⟨f,by simpa using HR.out.alloc _⟩,by have:=HBw.out;exact this.alloc (by omega) _⟩
  case round=>
   clear HR HBw e0 e1 e2 e3 e4 e5
   obtain ⟨j,hj,rfl,⟨f,hR⟩,hb⟩:=hrel
   have HBw:Hid (Below w.heap.size w wr):=hb
   have HR:Hid (Rows2 wr (w.heap.size+1+1) (w.heap.size+1) n 41 3 (qQ TS k++(tq.map fun t=>(t.toNat,k)).take j) f):=hR
   have hsz:w.heap.size+1<wr.heap.size:=hR.tab.lt
   clear hb hR
   by_cases hjl:j<tq.length
   rotate_left
   ·go_wp2
    obtain rfl:j=tq.length:=by omega
    refine ⟨⟨k+1,by omega,by go_num,⟨f,?_⟩,HBw.out⟩,by simp [intOf];omega⟩
    have HR2:=HR.out
    rw [List.take_of_length_le (by simp)] at HR2
    unfold qQ
    rw [HK.out]
    exact HR2
   obtain ⟨t,ht⟩:∃t:Nat,tq[j]=(t:Int):=⟨tq[j].toNat,by have:=(HTS.out _ (zP hjl)).1;omega⟩
   have htn:t<n:=by have:=(HTS.out _ (zP hjl)).2;omega
   obtain ⟨tb,tof,hp,htc⟩:∃tb tof,p=some ⟨tb,tof,none⟩∧wr.cell? ⟨tb,tof+j,none⟩=some (.int .i64 t):=by
    rcases HTO.out with h0|⟨tb,tof,hp,hc⟩
    ·rw [h0] at hjl;simp at hjl
    refine ⟨tb,tof,hp,?_⟩
    obtain ⟨cs,_,hc,⟨rfl,_⟩⟩:=hc j hjl
    have h2:=hc 0 (by omega)
    simp only [Nat.mul_one,yJ,zB] at h2
    rw [HBw.out.cell (p:=⟨tb,tof+j,none⟩) (qd h2),h2,ht]
   subst hp
   have hrow:=HR.out.row t htn
   obtain ⟨q,qc,hq⟩:∃q qc,f t = .slice q (qU (qQ TS k++(tq.map fun t=>(t.toNat,k)).take j) t).length qc:=by
    rcases hrow.2 with ⟨h1,h2⟩|⟨g,cap,cur,h1,_⟩
    ·refine ⟨none,0,?_⟩
     rw [h1,h2]
    exact ⟨_,_,h1⟩
   have HQ:Hid (f t = .slice q (qU (qQ TS k++(tq.map fun t=>(t.toNat,k)).take j) t).length qc):=hq
   have hfc:=HR.out.tab.cell htn
   have hff:=HR.out.tab.frozen t
   rw [hq] at hfc hrow
   clear hq
   have HT:Hid (tq[j]?=some (t:Int)):=by show _=_;rw [zj hjl,ht]
   clear ht
   have hm2:(qU (qQ TS k++(tq.map fun t=>(t.toNat,k)).take j) t).length≤2*k+2:=by
    have h1:=Zx (qQ TS k++(tq.map fun t=>(t.toNat,k)).take j) t
    have h2:=Qt TS k n hk (fun i hi=>(HE.out i hi).1)
    rw [yN,yr,yT] at h1
    omega
   generalize hm:(qU (qQ TS k++(tq.map fun t=>(t.toNat,k)).take j) t).length=m at *
   have HM:Hid ((qU (qQ TS k++(tq.map fun t=>(t.toNat,k)).take j) t).length=m):=hm
   clear hm
   go_wp2_with (at_builtin;refine wpList_append_own_at _ rfl _ _ 41 rfl (w.heap.size+1+1) 3 i1 (.int .i64 0) 1 8 ZK k1 k2 k3 k4 rfl (by decide) _ _ _ rfl (hrow.alloc _) ⟨wr.heap.size,0,none⟩ 1 1 [.int .i64 k] rfl rfl (cell_one_new _ _ _) (by simp [Value.oneCell']) ?_ ?_ ?_ ?_)
   ·unfold maxLen;omega
   ·omega
   ·simp;omega
   intro v' w1 hown' hgrow _ hat
   have HP:=(HR.out.alloc (.cells #[.int .i64 k] 3)).put (i:=k) (by simp;omega) htn (v':=v') (w':=w1) (by rw [HM.out];exact hown') (by rw [HQ.out];exact hgrow) (by rw [HQ.out];simpa using hat)
   obtain ⟨q2,c2',hv2⟩:∃q2 c2,v' = .slice q2 (m+1) c2:=by
    rcases hown'.2 with ⟨h1,h2⟩|⟨g,cap,cur,h1,_⟩
    ·omega
    exact ⟨_,_,h1⟩
   subst hv2
   obtain ⟨hc1,hf1⟩:=(HR.out.alloc (.cells #[.int .i64 k] 3)).atTab htn (w':=w1) (by rw [HQ.out];exact hgrow)
   rw [HQ.out] at hc1
   have hbw:=(HBw.out.alloc (by omega) (.cells #[.int .i64 k] 3)).grown hgrow (by simp;omega) (fun kk e=>by have:=(hrow.lt kk e).1;omega)
   have HB2:=q7 hbw
   have HP2:=q7 HP
   clear HP hown' hgrow hat hfc hff htc hrow hbw
   go_wp2
   refine ⟨⟨j+1,by omega,by go_num,⟨fun i=>if i=t then Value.slice q2 (m+1) c2' else f i,?_⟩,?_⟩,by simp [intOf];omega⟩
   ·rw [List.take_add_one,List.getElem?_map,HT.out]
    have HP3:=HP2.out
    rw [yF] at HP3
    exact HP3
   exact HB2.out.setCell (by show _≤w.heap.size+1;omega) _
end Go.Proofs.YtbnnhmcloecijaaGreatDoor
