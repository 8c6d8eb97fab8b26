/-
  The contract of turneryref5.TailDone.
-/
import Derived.Test.YtecdphhdmjmmnaaGreatDoorJRcC
set_option maxRecDepth 100000
set_option maxHeartbeats 16000000
namespace Go.Proofs.YtecdphhdmjmmnaaGreatDoor
open Go.RowKit Go.Shelf

theorem BlkO.readsT {w:World} {xs:List BlkL} {S:Blks} {q:Option Addr} {n c:Nat} (h:SlO 48 6 BlkO w (.slice q n c) xs S):SliceAt w 6 (BlkR w) q xs:=by
 obtain⟨p',c',e,_,_,h2⟩:=h.read (R':=BlkR w) qE (by omega) fun _ _ _ h=>h.read
 cases e
 exact h2
def refT (k:Nat) (f:FunL):FunL:=if qO f=true∧VX k f=true then JP k f else f
def tsK (k:Nat) (ts:List FunL):List FunL:=ts.mapIdx fun i f=>if i<k then refT i f else f
theorem vt (k:Nat) (ts:List FunL):(tsK k ts).length=ts.length:=by simp[tsK]
theorem tsK_zero (ts:List FunL):tsK 0 ts=ts:=by
 refine List.ext_getElem (by simp[tsK]) fun i h1 h2=>?_
 simp[tsK]
theorem tsK_full (ts:List FunL):tsK ts.length ts=ts.mapIdx refT:=by
 refine List.ext_getElem (by simp[tsK]) fun i h1 h2=>?_
 have:i<ts.length:=by simpa[tsK]using h1
 simp[tsK,this]
theorem tsK_at {k:Nat} {ts:List FunL} (h:k<ts.length):(tsK k ts)[k]'(by rw[vt];exact h)=ts[k]:=by simp[tsK]
theorem VE {k:Nat} {ts:List FunL} (h:k<ts.length):(tsK k ts).set k (refT k ts[k])=tsK (k+1) ts:=by
 refine List.ext_getElem (by simp[tsK]) fun i h1 h2=>?_
 have hi:i<ts.length:=by simpa[tsK]using h2
 by_cases e:k=i
 ·subst e
  simp[tsK]
 rw[List.getElem_set_ne e]
 simp only[tsK,List.getElem_mapIdx]
 by_cases h3:i<k
 ·rw[if_pos h3,if_pos (by omega)]
 rw[if_neg h3,if_neg (by omega)]
theorem tsK_same {k:Nat} {ts:List FunL} (h:k<ts.length) (e:refT k ts[k]=ts[k]):tsK (k+1) ts=tsK k ts:=by
 rw[←VE h,e]
 have:=List.set_getElem_self (show k<(tsK k ts).length by rw[vt];exact h)
 rw[tsK_at h]at this
 exact this
theorem Kn {α:Type} {j:Nat} {u:α→α} {xs:List α} (h:j<xs.length) (e:u xs[j]=xs[j]):zd (j+1) u xs=zd j u xs:=by
 rw[←qU h,e]
 have:=List.set_getElem_self (show j<(zd j u xs).length by rw[qX];exact h)
 rw[xm (by rw[qX];exact h) (Nat.le_refl _)]at this
 exact this
def SameAt (wr:World) (L:List Nat) (w':World):Prop:=wr.heap.size≤w'.heap.size∧∀i∈L,w'.heap[i]?=wr.heap[i]?
theorem SameAt.cell {wr w':World} {L:List Nat} (h:SameAt wr L w') {b o:Nat} {v:Value} (hp:b∈L) (hc:wr.cell? ⟨b,o,none⟩=some v):w'.cell? ⟨b,o,none⟩=some v∧b<w'.heap.size:=
 ⟨(World.cell?_of_block (a:=⟨b,o,none⟩) (h.2 _ hp)).trans hc,Nat.lt_of_lt_of_le (q8 hc) h.1⟩
theorem SameAt.kept {wr a b:World} {L:List Nat} {U:Blks} (h:SameAt wr L a) (hk:Kept U a b) (hn:∀i∈L,¬ U i∧i<wr.heap.size):SameAt wr L b:=
 ⟨Nat.le_trans h.1 hk.size,fun i hi=>(hk.block i (Nat.lt_of_lt_of_le (hn i hi).2 h.1) (hn i hi).1).trans (h.2 i hi)⟩
theorem SameAt.same (wr:World) (L:List Nat):SameAt wr L wr.drew:=⟨Nat.le_refl _,fun _ _=>rfl⟩
theorem InsO.args {w:World} {cs:List Value} {x:InsL} {T:Blks} (h:InsO w cs x T):∃qx cx,cs=[.int .i64 x.op,.int .i64 x.dst,.bool x.ar,.int .i64 x.an,.bool x.br,.int .i64 x.bn,.int .i64 x.fn,.slice qx x.args.length cx]∧SlO 43 2 Xu w (.slice qx x.args.length cx) x.args T:=by
 obtain⟨v,h0,_,_,_,_,_,h6⟩:=h
 obtain⟨q,c,rfl,_,_⟩:=h6.sl.val
 exact⟨q,c,h0,h6.sl⟩
theorem InsO.readsT {w:World} {xs:List InsL} {S:Blks} {q:Option Addr} {n c:Nat} (h:SlO 53 8 InsO w (.slice q n c) xs S):SliceAt w 8 (InsR w) q xs:=by
 obtain⟨p',c',e,_,_,h2⟩:=h.read (R':=InsR w) qH (by omega) fun _ _ _ h=>h.read
 cases e
 exact h2

theorem tdone_any {nf:Nat} {P:Nat→Int} (gl:List GloL) (ts:List FunL) (q1 q2:Option Addr) (d1 d2:Nat) (w:World) (hC:∀k (h:k<ts.length),FunC nf P ts[k]∧P k=ts[k].params) (hpos:0<ts.length) (hG:SlF w 3 48 (GloR w) (.slice q1 gl.length d1) gl) (hF:SlF w 4 56 (FunR w) (.slice q2 ts.length d2) ts) :
  Calls Tryz.prog 13 #[.agg #[.slice q1 gl.length d1,.slice q2 ts.length d2]] w fun e w'=>(∃(p1:Option Addr) (c1:Nat) (p2:Option Addr) (c2:Nat),e = .returned (.agg #[.slice p1 gl.length c1,.slice p2 ts.length c2])∧SlF w' 3 48 (GloR w') (.slice p1 gl.length c1) gl∧SlF w' 4 56 (FunR w') (.slice p2 ts.length c2) (ts.mapIdx refT))∧Below w.heap.size w w':=by
 obtain⟨iI,l1,l2,l3,l4⟩:=info_parts vC
 obtain⟨iB,m1,m2,m3,m4⟩:=info_parts jC
 have hfl:ts.length*56≤140737488351232:=hF.bdC
 have HC:=q7 hC
 have HGs:=q7 hG
 have HFs:=q7 hF
 clear hC hG hF
 go_enter Tryz.func13,Tryz.ntmps13
 go_wp2_with fail
 obtain⟨W0,hW0⟩:∃W0,W0=(w.alloc (.cells #[.slice q1 gl.length d1,.slice q2 ts.length d2] 25)).alloc (.cells #[.slice none 0 0,.slice none 0 0] 25):=⟨_,rfl⟩
 rw[←hW0]
 have hz0:W0.heap.size=w.heap.size+1+1:=by rw[hW0];simp
 have hb0:Below w.heap.size w W0:=by rw[hW0];exact bZ
 have HR0:Hid (W0.heap[w.heap.size+1]?=some (.cells #[.slice none 0 0,.slice none 0 0] 25 (0,0))):=q7 (by rw[hW0];exact qh (by simp))
 have HU0:Hid (W0.heap[w.heap.size]?=some (.cells #[.slice q1 gl.length d1,.slice q2 ts.length d2] 25 (0,0))):=q7 (by rw[hW0];exact qj (qh rfl))
 have hcl:=Km { globals:=gl,funcs:=ts } q1 q2 d1 d2 W0 (HGs.out.mono hb0 (by omega) fun _ _ h=>h.below hb0) (HFs.out.mono hb0 (by omega) fun _ _ h=>h.below hb0)
 have HB0:=q7 hb0
 clear hW0 hb0
 refine hcl.mono ?_
 rintro e W1 ⟨⟨p1,c1,p2,c2,rfl,S,hS,hL⟩,hb1⟩
 obtain⟨v1,v2,S1,S2,hv,hS1,hS2,hAp,hg1,hg2⟩:=hS
 simp only[List.cons.injEq,and_true]at hv
 obtain⟨rfl,rfl⟩:=hv
 have hz1:=hb1.size
 have HB1:=q7 (HB0.out.trans (hb1.mono (by omega)))
 have HR1:=q7 ((hb1.block _ (by omega)).trans HR0.out)
 have HU1:=q7 ((hb1.block _ (by omega)).trans HU0.out)
 obtain⟨g,cX,csF,TF,hvF,hgz,hgS,_⟩:=hS2.sl.focus zj (by omega) hpos
 simp only[Value.slice.injEq]at hvF
 obtain⟨rfl,_,rfl⟩:=hvF
 obtain⟨c,hcd⟩:∃c,c=c2:=⟨_,rfl⟩
 subst hcd
 have hLo:∀k,S k→W0.heap.size≤k:=hL
 have HS1:=q7 hS1
 have HS2:=q7 hS2
 have HAp:=q7 hAp
 have HLo:=q7 (And.intro (fun k (h:S1 k)=>hLo k (hg1 k h)) (fun k (h:S2 k)=>hLo k (hg2 k h)))
 clear hcl hS1 hS2 hAp hg1 hg2 hL hLo hb1 hgS
 go_wp2_with fail
 obtain⟨O,hO⟩:∃O,O=W1.heap.size:=⟨_,rfl⟩
 obtain⟨W2,hW2⟩:∃W2,W2=W1.alloc (.cells #[.slice p1 gl.length c1,.slice (some ⟨g,0,none⟩) ts.length c] 25):=⟨_,rfl⟩
 rw[←hW2,←hO]
 have hz2:W2.heap.size=O+1:=by rw[hW2,hO];simp
 have hb2:Below W1.heap.size W1 W2:=by rw[hW2];exact bZ
 have hoo:W2.heap[O]?=some (.cells #[.slice p1 gl.length c1,.slice (some ⟨g,0,none⟩) ts.length c] 25 (0,0)):=by rw[hW2,hO];exact qh rfl
 have HOC:Hid (OutC (w.heap.size+1+1) O g c p1 c1 gl ts S1 S2 W2):=q7 ⟨hoo,HS1.out.loc zC (fun _ h=>h) (fun i hi=>hb2.block i (HS1.out.sl.inb i hi)) hb2.size,HS2.out.sl.below zj hb2,HAp.out,fun k hk=>⟨by have:=HLo.out.1 k hk;omega,fun e=>by have:=HS1.out.sl.inb k hk;omega⟩,fun k hk=>⟨by have:=HLo.out.2 k hk;omega,fun e=>by have:=HS2.out.sl.inb k hk;omega⟩⟩
 have HR2:=q7 ((hb2.block _ (by omega)).trans HR1.out)
 have HU2:=q7 ((hb2.block _ (by omega)).trans HU1.out)
 have hrS:Hid (Below w.heap.size w W2):=q7 (HB1.out.trans (hb2.mono (by omega)))
 have hOw:w.heap.size+1+1≤O:=by omega
 clear hW2 hO hb2 hoo HS1 HS2 HAp HLo HB1 HR1 HR0 HB0 HU0 HU1
 go_loopg [4] ts.length (fun q s wr=>∃(k:Nat) (S2:Blks),k≤ts.length∧q=ts.length - k∧s = .int .i64 k∧OutC (w.heap.size+1+1) O g c p1 c1 gl (tsK k ts) S1 S2 wr∧Below (w.heap.size+1+1) W2 wr)
 case atStart=>exact⟨0,S2,by omega,rfl,rfl,by rw[tsK_zero];exact HOC.out,Below.refl _ _⟩
 case round=>
  obtain⟨k,S2,hk,rfl,rfl,hOC,hb⟩:=hrel
  obtain⟨wo,hwo⟩:∃wo,wo=wr:=⟨_,rfl⟩
  subst hwo
  have hzo:=hb.size
  have hu:=(hb.block _ (by omega)).trans HU2.out
  have uc:wo.cell? ⟨w.heap.size,1,none⟩=some (.slice q2 ts.length d2):=(blk hu).1 1
  have uz:=q9 hu
  have eO:=hOC.cO.2
  rw[vt]at eO
  have zO:=q8 eO
  have hcV:=q7 hOC
  have HBo:=q7 hb
  clear hu hOC hb
  by_cases hlt:k<ts.length
  rotate_left
  ·obtain rfl:k=ts.length:=by omega
   have hr1:=(HBo.out.block (w.heap.size+1) (by omega)).trans HR2.out
   have hr2:=q9 hr1
   have hr3:=(blk hr1).2 0
   have hr4:=(blk hr1).2 1
   have hr5:wo.cell? ⟨w.heap.size+1,0,none⟩=some (.slice none 0 0):=(blk hr1).1 0
   have hr6:wo.cell? ⟨w.heap.size+1,1,none⟩=some (.slice none 0 0):=(blk hr1).1 1
   have eO0:=hcV.out.cO.1
   go_wp2_with fail
   obtain⟨WF,hWF⟩:∃WF,WF=(wo.setCell ⟨w.heap.size+1,0,none⟩ (.slice p1 gl.length c1)).setCell ⟨w.heap.size+1,1,none⟩ (.slice (some ⟨g,0,none⟩) ts.length c):=⟨_,rfl⟩
   rw[←hWF]
   have hF1:WF.heap[w.heap.size+1]?=some (.cells #[.slice p1 gl.length c1,.slice (some ⟨g,0,none⟩) ts.length c] 25 (0,0)):=by
    rw[hWF,qg (qg hr1 0 _) 1 _]
    rfl
   have hKf:Kept (fun i=>i=w.heap.size+1) wo WF:=by
    rw[hWF]
    exact((Kept.refl (fun i=>i=w.heap.size+1) wo).setCell (p:=⟨w.heap.size+1,0,none⟩) rfl _).setCell (p:=⟨w.heap.size+1,1,none⟩) rfl _
   have hOf:=hcV.out.oth hKf (fun b h e=>by have:=(hcV.out.l1 b h).1;(have e:b=w.heap.size+1:=e);omega) (fun b h e=>by have:=(hcV.out.l2 b h).1;(have e:b=w.heap.size+1:=e);omega) (fun e=>by(have e:O=w.heap.size+1:=e);omega)
   have hFb:Below w.heap.size w WF:=(hrS.out.trans (HBo.out.mono (by omega))).trans (hKf.below (by have:=HBo.out.size;omega) fun b e=>by(have e:b=w.heap.size+1:=e);omega)
   have hGr:SlF WF 3 48 (GloR WF) (.slice p1 gl.length c1) gl:=hOf.glo.read zC (by omega) fun _ _ _ h=>h.read
   have hFr:SlF WF 4 56 (FunR WF) (.slice (some ⟨g,0,none⟩) (tsK ts.length ts).length c) (tsK ts.length ts):=SlQ.read zj (by omega) ⟨hOf.fn,by rw[vt];unfold reachBytes;omega⟩ fun _ _ _ h=>h.read
   rw[vt,tsK_full]at hFr
   have k0:=(blk hF1).1 0
   have k1':=(blk hF1).1 1
   clear hWF
   refine bodyPost_ret (v:=.agg #[.slice p1 gl.length c1,.slice (some ⟨g,0,none⟩) ts.length c]) ?_ rfl ⟨⟨p1,c1,some ⟨g,0,none⟩,c,rfl,hGr,hFr⟩,hFb⟩
   simp[results,Tryz.results13,go_sem,k0,k1']
  obtain⟨hfc,hP⟩:=HC.out k hlt
  obtain⟨g',c',cs',TB,hv',hjR,hhs,hcl',hF',hjS,hjT,haX,hjU,⟨cur,hau⟩,hput⟩:=hcV.out.fn.focus zj (by omega) (i:=k) (by rw[vt];exact hlt)
  obtain rfl:g=g':=by
   injection hv' with a
   injection a with a
   injection a
  rw[tsK_at hlt]at hF'
  obtain⟨f,hf⟩:∃f,f=ts[k]:=⟨_,rfl⟩
  have hsu:=VE hlt
  have hsm:=tsK_same hlt
  rw[←hf]at hF' hfc hP hsu hsm
  obtain⟨vq,hcs,hnm,i1,i2,hB⟩:=hF'
  subst hcs
  have hn1:=hfc.n1
  have haA:=hfc.n40
  have haJ:=hfc.par
  have hbh:=hfc.reg
  obtain⟨B,cb,_,_,hvq,hBz,hBT,_⟩:=hB.sl.focus qE (by omega) hn1
  subst hvq
  have hRf:=RowPut.same hau rfl haX
  have e0:wo.cell? ⟨g,k*4,none⟩=some (.string f.name):=hRf.at1 (j:=0) (by omega)
  have e1:wo.cell? ⟨g,k*4+1,none⟩=some (.int .i64 f.params):=hRf.at1 (j:=1) (by omega)
  have e2:wo.cell? ⟨g,k*4+2,none⟩=some (.int .i64 f.regs):=hRf.at1 (j:=2) (by omega)
  have e3:wo.cell? ⟨g,k*4+3,none⟩=some (.slice (some ⟨B,0,none⟩) f.blocks.length cb):=hRf.at1 (j:=3) (by omega)
  have k0:(0:Int)≤(k:Int):=by omega
  have k1:(k:Int)<ts.length:=by omega
  have hRd:=BlkO.readsT hB.sl
  have hca:=plf_any f hfc (some ⟨B,0,none⟩) cb wo hRd
  have hcb:=fun W (h:Below wo.heap.size wo W)=>troom_any f k hfc (some ⟨B,0,none⟩) cb W (zF hRd h)
  obtain⟨pl,hpl⟩:∃b,b=qO f:=⟨_,rfl⟩
  obtain⟨mr,hmr⟩:∃b,b=VX k f:=⟨_,rfl⟩
  rw[←hpl]at hca
  rw[←hmr]at hcb
  have HCa:=q7 hca
  have HCb:=q7 hcb
  have HPl:=q7 hpl
  have HMr:=q7 hmr
  have HFc:=q7 hfc
  have HFe:=q7 hf
  have HPk:=q7 hP
  have HSu:=q7 hsu
  have HSm:=q7 hsm
  have HB:=q7 hB
  have HRf:=q7 hRf
  have haG:=q7 hput
  have HTS:=q7 hjT
  have HTg:=q7 hjS
  have HBT:=q7 hBT
  have HI:=q7 (And.intro hnm (And.intro i1 i2))
  have HgS:=q7 hhs
  clear hv' hcl' haX hjU hau hput hfc hf hP hsu hsm hB hRf hRd hca hcb hpl hmr hjT hjS hnm i1 i2 hhs hBT
  have hno:∀W,Below wo.heap.size wo W→¬ (pl=true∧mr=true)→∃S2',OutC (w.heap.size+1+1) O g c p1 c1 gl (tsK (k+1) ts) S1 S2' W∧Below (w.heap.size+1+1) W2 W:=fun W h hn=>by
   have e:refT k f=f:=by
    unfold refT
    rw[←HPl.out,←HMr.out,if_neg hn]
   rw[HSm.out e]
   exact⟨S2,hcV.out.below (by omega) h,HBo.out.trans (h.mono (by omega))⟩
  have HNo:=q7 hno
  clear hno
  have gz:=q8 e0
  go_wp2_with fail
  refine HCa.out.mono ?_
  rintro e wq ⟨rfl,hbq⟩
  have HBq:=q7 hbq
  cases pl
  ·clear hbq
   go_wp2_with fail
   go_roundg (ts.length - (k+1))
   case measure=>omega
   case rel=>
    obtain⟨S2',h1,h2⟩:=HNo.out _ HBq.out (fun h=>by cases h.1)
    exact⟨k+1,S2',by omega,rfl,by go_num,h1,h2⟩
  have g0:=(hbq.cell (p:=⟨g,k*4,none⟩) gz).trans e0
  have g1:=(hbq.cell (p:=⟨g,k*4+1,none⟩) gz).trans e1
  have g2:=(hbq.cell (p:=⟨g,k*4+2,none⟩) gz).trans e2
  have g3:=(hbq.cell (p:=⟨g,k*4+3,none⟩) gz).trans e3
  have gz':=q8 g0
  have hrV:=q7 (HCb.out wq hbq)
  clear hbq eO zO uc uz
  go_wp2_with fail
  refine hrV.out.mono ?_
  rintro e wp ⟨rfl,hbp⟩
  have HBp:=q7 (HBq.out.trans (hbp.mono HBq.out.size))
  clear hbp g0 g1 g2 g3 gz'
  cases mr
  ·go_wp2_with fail
   go_roundg (ts.length - (k+1))
   case measure=>omega
   case rel=>
    obtain⟨S2',h1,h2⟩:=HNo.out _ HBp.out (fun h=>by cases h.2)
    exact⟨k+1,S2',by omega,rfl,by go_num,h1,h2⟩
  have hbp:=HBp.out
  have g3:=(hbp.cell (p:=⟨g,k*4+3,none⟩) gz).trans e3
  have gz':=q8 g3
  have hoA:=HB.out.sl.below qE hbp
  have hrW:=q7 hoA
  have hgp:wp.heap[g]?=wo.heap[g]?:=hbp.block g gz
  have HGp:=q7 hgp
  have hzp:=hbp.size
  have HE:=q7 (And.intro e0 (And.intro e1 (And.intro e2 e3)))
  clear hbp hoA hgp HNo e0 e1 e2 e3
  go_wp2_with fail
  go_loopg [7] f.blocks.length (fun q s wr=>∃(j:Nat) (S':Blks),j≤f.blocks.length∧q=f.blocks.length - j∧s = .int .i64 j∧SlO 48 6 BlkO wr (.slice (some ⟨B,0,none⟩) f.blocks.length cb) (zd j (Q0 k f.regs f.blocks.length) f.blocks) S'∧(∀b,S' b→TB b∨wo.heap.size≤b)∧Kept TB wo wr)
  case atStart=>exact⟨0,TB,by omega,rfl,rfl,by rw[zD];exact hrW.out,fun b h=>.inl h,Kept.of_below HBp.out⟩
  case round=>
   obtain⟨j,S',hj,rfl,rfl,hS',heI,hK⟩:=hrel
   obtain⟨wq,hwq⟩:∃wq,wq=wr:=⟨_,rfl⟩
   subst hwq
   have hgq:wq.heap[g]?=wo.heap[g]?:=hK.block g gz HTg.out
   have f1:=(World.cell?_of_block (a:=⟨g,k*4+1,none⟩) hgq).trans HE.out.2.1
   have f2:=(World.cell?_of_block (a:=⟨g,k*4+2,none⟩) hgq).trans HE.out.2.2.1
   have f3:=(World.cell?_of_block (a:=⟨g,k*4+3,none⟩) hgq).trans HE.out.2.2.2
   have fz:=q8 f3
   have hzq:=hK.size
   have HGq:=q7 hgq
   have HS':=q7 hS'
   have haf:=q7 heI
   have HK:=q7 hK
   clear hgq hS' heI hK
   by_cases hjl:j<f.blocks.length
   rotate_left
   ·obtain rfl:j=f.blocks.length:=by omega
    obtain⟨rs,hrs⟩:∃rs,rs=f.blocks.map (Q0 k f.regs f.blocks.length):=⟨_,rfl⟩
    have hrl:rs.length=f.blocks.length:=by rw[hrs,List.length_map]
    have hfu:=HS'.out
    rw[zr,←hrs]at hfu
    have hw2:IntKind.i64.wrap (f.regs+f.params)=f.regs+f.params:=by rw[IntKind.wrap_i64];omega
    have hRq:=HRf.out.of_block HGq.out
    have y2:wq.frozen? ⟨g,k*4+2,none⟩=false:=hRq.free1 _
    have HFu:=q7 hfu
    have HRq:=q7 hRq
    have HRs:=q7 (And.intro hrs hrl)
    clear hfu hRq hrs hrl
    go_wp2_with fail
    go_region
    obtain⟨wc,hwc⟩:∃wc,wc=(wq.setCell ⟨g,k*4+2,none⟩ (.int .i64 (f.regs+f.params))).drew:=⟨_,rfl⟩
    rw[←hwc]
    have hkc:Kept (fun b=>b=g) wq wc:=by
     rw[hwc]
     exact((Kept.refl (fun b=>b=g) wq).setCell (p:=⟨g,k*4+2,none⟩) rfl _).drew
    have hRc:RowPut wo wc 37 g (k*4) 4 [.string f.name,.int .i64 f.params,.int .i64 (f.regs+f.params),.slice (some ⟨B,0,none⟩) f.blocks.length cb]:=by
     rw[hwc]
     exact(RowPut.set HRq.out rfl (j:=2) (by omega) (.int .i64 (f.regs+f.params))).of_block rfl
    have hSg:¬ S' g:=fun h=>by
     rcases haf.out g h with h|h
     ·exact HTg.out h
     omega
    have hfc:=HFu.out.kept qE hkc (fun b h1 h2=>hSg (h1 ▸ h2))
    have hin:=hfc.inb
    rw[←HRs.out.2]at hfc
    obtain⟨cs,T,hX,hcl,hfZ,hTB,hTS,hce,hg6⟩:=hfc.out (by omega) (i:=0) (by rw[HRs.out.2];omega)
    rw[HRs.out.2]at hg6
    obtain⟨b0,hb0⟩:∃b0,b0=rs[0]'(by rw[HRs.out.2];omega):=⟨_,rfl⟩
    rw[←hb0]at hX
    have hfi:∀b,T b→b<wc.heap.size:=fun b h=>hin b (hTS b h)
    have hX2:=hX
    obtain⟨v1,v2,v3,_,_,_,hcs,_,_,hP1,hL2,hT3,_⟩:=hX2
    obtain⟨r1,e1,rfl,_,_⟩:=hP1.sl.val
    obtain⟨r2,e2,rfl,_,_⟩:=hL2.sl.val
    obtain⟨r3,e3,rfl,_,_⟩:=hT3.sl.val
    subst hcs
    have haX:∀j,j<6→wc.cell? ⟨B,j,none⟩=[Value.slice r1 b0.phis.length e1,.slice r2 b0.list.length e2,.int .i64 b0.fin.kind,.bool b0.fin.onr,.int .i64 b0.fin.onn,.slice r3 b0.fin.to.length e3][j]?:=fun j hj=>by
     have:=hce j hj
     rwa [Nat.zero_mul,Nat.zero_add]at this
    have y0c:=haX 0 (by omega)
    have y1c:=haX 1 (by omega)
    have y2c:=haX 2 (by omega)
    have y3c:=haX 3 (by omega)
    have y4c:=haX 4 (by omega)
    have y5c:=haX 5 (by omega)
    simp only[List.getElem?_cons_zero,List.getElem?_cons_succ]at y0c y1c y2c y3c y4c y5c
    have cz:=q8 y0c
    have b3:wc.cell? ⟨g,k*4+3,none⟩=some (.slice (some ⟨B,0,none⟩) f.blocks.length cb):=hRc.at1 (j:=3) (by omega)
    have b3f:wc.frozen? ⟨g,k*4+3,none⟩=false:=hRc.free1 _
    have gzc:=q8 b3
    have hzc:=hkc.size
    have b00:(0:Int)<f.blocks.length:=by omega
    have hSp:∀w',SameAt wc [g] w'→w'.cell? ⟨g,k*4+3,none⟩=some (.slice (some ⟨B,0,none⟩) f.blocks.length cb)∧w'.frozen? ⟨g,k*4+3,none⟩=false∧g<w'.heap.size:=fun w' h=>by
     obtain⟨a1,a2⟩:=h.cell (by simp) b3
     exact⟨a1,(World.frozen?_of_block (a:=⟨g,k*4+3,none⟩) (h.2 g (by simp))).trans b3f,a2⟩
    have hS0:=SameAt.same wc [g]
    have HKc:=q7 hkc
    have HRc:=q7 hRc
    have HB0:=q7 hb0
    clear hwc hkc hRc hfc hcl hce haX hP1 hL2 hT3 hb0 f1 f2 f3 y2
    go_wp2_with fail
    refine qm (S:=SameAt wc [g]) (by kernel_rfl) 15 ?_
    refine tkZ 0 159 (.pointer (some ⟨g,k*4,none⟩)) rfl rfl hS0 (fun w' h=>by
     obtain⟨s1,s2,s3⟩:=hSp w' h
     go_simp) ?_
    refine tkZ 1 160 (.pointer (some ⟨g,k*4,none⟩)) rfl rfl hS0 (fun w' h=>by
     obtain⟨s1,s2,s3⟩:=hSp w' h
     go_simp) ?_
    refine tkZ 2 161 (.pointer (some ⟨g,k*4,none⟩)) rfl rfl hS0 (fun w' h=>by
     obtain⟨s1,s2,s3⟩:=hSp w' h
     go_simp) ?_
    refine tkZ 3 162 (.pointer (some ⟨g,k*4+3,none⟩)) rfl rfl hS0 (fun w' h=>by
     obtain⟨s1,s2,s3⟩:=hSp w' h
     go_simp) ?_
    refine tkZ 4 163 (.slice (some ⟨B,0,none⟩) f.blocks.length cb) rfl rfl hS0 (fun w' h=>by
     obtain⟨s1,s2,s3⟩:=hSp w' h
     go_simp) ?_
    refine tkZ 5 164 (.pointer (some ⟨g,k*4,none⟩)) rfl rfl hS0 (fun w' h=>by
     obtain⟨s1,s2,s3⟩:=hSp w' h
     go_simp) ?_
    refine tkZ 6 165 (.pointer (some ⟨g,k*4,none⟩)) rfl rfl hS0 (fun w' h=>by
     obtain⟨s1,s2,s3⟩:=hSp w' h
     go_simp) ?_
    refine tkZ 7 166 (.pointer (some ⟨g,k*4+3,none⟩)) rfl rfl hS0 (fun w' h=>by
     obtain⟨s1,s2,s3⟩:=hSp w' h
     go_simp) ?_
    refine tkZ 8 167 (.slice (some ⟨B,0,none⟩) f.blocks.length cb) rfl rfl hS0 (fun w' h=>by
     obtain⟨s1,s2,s3⟩:=hSp w' h
     go_simp) ?_
    refine tkZ 9 168 (.pointer (some ⟨B,0,none⟩)) rfl rfl hS0 (fun w' h=>by
     obtain⟨s1,s2,s3⟩:=hSp w' h
     go_simp) ?_
    refine qk (i:=10) (by kernel_rfl) (qn 169 (.agg #[.slice r1 b0.phis.length e1,.slice r2 b0.list.length e2,.int .i64 b0.fin.kind,.bool b0.fin.onr,.int .i64 b0.fin.onn,.slice r3 b0.fin.to.length e3]) wc.drew rfl rfl rfl (by go_simp) hS0 ?_)
    have hS8:SameAt wc [g] (wc.drew.alloc (.cells #[.slice r1 b0.phis.length e1,.slice r2 b0.list.length e2,.int .i64 b0.fin.kind,.bool b0.fin.onr,.int .i64 b0.fin.onn,.slice r3 b0.fin.to.length e3] 48)):=hS0.kept ((Kept.refl (fun _=>False) _).alloc _) (fun b hb=>⟨fun h=>h,by rw[List.mem_singleton.1 hb];exact gzc⟩)
    refine qk (i:=11) (by kernel_rfl) (qn 170 (.slice (some ⟨wc.heap.size,0,none⟩) 1 1) (wc.drew.alloc (.cells #[.slice r1 b0.phis.length e1,.slice r2 b0.list.length e2,.int .i64 b0.fin.kind,.bool b0.fin.onr,.int .i64 b0.fin.onn,.slice r3 b0.fin.to.length e3] 48)) rfl rfl rfl (by go_simp) hS8 ?_)
    have hay:Below wc.heap.size wc (wc.drew.alloc (.cells #[.slice r1 b0.phis.length e1,.slice r2 b0.list.length e2,.int .i64 b0.fin.kind,.bool b0.fin.onr,.int .i64 b0.fin.onn,.slice r3 b0.fin.to.length e3] 48)):=(Below.refl _ wc).drew.alloc (Nat.le_refl _) _
    have hol:((rs.map some).set 0 none).length=f.blocks.length:=by rw[List.length_set,List.length_map,HRs.out.2]
    have hg6:SlO 48 6 (OptR BlkO) wc (.slice (some ⟨B,0,none⟩) f.blocks.length cb) ((rs.map some).set 0 none) (fun k=>S' k∧¬ T k):=hg6
    have HOl:=q7 hol
    clear hol
    refine qk (i:=12) (by kernel_rfl) (zx 171 _ _ 35 rfl rfl rfl rfl 48 iB _ 6 96 Tryz.underlying35 m1 m2 m3 m4 rfl (by decide) (Jf qE) (by go_simp) (hg6.below (Jf qE) hay) ⟨wc.heap.size,0,none⟩ 1 [.slice r1 b0.phis.length e1,.slice r2 b0.list.length e2,.int .i64 b0.fin.kind,.bool b0.fin.onr,.int .i64 b0.fin.onn,.slice r3 b0.fin.to.length e3] (some b0) (by go_simp) rfl ?hn hfZ (T:=T) (qE _ _ _ _ _ hX (fun b hb=>hay.block b ?hz) hay.size) ?ha ?ht ?hm ?hb ?_)
    case hn=>exact qS _ _ _ rfl
    case hz=>exact hfi b hb
    case ha=>exact fun k h1 h2=>h1.2 h2
    case ht=>exact fun b h=>Nat.lt_of_lt_of_le (hfi b h) hay.size
    case hm=>rw[HOl.out];unfold maxLen;omega
    case hb=>rw[HOl.out];omega
    intro v' w8 hsn
    obtain⟨S8,hkA,hgk,hK8⟩:=hsn
    have hu8:=hay.size
    have hz8:=hK8.size
    have hkC:∀b,b<wc.heap.size→¬ S' b→¬ S8 b:=fun b h1 h2 h3=>by
     rcases hgk b h3 with h|h|h
     ·exact h2 h.1
     ·exact h2 (hTS b h)
     omega
    have hS9:SameAt wc [g] w8:=hS8.kept hK8 (fun b hb=>by
     rw[List.mem_singleton.1 hb]
     exact⟨fun h=>hSg h.1,gzc⟩)
    refine⟨hS9,?_⟩
    refine qk (i:=13) (by kernel_rfl) (qn 172 (.pointer (some ⟨g,k*4,none⟩)) w8 rfl rfl rfl (by go_simp) hS9 ?_)
    refine qk (i:=14) (by kernel_rfl) (qn 173 (.pointer (some ⟨g,k*4+3,none⟩)) w8 rfl rfl rfl (by go_simp) hS9 ?_)
    obtain⟨s1,s2,s3⟩:=hSp w8 hS9
    obtain⟨B2,cv,aa,T8,hv8,hrX,hoB,hal,_,_,_,hoC,hoD,_⟩:=hkA.focus (Jf qE) (by omega) (i:=0) (by rw[List.length_append];simp)
    have hl8:(((rs.map some).set 0 none)++[some b0]).length=f.blocks.length+1:=by rw[List.length_append,HOl.out];rfl
    rw[hl8]at hv8
    subst hv8
    refine qk (i:=15) (by kernel_rfl) (qz (w8.setCell ⟨g,k*4+3,none⟩ (.slice (some ⟨B2,0,none⟩) (f.blocks.length+1) cv)) rfl rfl rfl (by go_simp) (fun h=>absurd rfl h) (qB (by kernel_rfl) ?_ _))
    obtain⟨w9,hw9⟩:∃w9,w9=w8.setCell ⟨g,k*4+3,none⟩ (.slice (some ⟨B2,0,none⟩) (f.blocks.length+1) cv):=⟨_,rfl⟩
    rw[←hw9]
    have hoE:B2≠g:=fun e=>hkC g gzc hSg (e ▸ hoB)
    have hR8:RowPut wo w8 37 g (k*4) 4 [.string f.name,.int .i64 f.params,.int .i64 (f.regs+f.params),.slice (some ⟨B,0,none⟩) f.blocks.length cb]:=HRc.out.of_block (hS9.2 g (by simp))
    have hR9:RowPut wo w9 37 g (k*4) 4 [.string f.name,.int .i64 f.params,.int .i64 (f.regs+f.params),.slice (some ⟨B2,0,none⟩) (f.blocks.length+1) cv]:=by
     rw[hw9]
     exact RowPut.set hR8 rfl (j:=3) (by omega) _
    have hgD:Kept (fun b=>b=g) w8 w9:=by
     rw[hw9]
     exact(Kept.refl (fun b=>b=g) w8).setCell (p:=⟨g,k*4+3,none⟩) rfl _
    have hkD:w9.heap[B2]?=w8.heap[B2]?:=hgD.block B2 hrX hoE
    have hz9:=hgD.size
    have hkG:SlO 48 6 (OptR BlkO) w9 (.slice (some ⟨B2,0,none⟩) (f.blocks.length+1) cv) (((rs.map some).set 0 none)++[some b0]) S8:=hkA.kept (Jf qE) hgD (fun b h1 h2=>hkC g gzc hSg ((show b=g from h1) ▸ h2))
    obtain⟨a0,a1,a2,a3,a4,a5,rfl⟩:∃a0 a1 a2 a3 a4 a5,aa=[a0,a1,a2,a3,a4,a5]:=by
     match aa,hal with
     | [a0,a1,a2,a3,a4,a5],_=>exact⟨a0,a1,a2,a3,a4,a5,rfl⟩
    have hac:∀j,j<6→w9.cell? ⟨B2,j,none⟩=[a0,a1,a2,a3,a4,a5][j]?∧w9.frozen? ⟨B2,j,none⟩=false:=fun j hj=>by
     have:=hoC j hj
     rw[Nat.zero_mul,Nat.zero_add]at this
     exact⟨(World.cell?_of_block (a:=⟨B2,j,none⟩) hkD).trans this,(World.frozen?_of_block (a:=⟨B2,j,none⟩) hkD).trans (hoD j)⟩
    obtain⟨d0,x0⟩:=hac 0 (by omega)
    obtain⟨d1',x1⟩:=hac 1 (by omega)
    obtain⟨d2',x2⟩:=hac 2 (by omega)
    obtain⟨d3,x3⟩:=hac 3 (by omega)
    obtain⟨d4,x4⟩:=hac 4 (by omega)
    obtain⟨d5,x5⟩:=hac 5 (by omega)
    simp only[List.getElem?_cons_zero,List.getElem?_cons_succ]at d0 d1' d2' d3 d4 d5
    have dz:=q8 d0
    have t3:w9.cell? ⟨g,k*4+3,none⟩=some (.slice (some ⟨B2,0,none⟩) (f.blocks.length+1) cv):=hR9.at1 (j:=3) (by omega)
    have tz:=q8 t3
    have hn1':(0:Int)<((f.blocks.length:Nat):Int)+1:=by omega
    have hend:∀WE,WE=((((((w9.setCell ⟨B2,0,none⟩ (.slice none 0 0)).setCell ⟨B2,1,none⟩ (.slice none 0 0)).setCell ⟨B2,2,none⟩ (.int .i64 2)).setCell ⟨B2,3,none⟩ (.bool false)).setCell ⟨B2,4,none⟩ (.int .i64 0)).setCell ⟨B2,5,none⟩ (.slice (some ⟨w9.heap.size,0,none⟩) 1 1)).alloc (.cells #[.int .i64 f.blocks.length] 3)→∃S2',OutC (w.heap.size+1+1) O g c p1 c1 gl (tsK (k+1) ts) S1 S2' WE∧Below (w.heap.size+1+1) W2 WE:=fun WE hWE=>by
     have hN:WE.heap[w9.heap.size]?=some (.cells #[.int .i64 f.blocks.length] 3 (0,0)):=by
      rw[hWE]
      exact qh (by simp only[Go.Deep.nblk_setCell])
     have hkE:Kept (fun b=>b=B2) w9 WE:=by
      rw[hWE]
      exact(((((((Kept.refl (fun b=>b=B2) w9).setCell (p:=⟨B2,0,none⟩) rfl _).setCell (p:=⟨B2,1,none⟩) rfl _).setCell (p:=⟨B2,2,none⟩) rfl _).setCell (p:=⟨B2,3,none⟩) rfl _).setCell (p:=⟨B2,4,none⟩) rfl _).setCell (p:=⟨B2,5,none⟩) rfl _).alloc _
     have hoT:SlO 3 1 kP WE (.slice (some ⟨w9.heap.size,0,none⟩) 1 1) [(f.blocks.length:Int)] (fun b=>b=w9.heap.size):=VB (by unfold I64;omega) hN
     have hhd:BlkO WE [.slice none 0 0,.slice none 0 0,.int .i64 2,.bool false,.int .i64 0,.slice (some ⟨w9.heap.size,0,none⟩) 1 1] ⟨[],[],⟨2,false,0,[(f.blocks.length:Int)]⟩⟩ (fun b=>b=w9.heap.size):=
      ⟨_,_,_,fun _=>False,fun _=>False,fun b=>b=w9.heap.size,rfl,by unfold I64;simp only;omega,by unfold I64;simp only;omega,⟨SlO.nil _ _ _ _ (fun _ h=>h.elim),by unfold reachBytes;simp⟩,⟨SlO.nil _ _ _ _ (fun _ h=>h.elim),by unfold reachBytes;simp⟩,⟨hoT,by unfold reachBytes;simp⟩,fun _ h _=>h,fun _ h _=>h,fun _ h _=>h,fun _ h=>h.elim,fun _ h=>h.elim,fun _ h=>h⟩
     obtain⟨B3,cv3,_,T9,hv9,_,_,_,_,hu9,huf,hcX,_,⟨cur9,hcT⟩,put9⟩:=hkG.focus (Jf qE) (by omega) (i:=0) (by rw[List.length_append];simp)
     obtain rfl:B2=B3:=by
      injection hv9 with a
      injection a with a
      injection a
     have hRE:RowPut w9 WE 48 B2 (0*6) 6 [.slice none 0 0,.slice none 0 0,.int .i64 2,.bool false,.int .i64 0,.slice (some ⟨w9.heap.size,0,none⟩) 1 1]:=by
      have h0:=RowPut.set (RowPut.same (w':=w9) (o:=0*6) (size:=6) hcT rfl (cs:=[a0,a1,a2,a3,a4,a5]) fun j hj=>by rw[Nat.zero_mul,Nat.zero_add];exact(hac j hj).1) rfl (j:=0) (by omega) (.slice none 0 0)
      have h1:=RowPut.set h0 rfl (j:=1) (by omega) (.slice none 0 0)
      have h2:=RowPut.set h1 rfl (j:=2) (by omega) (.int .i64 2)
      have h3:=RowPut.set h2 rfl (j:=3) (by omega) (.bool false)
      have h4:=RowPut.set h3 rfl (j:=4) (by omega) (.int .i64 0)
      have h5:=RowPut.set h4 rfl (j:=5) (by omega) (.slice (some ⟨w9.heap.size,0,none⟩) 1 1)
      simp only[Nat.zero_mul,Nat.zero_add,List.set_cons_zero,List.set_cons_succ]at h5 ⊢
      rw[hWE]
      exact h5.of_block (Below.heap_alloc _ _ B2 (by simp only[Go.Deep.nblk_setCell];exact dz))
     have hgE:=put9 WE _ (some ⟨[],[],⟨2,false,0,[(f.blocks.length:Int)]⟩⟩) (fun b=>b=w9.heap.size) hRE rfl (fun u hu=>by
      simp only[List.mem_cons,List.not_mem_nil,or_false]at hu
      rcases hu with rfl|rfl|rfl|rfl|rfl|rfl<;>rfl) hkE.size (fun b h1 _ h3=>hkE.block b (hkG.inb b h1) h3) hhd (fun b hb=>by
      have hb:b=w9.heap.size:=hb
      exact⟨.inr (by omega),by rw[hb];exact q9 hN⟩)
     have hls:(((rs.map some).set 0 none)++[some b0]).set 0 (some ⟨[],[],⟨2,false,0,[(f.blocks.length:Int)]⟩⟩)=(JP k f).blocks.map some:=by
      have h1:b0=Q0 k f.regs f.blocks.length (atF f 0):=by
       rw[HB0.out,qG hn1]
       simp only[HRs.out.1,List.getElem_map]
      rw[h1]
      unfold JP
      simp only[HRs.out.1]
      rw[List.set_append_left _ _ (by rw[List.length_set,List.length_map,List.length_map];exact hn1),List.set_set,List.map_append,←List.map_set]
      rfl
     rw[hls]at hgE
     have hblk:=SlO.ofOpt hgE
     have hrl:(JP k f).blocks.length=f.blocks.length+1:=vN k f
     have hfn:FunO WE [.string f.name,.int .i64 f.params,.int .i64 (f.regs+f.params),.slice (some ⟨B2,0,none⟩) (f.blocks.length+1) cv] (JP k f) (fun b=>S8 b∨b=w9.heap.size):=
      ⟨_,rfl,HI.out.1,HI.out.2.1,by show I64 (f.regs+f.params);unfold I64;omega,⟨hblk,by rw[hrl];unfold reachBytes;omega⟩⟩
     have hKo:Kept (fun b=>TB b∨b=g) wo WE:=by
      have hrY:B2<wo.heap.size→TB B2:=fun hl=>by
       rcases hgk B2 hoB with h|h|h
       ·rcases haf.out _ h.1 with h|h
        ·exact h
        omega
       ·rcases haf.out _ (hTS _ h)with h|h
        ·exact h
        omega
       omega
      have k1:Kept (fun b=>TB b∨b=g) wo wc:=(HK.out.mono fun _ _ h=>.inl h).trans HKc.out fun _ _ h=>.inr h
      have k2:Kept (fun b=>TB b∨b=g) wo w8:=(k1.trans (Kept.of_below (S:=fun _=>False) hay) fun _ _ h=>h.elim).trans hK8 fun b hl h=>by
       rcases haf.out b h.1 with h|h
       ·exact .inl h
       omega
      exact(k2.trans hgD fun _ _ h=>.inr h).trans hkE fun b hl h=>.inl (by have h:b=B2:=h;rw[h];exact hrY (by omega))
     have hRF:RowPut wo WE 37 g (k*4) 4 [.string f.name,.int .i64 f.params,.int .i64 (f.regs+f.params),.slice (some ⟨B2,0,none⟩) (f.blocks.length+1) cv]:=hR9.of_block (hkE.block g tz (fun e=>hoE (show g=B2 from e).symm))
     have hput:=haG.out WE _ (JP k f) _ hRF rfl (fun u hu=>by
      simp only[List.mem_cons,List.not_mem_nil,or_false]at hu
      rcases hu with rfl|rfl|rfl|rfl<;>rfl) hKo.size (fun b h1 h2 h3=>hKo.block b (hcV.out.fn.inb b h1) (fun h=>h.elim h2 h3)) hfn (fun b hb=>by
      refine⟨?_,hblk.inb b hb⟩
      rcases hb with h|h
      ·rcases hgk b h with h|h|h
       ·exact haf.out b h.1
       ·exact haf.out b (hTS b h)
       exact .inr (by omega)
      exact .inr (by omega))
     have hrT:refT k f=JP k f:=by
      unfold refT
      rw[if_pos ⟨HPl.out.symm,HMr.out.symm⟩]
     rw[←hrT,HSu.out]at hput
     have hKS:Kept S2 wo WE:=hKo.mono fun b _ h=>h.elim (HTS.out b) fun h=>by rw[h];exact HgS.out
     refine⟨_,hcV.out.put (by omega) (by rw[vt,vt]) hKS (hput.grow (S':=fun b=>S2 b∨S8 b∨b=w9.heap.size) (fun b h=>h) hput.inb) fun b hb=>?_,HBo.out.trans (hKS.below (by omega) fun b hb=>(hcV.out.l2 b hb).1)⟩
     rcases hb with h|h|h
     ·exact .inl h
     ·rcases hgk b h with h|h|h
      ·exact(haf.out b h.1).imp (HTS.out b) id
      ·exact(haf.out b (hTS b h)).imp (HTS.out b) id
      exact .inr (by omega)
     exact .inr (by omega)
    have hrZ:=q7 hend
    clear hend hkG hgD hkD hR9 hR8 hw9 hac hoC hoD hkA hgk hK8 hkC hS9 hS8 hS0 hSp hay hal s1 s2 s3 hg6 hX hfZ hTB hTS hfi hin hl8
    simp only[calm]
    go_wp2_with fail
    go_roundg (ts.length - (k+1))
    case measure=>omega
    case rel=>
     obtain⟨S2',h1,h2⟩:=hrZ.out _ rfl
     exact⟨k+1,S2',by omega,rfl,by go_num,h1,h2⟩
   obtain⟨gb,qp,cp,ql,cl,q3,c3,Sl,hgb,hSg,hoF,hoG,hL,hRp,put⟩:=blk_turn HS'.out hjl
   obtain rfl:B=gb:=by injection hgb with h;injection h
   have hsu:=qU (u:=Q0 k f.regs f.blocks.length) hjl
   have hsm:=Kn (u:=Q0 k f.regs f.blocks.length) hjl
   have hbm:f.blocks[j]∈f.blocks:=List.getElem_mem hjl
   have hon:f.blocks[j].fin.onr=true→0≤f.blocks[j].fin.onn:=fun h=>((HFc.out.fin j hjl).on h).1
   have hhW:f.blocks[j].list.length≤300:=Nat.le_trans (kx hjl) HFc.out.many
   have hargs:=fun y (e:zK k f.blocks[j]=some y)=>HFc.out.args HPk.out hbm e
   have x0:wq.cell? ⟨B,j*6,none⟩=some (.slice qp f.blocks[j].phis.length cp):=hRp.at1 (j:=0) (by omega)
   have x1:wq.cell? ⟨B,j*6+1,none⟩=some (.slice ql f.blocks[j].list.length cl):=hRp.at1 (j:=1) (by omega)
   have x2:wq.cell? ⟨B,j*6+2,none⟩=some (.int .i64 f.blocks[j].fin.kind):=hRp.at1 (j:=2) (by omega)
   have x3:wq.cell? ⟨B,j*6+3,none⟩=some (.bool f.blocks[j].fin.onr):=hRp.at1 (j:=3) (by omega)
   have x4:wq.cell? ⟨B,j*6+4,none⟩=some (.int .i64 f.blocks[j].fin.onn):=hRp.at1 (j:=4) (by omega)
   have x5:wq.cell? ⟨B,j*6+5,none⟩=some (.slice q3 f.blocks[j].fin.to.length c3):=hRp.at1 (j:=5) (by omega)
   have xz:=q8 x0
   generalize hbk:f.blocks[j]=bk at *
   have htb:=VD bk qp ql q3 cp cl c3 k wq hL.bd (InsO.readsT hL.sl) hon
   obtain⟨go,hgo⟩:∃b,b=xx k bk:=⟨_,rfl⟩
   rw[←hgo]at htb
   have HTb:=q7 htb
   have HGo:=q7 hgo
   have HSu:=q7 hsu
   have HSm:=q7 hsm
   have HAr:=q7 hargs
   have HL:=q7 hL
   have HRp:=q7 hRp
   have hkH:=q7 put
   have HSl:=q7 (And.intro hSg (And.intro hoF hoG))
   have HX:=q7 (And.intro x0 (And.intro x1 (And.intro x2 (And.intro x3 (And.intro x4 x5)))))
   have j0:(0:Int)≤(j:Int):=by omega
   have j1:(j:Int)<f.blocks.length:=by omega
   clear hbk hsu hsm hbm hon hargs hL hRp put hSg hoF hoG htb hgo hgb
   cases go
   ·go_wp2_with fail
    refine HTb.out.mono ?_
    rintro e wt ⟨rfl,hbt⟩
    have HBt:=q7 hbt
    clear hbt
    go_wp2_with fail
    go_roundg (f.blocks.length - (j+1))
    case measure=>omega
    case rel=>
     have hnn:zK k bk=none:=by
      have:=HGo.out
      unfold xx at this
      cases e:zK k bk with
      | none=>rfl
      | some y=>rw[e]at this;cases this
     refine⟨j+1,S',by omega,rfl,by go_num,?_,haf.out,HK.out.trans (Kept.of_below (S:=fun _=>False) HBt.out) fun _ _ h=>h.elim⟩
     rw[HSm.out (by unfold Q0;rw[hnn])]
     exact HS'.out.below qE HBt.out
   go_wp2_with fail
   refine HTb.out.mono ?_
   rintro e wt ⟨rfl,hbt⟩
   have y1:=(hbt.cell (p:=⟨B,j*6+1,none⟩) xz).trans x1
   have yz:=q8 y1
   have hLt:=HL.out.sl.below qH hbt
   obtain⟨x,hx⟩:∃x,zK k bk=some x:=by
    have:=HGo.out
    unfold xx at this
    exact Option.isSome_iff_exists.1 this.symm
   obtain⟨ini,hdE⟩:∃ini,ini=bk.list.dropLast:=⟨_,rfl⟩
   have hl1:=(zP hx).1
   rw[←hdE]at hl1
   have hll:bk.list.length=ini.length+1:=by rw[hl1];simp
   obtain⟨gl',cl',_,_,hvl,-⟩:=hLt.focus qH (by omega) (i:=0) (by omega)
   obtain⟨rfl,rfl⟩:ql=some ⟨gl',0,none⟩∧cl=cl':=by injection hvl with h1 _ h2;exact⟨h1,h2⟩
   rw[hl1]at hLt
   obtain⟨cs,T,hX,hcl,hfI,hfJ,hce,hoH⟩:=hLt.pop (by omega)
   obtain⟨qx,cx,rfl,hXa⟩:=hX.args
   have z0:wt.cell? ⟨gl',ini.length*8,none⟩=some (.int .i64 x.op):=hce 0 (by omega)
   have z1:wt.cell? ⟨gl',ini.length*8+1,none⟩=some (.int .i64 x.dst):=hce 1 (by omega)
   have z2:wt.cell? ⟨gl',ini.length*8+2,none⟩=some (.bool x.ar):=hce 2 (by omega)
   have z3:wt.cell? ⟨gl',ini.length*8+3,none⟩=some (.int .i64 x.an):=hce 3 (by omega)
   have z4:wt.cell? ⟨gl',ini.length*8+4,none⟩=some (.bool x.br):=hce 4 (by omega)
   have z5:wt.cell? ⟨gl',ini.length*8+5,none⟩=some (.int .i64 x.bn):=hce 5 (by omega)
   have z6:wt.cell? ⟨gl',ini.length*8+6,none⟩=some (.int .i64 x.fn):=hce 6 (by omega)
   have z7:wt.cell? ⟨gl',ini.length*8+7,none⟩=some (.slice qx x.args.length cx):=hce 7 (by omega)
   have zz:=q8 z0
   have hap:=HAr.out x hx
   have hwi:IntKind.i64.wrap ((bk.list.length:Int) - 1)=((ini.length:Nat):Int):=by rw[IntKind.wrap_i64];omega
   have n0:(0:Int)≤(ini.length:Int):=by omega
   have n1:(ini.length:Int)<bk.list.length:=by omega
   have HBt:=q7 hbt
   have HXa:=q7 hXa
   have hsf:=q7 hoH
   have HHx:=q7 (And.intro hx (And.intro hdE hl1))
   have HAp:=q7 hap
   have HT:=q7 (And.intro hfI hfJ)
   clear hbt hLt hx hdE hl1 hvl hX hcl hfI hfJ hce hoH hXa hap hll
   go_wp2_with fail
   go_region
   obtain⟨X,hXe⟩:∃X,X=wt.heap.size:=⟨_,rfl⟩
   obtain⟨wl,hwl⟩:∃wl,wl=(wt.alloc (.cells #[.int .i64 x.op,.int .i64 x.dst,.bool x.ar,.int .i64 x.an,.bool x.br,.int .i64 x.bn,.int .i64 x.fn,.slice qx x.args.length cx] 53)).drew:=⟨_,rfl⟩
   rw[←hwl,←hXe]
   have hbl:Below wt.heap.size wt wl:=by rw[hwl];exact Below.drew bZ
   have hXl:wl.heap[X]?=some (.cells #[.int .i64 x.op,.int .i64 x.dst,.bool x.ar,.int .i64 x.an,.bool x.br,.int .i64 x.bn,.int .i64 x.fn,.slice qx x.args.length cx] 53 (0,0)):=by rw[hwl,hXe];exact qh rfl
   have hkl:Kept (fun _=>False) wq wl:=Kept.of_below (HBt.out.trans (hbl.mono HBt.out.size))
   have hXq:wq.heap.size≤X:=by rw[hXe];exact HBt.out.size
   have hgl:wl.heap[B]?=wq.heap[B]?:=hkl.block B xz (fun h=>h)
   have hLi:SlO 53 8 InsO wl (.slice (some ⟨gl',0,none⟩) ini.length cl) ini (fun b=>Sl b∧¬ T b):=hsf.out.below qH hbl
   have hXs:SlO 43 2 Xu wl (.slice qx x.args.length cx) x.args T:=HXa.out.below zT hbl
   have u1:wl.cell? ⟨B,j*6+1,none⟩=some (.slice (some ⟨gl',0,none⟩) bk.list.length cl):=(World.cell?_of_block (a:=⟨B,j*6+1,none⟩) hgl).trans x1
   have u1f:wl.frozen? ⟨B,j*6+1,none⟩=false:=(World.frozen?_of_block (a:=⟨B,j*6+1,none⟩) hgl).trans (HRp.out.free1 _)
   have u1z:=q8 u1
   have hg2:¬ (Sl B∧¬ T B):=fun h=>HSl.out.2.1 h.1
   have hhG:bk.list.length≤cl:=by
    obtain⟨_,_,e,_,h⟩:=HL.out.sl.val
    injection e with _ _ e
    rw[e];exact h
   have hdi:ini.length≤cl:=by omega
   have hhX:ini.length≤299:=by omega
   have hx6:x.args.length≤6:=by have:=HAp.out.1;omega
   have hoI:RowPut wq wl 48 B (j*6) 6 [.slice qp bk.phis.length cp,.slice (some ⟨gl',0,none⟩) bk.list.length cl,.int .i64 bk.fin.kind,.bool bk.fin.onr,.int .i64 bk.fin.onn,.slice q3 bk.fin.to.length c3]:=HRp.out.of_block hgl
   have hs0:LstS wq wl (wl.drew.setCell ⟨B,j*6+1,none⟩ (.slice (some ⟨gl',0,none⟩) ini.length cl)) B (j*6) (fun b=>Sl b∧¬ T b) (.slice qp bk.phis.length cp) (.slice q3 bk.fin.to.length c3) bk.fin ini (some ⟨gl',0,none⟩) cl (fun b=>Sl b∧¬ T b):=
    ⟨hLi.loc qH (fun b hb=>(Go.Deep.blk_setCell_other _ _ _ b (fun e=>hg2 ((show b=B from e) ▸ hb)))) (by rw[Go.Deep.nblk_setCell];exact Nat.le_refl _),fun b hb=>.inl hb,RowPut.set (hoI.of_block (w2:=wl.drew) rfl) rfl (j:=1) (by omega) _,(Kept.refl _ wl).drew.setCell (p:=⟨B,j*6+1,none⟩) (.inr rfl) _⟩
   have hng:¬ (Sl g∧¬ T g):=fun h=>by
    rcases haf.out g (HSl.out.2.2 g h.1)with h|h
    ·exact HTg.out h
    omega
   have hnX:¬ (Sl X∧¬ T X):=fun h=>by
    have:=HS'.out.inb X (HSl.out.2.2 X h.1)
    omega
   have hRg:∀W:World,Kept (fun b=>(Sl b∧¬ T b)∨b=B) wl W→W.cell? ⟨g,k*4+1,none⟩=some (.int .i64 ((x.args.length:Nat):Int))∧W.cell? ⟨g,k*4+2,none⟩=some (.int .i64 f.regs)∧W.cell? ⟨X,7,none⟩=some (.slice qx x.args.length cx)∧∀b,T b→W.heap[b]?=wl.heap[b]?:=fun W hk=>by
    have ng:¬ ((Sl g∧¬ T g)∨g=B):=fun h=>h.elim hng fun h=>HTg.out (h ▸ HBT.out)
    have nX:¬ ((Sl X∧¬ T X)∨X=B):=fun h=>h.elim hnX fun h=>by omega
    have hg1:W.heap[g]?=wq.heap[g]?:=(hk.block g (Nat.lt_of_lt_of_le fz hkl.size) ng).trans (hkl.block g fz (fun h=>h))
    have hX1:W.heap[X]?=wl.heap[X]?:=hk.block X (q9 hXl) nX
    refine⟨(World.cell?_of_block (a:=⟨g,k*4+1,none⟩) hg1).trans ?_,(World.cell?_of_block (a:=⟨g,k*4+2,none⟩) hg1).trans f2,(World.cell?_of_block (a:=⟨X,7,none⟩) hX1).trans ((blk hXl).1 7),fun b h2=>hk.block b (hXs.inb b h2) fun h1=>?_⟩
    ·rw[f1,HAp.out.1]
    rcases h1 with h|h
    ·exact h.2 h2
    exact HSl.out.2.1 (h ▸ HT.out.2 b h2)
   have HS0:=q7 hs0
   have HXs:=q7 hXs
   have hXz:=q9 hXl
   have HXz:=q7 hXz
   have HNg:=q7 hng
   have HNX:=q7 hnX
   have HRg:=q7 hRg
   have HG2:=q7 hg2
   have HKl:=q7 hkl
   clear hXe hwl hbl hXl hkl hgl hLi hXs hXz hng hnX hg2 hhG hoI hs0 hRg z0 z1 z2 z3 z4 z5 z6 z7 zz y1 yz n0 n1
   go_wp2_with fail
   go_region
   obtain⟨wm,hwm⟩:∃wm,wm=(wl.setCell ⟨B,j*6+1,none⟩ (.slice (some ⟨gl',0,none⟩) ini.length cl)).drew:=⟨_,rfl⟩
   rw[←hwm]
   have hsm:LstS wq wl wm B (j*6) (fun b=>Sl b∧¬ T b) (.slice qp bk.phis.length cp) (.slice q3 bk.fin.to.length c3) bk.fin (ini++xU f.regs (x.args.take 0)) (some ⟨gl',0,none⟩) cl (fun b=>Sl b∧¬ T b):=by
    rw[hwm,List.take_zero,show xU f.regs []=[]from rfl,List.append_nil]
    exact HS0.out
   obtain⟨r1,_⟩:=HRg.out _ hsm.2.2.2
   have HSm:=q7 hsm
   clear hwm hsm HS0 r1
   go_wp2_with fail
   go_loopg [10] x.args.length (fun q s wr=>∃(i:Nat) (pp:Option Addr) (cc:Nat) (SL:Blks),i≤x.args.length∧q=x.args.length - i∧s = .int .i64 i∧LstS wq wl wr B (j*6) (fun b=>Sl b∧¬ T b) (.slice qp bk.phis.length cp) (.slice q3 bk.fin.to.length c3) bk.fin (ini++xU f.regs (x.args.take i)) pp cc SL)
   case atStart=>exact⟨0,_,_,_,by omega,rfl,rfl,HSm.out⟩
   case round=>
    obtain⟨i,pp,cc,SL,hi,rfl,rfl,hs⟩:=hrel
    obtain⟨r1,r2,r3,r4⟩:=HRg.out _ hs.2.2.2
    have rz:=q8 r1
    have rX:=q8 r3
    have HS:=q7 hs
    have HR4:=q7 r4
    clear hs r4
    by_cases hil:i<x.args.length
    ·obtain⟨vb,vc,csv,Tv,hvv,hvz,hTv,_,hV,_,_,haV,_⟩:=HXs.out.focus zT (by omega) hil
     obtain⟨rfl,rfl⟩:qx=some ⟨vb,0,none⟩∧cx=vc:=by injection hvv with h1 _ h2;exact⟨h1,h2⟩
     obtain⟨hfE,va2⟩:=hV
     subst hfE
     have hvr:=HR4.out vb hTv
     have va0:wr.cell? ⟨vb,i*2,none⟩=some (.bool x.args[i].1):=(World.cell?_of_block (a:=⟨vb,i*2,none⟩) hvr).trans (haV 0 (by omega))
     have va1:wr.cell? ⟨vb,i*2+1,none⟩=some (.int .i64 x.args[i].2):=(World.cell?_of_block (a:=⟨vb,i*2+1,none⟩) hvr).trans (haV 1 (by omega))
     have vz:=q8 va0
     have HMs:=q7 (XX (R:=f.regs) hil)
     have hw2:IntKind.i64.wrap (f.regs+(i:Int))=f.regs+(i:Int):=by have:=HAp.out.1;rw[IntKind.wrap_i64];omega
     have i0:(0:Int)≤(i:Int):=by omega
     have i1:(i:Int)<x.args.length:=by omega
     have HTv:=q7 (And.intro hTv hvz)
     obtain⟨av,hav⟩:∃av,av=x.args[i]:=⟨_,rfl⟩
     rw[←hav]at va0 va1 va2 HMs
     clear hav hvv hTv hvz haV hvr
     go_wp2_with fail
     have h0:=HS.out.2.2.1.cell (j:=1) (by omega)
     have hlen:(ini++xU f.regs (x.args.take i)).length=ini.length+i:=by simp only[List.length_append,vK,List.length_take]<;>omega
     have HLen:=q7 hlen
     obtain⟨b1,b2,b3⟩:=h0
     have b1:wr.cell? ⟨B,j*6+1,none⟩=some (.slice pp (ini++xU f.regs (x.args.take i)).length cc):=b1
     have HF:=q7 (And.intro b1 (And.intro b2 (And.intro r2 (And.intro r3 (And.intro va0 va1)))))
     clear hlen
     have hSp:∀w',SameAt wr [B,g,X,vb] w'→w'.cell? ⟨B,j*6+1,none⟩=some (.slice pp (ini++xU f.regs (x.args.take i)).length cc)∧w'.frozen? ⟨B,j*6+1,none⟩=false∧B<w'.heap.size∧w'.cell? ⟨g,k*4+2,none⟩=some (.int .i64 f.regs)∧g<w'.heap.size∧w'.cell? ⟨X,7,none⟩=some (.slice (some ⟨vb,0,none⟩) x.args.length cx)∧X<w'.heap.size∧w'.cell? ⟨vb,i*2,none⟩=some (.bool av.1)∧w'.cell? ⟨vb,i*2+1,none⟩=some (.int .i64 av.2)∧vb<w'.heap.size:=fun w' h=>by
      obtain⟨a1,a2⟩:=h.cell (by simp) b1
      obtain⟨a3,a4⟩:=h.cell (by simp) r2
      obtain⟨a5,a6⟩:=h.cell (by simp) r3
      obtain⟨a7,a8⟩:=h.cell (by simp) va0
      exact⟨a1,(World.frozen?_of_block (a:=⟨B,j*6+1,none⟩) (h.2 B (by simp))).trans b2,a2,a3,a4,a5,a6,a7,(h.cell (by simp) va1).1,a8⟩
     have hS0:=SameAt.same wr [B,g,X,vb]
     have hnU:∀b,b∈[B,g,X,vb]→¬ SL b∧b<wr.heap.size:=fun b hb=>by
      have hlz:=HS.out.2.2.2.size
      have key:b<wl.heap.size∧¬ (Sl b∧¬ T b):=by
       simp only[List.mem_cons,List.not_mem_nil,or_false]at hb
       rcases hb with rfl|rfl|rfl|rfl
       ·exact⟨u1z,HG2.out⟩
       ·exact⟨Nat.lt_of_lt_of_le fz HKl.out.size,HNg.out⟩
       ·exact⟨HXz.out,HNX.out⟩
       exact⟨HTv.out.2,fun h=>h.2 HTv.out.1⟩
      exact⟨fun h=>(HS.out.2.1 b h).elim key.2 fun h=>by omega,by omega⟩
     refine qm (S:=SameAt wr [B,g,X,vb]) (by kernel_rfl) 21 ?_
     refine tkZ 0 94 (.pointer (some ⟨B,j*6,none⟩)) rfl rfl hS0 (fun w' h=>by
      obtain⟨s1,s2,s3,s4,s5,s6,s7,s8,s9,s10⟩:=hSp w' h
      go_simp) ?_
     refine tkZ 1 95 (.pointer (some ⟨B,j*6,none⟩)) rfl rfl hS0 (fun w' h=>by
      obtain⟨s1,s2,s3,s4,s5,s6,s7,s8,s9,s10⟩:=hSp w' h
      go_simp) ?_
     refine tkZ 2 96 (.pointer (some ⟨B,j*6,none⟩)) rfl rfl hS0 (fun w' h=>by
      obtain⟨s1,s2,s3,s4,s5,s6,s7,s8,s9,s10⟩:=hSp w' h
      go_simp) ?_
     refine tkZ 3 97 (.pointer (some ⟨B,j*6+1,none⟩)) rfl rfl hS0 (fun w' h=>by
      obtain⟨s1,s2,s3,s4,s5,s6,s7,s8,s9,s10⟩:=hSp w' h
      go_simp) ?_
     refine tkZ 4 98 (.slice pp (ini++xU f.regs (x.args.take i)).length cc) rfl rfl hS0 (fun w' h=>by
      obtain⟨s1,s2,s3,s4,s5,s6,s7,s8,s9,s10⟩:=hSp w' h
      go_simp) ?_
     refine tkZ 5 99 (.pointer (some ⟨g,k*4,none⟩)) rfl rfl hS0 (fun w' h=>by
      obtain⟨s1,s2,s3,s4,s5,s6,s7,s8,s9,s10⟩:=hSp w' h
      go_simp) ?_
     refine tkZ 6 100 (.pointer (some ⟨g,k*4,none⟩)) rfl rfl hS0 (fun w' h=>by
      obtain⟨s1,s2,s3,s4,s5,s6,s7,s8,s9,s10⟩:=hSp w' h
      go_simp) ?_
     refine tkZ 7 101 (.pointer (some ⟨g,k*4+2,none⟩)) rfl rfl hS0 (fun w' h=>by
      obtain⟨s1,s2,s3,s4,s5,s6,s7,s8,s9,s10⟩:=hSp w' h
      go_simp) ?_
     refine tkZ 8 102 (.int .i64 f.regs) rfl rfl hS0 (fun w' h=>by
      obtain⟨s1,s2,s3,s4,s5,s6,s7,s8,s9,s10⟩:=hSp w' h
      go_simp) ?_
     refine tkZ 9 103 (.int .i64 i) rfl rfl hS0 (fun w' h=>by
      obtain⟨s1,s2,s3,s4,s5,s6,s7,s8,s9,s10⟩:=hSp w' h
      go_simp) ?_
     refine tkZ 10 104 (.int .i64 (f.regs+(i:Int))) rfl rfl hS0 (fun w' h=>by
      obtain⟨s1,s2,s3,s4,s5,s6,s7,s8,s9,s10⟩:=hSp w' h
      go_simp) ?_
     refine tkZ 11 105 (.pointer (some ⟨X,7,none⟩)) rfl rfl hS0 (fun w' h=>by
      obtain⟨s1,s2,s3,s4,s5,s6,s7,s8,s9,s10⟩:=hSp w' h
      go_simp) ?_
     refine tkZ 12 106 (.slice (some ⟨vb,0,none⟩) x.args.length cx) rfl rfl hS0 (fun w' h=>by
      obtain⟨s1,s2,s3,s4,s5,s6,s7,s8,s9,s10⟩:=hSp w' h
      go_simp) ?_
     refine tkZ 13 107 (.int .i64 i) rfl rfl hS0 (fun w' h=>by
      obtain⟨s1,s2,s3,s4,s5,s6,s7,s8,s9,s10⟩:=hSp w' h
      go_simp) ?_
     refine tkZ 14 108 (.pointer (some ⟨vb,i*2,none⟩)) rfl rfl hS0 (fun w' h=>by
      obtain⟨s1,s2,s3,s4,s5,s6,s7,s8,s9,s10⟩:=hSp w' h
      go_simp) ?_
     refine tkZ 15 109 (.agg #[.bool av.1,.int .i64 av.2]) rfl rfl hS0 (fun w' h=>by
      obtain⟨s1,s2,s3,s4,s5,s6,s7,s8,s9,s10⟩:=hSp w' h
      go_simp) ?_
     refine tkZ 16 110 (.agg #[.int .i64 1,.int .i64 (f.regs+(i:Int)),.bool av.1,.int .i64 av.2,.bool false,.int .i64 0,.int .i64 0,.slice none 0 0]) rfl rfl hS0 (fun w' h=>by
      obtain⟨s1,s2,s3,s4,s5,s6,s7,s8,s9,s10⟩:=hSp w' h
      go_simp) ?_
     have hS8:SameAt wr [B,g,X,vb] (wr.drew.alloc (.cells #[.int .i64 1,.int .i64 (f.regs+(i:Int)),.bool av.1,.int .i64 av.2,.bool false,.int .i64 0,.int .i64 0,.slice none 0 0] 53)):=hS0.kept ((Kept.refl (fun _=>False) _).alloc _) (fun b hb=>⟨fun h=>h,(hnU b hb).2⟩)
     refine qk (i:=17) (by kernel_rfl) (qn 111 (.slice (some ⟨wr.heap.size,0,none⟩) 1 1) (wr.drew.alloc (.cells #[.int .i64 1,.int .i64 (f.regs+(i:Int)),.bool av.1,.int .i64 av.2,.bool false,.int .i64 0,.int .i64 0,.slice none 0 0] 53)) rfl rfl rfl (by go_simp) hS8 ?_)
     have hay:Below wr.heap.size wr (wr.drew.alloc (.cells #[.int .i64 1,.int .i64 (f.regs+(i:Int)),.bool av.1,.int .i64 av.2,.bool false,.int .i64 0,.int .i64 0,.slice none 0 0] 53)):=(Below.refl _ wr).drew.alloc (Nat.le_refl _) _
     refine qk (i:=18) (by kernel_rfl) (zx 112 _ _ 41 rfl rfl rfl rfl 53 iI _ 8 80 Tryz.underlying41 l1 l2 l3 l4 rfl (by decide) qH (by go_simp) (HS.out.1.below qH hay) ⟨wr.heap.size,0,none⟩ 1 (cpyC (f.regs+(i:Int)) av) (Q4 (f.regs+(i:Int)) av) (by go_simp) rfl ?hn (Qj _ _) (T:=fun _=>False) (Qi _ ?hd ?hv) ?ha ?ht ?hm ?hb ?_)
     case hn=>exact qS _ _ _ rfl
     case hd=>have:=HAp.out.1;unfold I64;omega
     case hv=>exact va2
     case ha=>exact fun k h1 h2=>h2
     case ht=>exact fun k h=>h.elim
     case hm=>have:=HAp.out.1;rw[HLen.out];unfold maxLen;omega
     case hb=>have:=HAp.out.1;rw[HLen.out];omega
     intro v' w8 hsn
     obtain⟨pv,cv,SL',hv8,h8g,hK8,hs8⟩:=HS.out.add u1z HG2.out hay hsn
     subst hv8
     have hS9:SameAt wr [B,g,X,vb] w8:=hS8.kept hK8 hnU
     refine⟨hS9,?_⟩
     refine qk (i:=19) (by kernel_rfl) (qn 113 (.pointer (some ⟨B,j*6,none⟩)) w8 rfl rfl rfl (by go_simp) hS9 ?_)
     refine qk (i:=20) (by kernel_rfl) (qn 114 (.pointer (some ⟨B,j*6+1,none⟩)) w8 rfl rfl rfl (by go_simp) hS9 ?_)
     obtain⟨s1,s2,s3,s4,s5,s6,s7,s8,s9,s10⟩:=hSp w8 hS9
     refine qk (i:=21) (by kernel_rfl) (qz (w8.setCell ⟨B,j*6+1,none⟩ (.slice pv (ini++xU f.regs (x.args.take i)++[Q4 (f.regs+(i:Int)) av]).length cv)) rfl rfl rfl (by go_simp) (fun h=>absurd rfl h) (qB (by kernel_rfl) ?_ _))
     show Exit.inBlock 5 _ Exit.normal _ _
     obtain⟨w9,hw9⟩:∃w9,w9=w8.setCell ⟨B,j*6+1,none⟩ (.slice pv (ini++xU f.regs (x.args.take i)++[Q4 (f.regs+(i:Int)) av]).length cv):=⟨_,rfl⟩
     rw[←hw9]at hs8 ⊢
     have hs9:∃(pp:Option Addr) (cc:Nat) (SL:Blks),LstS wq wl w9 B (j*6) (fun b=>Sl b∧¬ T b) (.slice qp bk.phis.length cp) (.slice q3 bk.fin.to.length c3) bk.fin (ini++(xU f.regs (x.args.take (i+1)))) pp cc SL:=by
      rw[HMs.out,←List.append_assoc]
      exact⟨_,_,_,hs8⟩
     have HS9:=q7 hs9
     clear hw9 hs9 hs8 hsn hK8 h8g hS9 hS8 hS0 hay s1 s2 s3 s4 s5 s6 s7 s8 s9 s10 hSp hnU b1 b2 b3 r1 r2 r3
     go_wp2_with fail
     go_roundg (x.args.length - (i+1))
     case measure=>omega
     case rel=>
      obtain⟨pp',cc',SL9,h9⟩:=HS9.out
      exact⟨i+1,pp',cc',SL9,by omega,rfl,by go_num,h9⟩
    obtain rfl:i=x.args.length:=by omega
    have hs:=HS.out
    rw[List.take_of_length_le (Nat.le_refl _)]at hs
    have hs0:LstS wq wl wr B (j*6) (fun b=>Sl b∧¬ T b) (.slice qp bk.phis.length cp) (.slice q3 bk.fin.to.length c3) bk.fin (ini++(xU f.regs x.args++kb f.regs 0)) pp cc SL:=by
     rw[show kb f.regs 0=[]from rfl,List.append_nil]
     exact hs
    have HS0:=q7 hs0
    clear hs hs0 HS
    go_wp2_with fail
    go_loopg [11] x.args.length (fun q s wr=>∃(i:Nat) (pp:Option Addr) (cc:Nat) (SL:Blks),i≤x.args.length∧q=x.args.length - i∧s = .int .i64 i∧LstS wq wl wr B (j*6) (fun b=>Sl b∧¬ T b) (.slice qp bk.phis.length cp) (.slice q3 bk.fin.to.length c3) bk.fin (ini++(xU f.regs x.args++kb f.regs i)) pp cc SL)
    case atStart=>exact⟨0,_,_,_,by omega,rfl,rfl,HS0.out⟩
    case round=>
     obtain⟨i,pp,cc,SL,hi,rfl,rfl,hs⟩:=hrel
     obtain⟨r1,r2,r3,_⟩:=HRg.out _ hs.2.2.2
     have rz:=q8 r1
     have HS:=q7 hs
     clear hs HS0
     by_cases hil:i<x.args.length
     rotate_left
     ·obtain rfl:i=x.args.length:=by omega
      have hBr:=HS.out.2.2.1.cell (j:=0) (by omega)
      have hBz:=hBr.2.2
      obtain⟨t2,y2,_⟩:=HS.out.2.2.1.cell (j:=2) (by omega)
      obtain⟨t3,y3,_⟩:=HS.out.2.2.1.cell (j:=3) (by omega)
      obtain⟨t4,y4,_⟩:=HS.out.2.2.1.cell (j:=4) (by omega)
      obtain⟨t5,y5,_⟩:=HS.out.2.2.1.cell (j:=5) (by omega)
      have p3:j*6+3=j*6+2+1:=by omega
      have p4:j*6+4=j*6+2+2:=by omega
      have p5:j*6+5=j*6+2+3:=by omega
      rw[p3]at t3 y3
      rw[p4]at t4 y4
      rw[p5]at t5 y5
      simp only[List.getElem?_cons_zero,List.getElem?_cons_succ]at t2 t3 t4 t5
      have heM:∀WF,WF=((((wr.setCell ⟨B,j*6+2,none⟩ (.int .i64 2)).setCell ⟨B,j*6+2+1,none⟩ (.bool false)).setCell ⟨B,j*6+2+2,none⟩ (.int .i64 0)).setCell ⟨B,j*6+2+3,none⟩ (.slice (some ⟨wr.heap.size,0,none⟩) 1 1)).alloc (.cells #[.int .i64 f.blocks.length] 3)→∃S'',SlO 48 6 BlkO WF (.slice (some ⟨B,0,none⟩) f.blocks.length cb) (zd (j+1) (Q0 k f.regs f.blocks.length) f.blocks) S''∧(∀b,S'' b→TB b∨wo.heap.size≤b)∧Kept TB wo WF:=fun WF hWF=>by
       obtain⟨lL,lS,lR,lK⟩:=HS.out
       have hz1:=HKl.out.size
       have hz2:=lK.size
       have hA1:Kept (fun b=>b=B) wr WF:=by
        rw[hWF]
        exact(((((Kept.refl (fun b=>b=B) wr).setCell (p:=⟨B,j*6+2,none⟩) rfl _).setCell (p:=⟨B,j*6+2+1,none⟩) rfl _).setCell (p:=⟨B,j*6+2+2,none⟩) rfl _).setCell (p:=⟨B,j*6+2+3,none⟩) rfl _).alloc _
       have hRP:RowPut wq WF 48 B (j*6) 6 [.slice qp bk.phis.length cp,.slice pp (ini++(xU f.regs x.args++kb f.regs x.args.length)).length cc,.int .i64 2,.bool false,.int .i64 0,.slice (some ⟨wr.heap.size,0,none⟩) 1 1]:=by
        rw[hWF,←p3,←p4,←p5]
        have h2:=RowPut.set lR rfl (j:=2) (by omega) (.int .i64 2)
        have h3:=RowPut.set h2 rfl (j:=3) (by omega) (.bool false)
        have h4:=RowPut.set h3 rfl (j:=4) (by omega) (.int .i64 0)
        exact(RowPut.set h4 rfl (j:=5) (by omega) (.slice (some ⟨wr.heap.size,0,none⟩) 1 1)).of_block (Below.heap_alloc _ _ B (by simp only[Go.Deep.nblk_setCell];exact hBz))
       have hN:WF.heap[wr.heap.size]?=some (.cells #[.int .i64 f.blocks.length] 3 (0,0)):=by
        rw[hWF]
        exact qh (by simp only[Go.Deep.nblk_setCell])
       have hsq:∀b,SL b→b≠B:=fun b hb e=>(lS b hb).elim (fun h=>HG2.out (e ▸ h)) fun h=>by omega
       have hKq:Kept (fun b=>Sl b∨b=B) wq WF:=((HKl.out.mono fun _ _ h=>h.elim).trans lK (fun _ _ h=>h.imp (fun h=>h.1) id)).trans hA1 (fun _ _ h=>.inr h)
       have hu:Q0 k f.regs f.blocks.length bk=⟨bk.phis,ini++(xU f.regs x.args++kb f.regs x.args.length),⟨2,false,0,[(f.blocks.length:Int)]⟩⟩:=by
        unfold Q0
        rw[HHx.out.1]
        simp only
        rw[←HHx.out.2.1,XW]
       have hput:=hkH.out WF (ini++(xU f.regs x.args++kb f.regs x.args.length)) [(f.blocks.length:Int)] _ _ SL (fun b=>b=wr.heap.size) hRP rfl rfl hKq.size (fun b h1 h2 h3=>hKq.block b (HS'.out.inb b h1) (fun h=>h.elim h2 h3)) ⟨lL.loc qH (fun b hb=>hA1.block b (lL.inb b hb) (hsq b hb)) hA1.size,by
         simp only[List.length_append,vK,Qh]
         unfold reachBytes
         omega⟩ ⟨VB (by unfold I64;omega) hN,by unfold reachBytes;simp⟩ (fun b hb=>(lS b hb).imp (fun h=>h.1) (fun h=>by omega)) (fun b hb=>by(have hb:b=wr.heap.size:=hb);omega) (fun b h1 h2=>by(have h2:b=wr.heap.size:=h2);have:=lL.inb b h1;omega)
       rw[←hu,HSu.out]at hput
       refine⟨_,hput,fun b hb=>?_,HK.out.trans hKq fun b hlb hb=>?_⟩
       ·rcases hb with h|h|h
        ·exact haf.out b h
        ·rcases lS b h with h|h
         ·exact haf.out b (HSl.out.2.2 b h.1)
         exact .inr (by omega)
        exact .inr (by omega)
       rcases hb with h|h
       ·rcases haf.out b (HSl.out.2.2 b h)with h|h
        ·exact h
        omega
       exact h ▸ HBT.out
      have hgM:=q7 heM
      clear heM hBr p3 p4 p5
      go_wp2_with fail
      go_roundg (f.blocks.length - (j+1))
      case measure=>omega
      case rel=>
       obtain⟨S'',h1,h2,h3⟩:=hgM.out _ rfl
       exact⟨j+1,S'',by omega,rfl,by go_num,h1,h2,h3⟩
     have hw2:IntKind.i64.wrap (f.regs+(i:Int))=f.regs+(i:Int):=by rw[IntKind.wrap_i64];omega
     go_wp2_with fail
     have h0:=HS.out.2.2.1.cell (j:=1) (by omega)
     have hlen:(ini++(xU f.regs x.args++kb f.regs i)).length=ini.length+x.args.length+i:=by simp only[List.length_append,vK,Qh]<;>omega
     have HLen:=q7 hlen
     obtain⟨b1,b2,b3⟩:=h0
     have b1:wr.cell? ⟨B,j*6+1,none⟩=some (.slice pp (ini++(xU f.regs x.args++kb f.regs i)).length cc):=b1
     have HF:=q7 (And.intro b1 (And.intro b2 r2))
     clear hlen
     have hSp:∀w',SameAt wr [B,g] w'→w'.cell? ⟨B,j*6+1,none⟩=some (.slice pp (ini++(xU f.regs x.args++kb f.regs i)).length cc)∧w'.frozen? ⟨B,j*6+1,none⟩=false∧B<w'.heap.size∧w'.cell? ⟨g,k*4+2,none⟩=some (.int .i64 f.regs)∧g<w'.heap.size:=fun w' h=>by
      obtain⟨a1,a2⟩:=h.cell (by simp) b1
      obtain⟨a3,a4⟩:=h.cell (by simp) r2
      exact⟨a1,(World.frozen?_of_block (a:=⟨B,j*6+1,none⟩) (h.2 B (by simp))).trans b2,a2,a3,a4⟩
     have hS0:=SameAt.same wr [B,g]
     have hnU:∀b,b∈[B,g]→¬ SL b∧b<wr.heap.size:=fun b hb=>by
      have hlz:=HS.out.2.2.2.size
      have key:b<wl.heap.size∧¬ (Sl b∧¬ T b):=by
       simp only[List.mem_cons,List.not_mem_nil,or_false]at hb
       rcases hb with rfl|rfl
       ·exact⟨u1z,HG2.out⟩
       exact⟨Nat.lt_of_lt_of_le fz HKl.out.size,HNg.out⟩
      exact⟨fun h=>(HS.out.2.1 b h).elim key.2 fun h=>by omega,by omega⟩
     refine qm (S:=SameAt wr [B,g]) (by kernel_rfl) 18 ?_
     refine tkZ 0 123 (.pointer (some ⟨B,j*6,none⟩)) rfl rfl hS0 (fun w' h=>by
      obtain⟨s1,s2,s3,s4,s5⟩:=hSp w' h
      go_simp) ?_
     refine tkZ 1 124 (.pointer (some ⟨B,j*6,none⟩)) rfl rfl hS0 (fun w' h=>by
      obtain⟨s1,s2,s3,s4,s5⟩:=hSp w' h
      go_simp) ?_
     refine tkZ 2 125 (.pointer (some ⟨B,j*6,none⟩)) rfl rfl hS0 (fun w' h=>by
      obtain⟨s1,s2,s3,s4,s5⟩:=hSp w' h
      go_simp) ?_
     refine tkZ 3 126 (.pointer (some ⟨B,j*6+1,none⟩)) rfl rfl hS0 (fun w' h=>by
      obtain⟨s1,s2,s3,s4,s5⟩:=hSp w' h
      go_simp) ?_
     refine tkZ 4 127 (.slice pp (ini++(xU f.regs x.args++kb f.regs i)).length cc) rfl rfl hS0 (fun w' h=>by
      obtain⟨s1,s2,s3,s4,s5⟩:=hSp w' h
      go_simp) ?_
     refine tkZ 5 128 (.int .i64 i) rfl rfl hS0 (fun w' h=>by
      obtain⟨s1,s2,s3,s4,s5⟩:=hSp w' h
      go_simp) ?_
     refine tkZ 6 129 (.pointer (some ⟨g,k*4,none⟩)) rfl rfl hS0 (fun w' h=>by
      obtain⟨s1,s2,s3,s4,s5⟩:=hSp w' h
      go_simp) ?_
     refine tkZ 7 130 (.pointer (some ⟨g,k*4,none⟩)) rfl rfl hS0 (fun w' h=>by
      obtain⟨s1,s2,s3,s4,s5⟩:=hSp w' h
      go_simp) ?_
     refine tkZ 8 131 (.pointer (some ⟨g,k*4+2,none⟩)) rfl rfl hS0 (fun w' h=>by
      obtain⟨s1,s2,s3,s4,s5⟩:=hSp w' h
      go_simp) ?_
     refine tkZ 9 132 (.int .i64 f.regs) rfl rfl hS0 (fun w' h=>by
      obtain⟨s1,s2,s3,s4,s5⟩:=hSp w' h
      go_simp) ?_
     refine tkZ 10 133 (.int .i64 i) rfl rfl hS0 (fun w' h=>by
      obtain⟨s1,s2,s3,s4,s5⟩:=hSp w' h
      go_simp) ?_
     refine tkZ 11 134 (.int .i64 (f.regs+(i:Int))) rfl rfl hS0 (fun w' h=>by
      obtain⟨s1,s2,s3,s4,s5⟩:=hSp w' h
      go_simp) ?_
     refine tkZ 12 135 (.agg #[.bool true,.int .i64 (f.regs+(i:Int))]) rfl rfl hS0 (fun w' h=>by
      obtain⟨s1,s2,s3,s4,s5⟩:=hSp w' h
      go_simp) ?_
     refine tkZ 13 136 (.agg #[.int .i64 1,.int .i64 i,.bool true,.int .i64 (f.regs+(i:Int)),.bool false,.int .i64 0,.int .i64 0,.slice none 0 0]) rfl rfl hS0 (fun w' h=>by
      obtain⟨s1,s2,s3,s4,s5⟩:=hSp w' h
      go_simp) ?_
     have hS8:SameAt wr [B,g] (wr.drew.alloc (.cells #[.int .i64 1,.int .i64 i,.bool true,.int .i64 (f.regs+(i:Int)),.bool false,.int .i64 0,.int .i64 0,.slice none 0 0] 53)):=hS0.kept ((Kept.refl (fun _=>False) _).alloc _) (fun b hb=>⟨fun h=>h,(hnU b hb).2⟩)
     refine qk (i:=14) (by kernel_rfl) (qn 137 (.slice (some ⟨wr.heap.size,0,none⟩) 1 1) (wr.drew.alloc (.cells #[.int .i64 1,.int .i64 i,.bool true,.int .i64 (f.regs+(i:Int)),.bool false,.int .i64 0,.int .i64 0,.slice none 0 0] 53)) rfl rfl rfl (by go_simp) hS8 ?_)
     have hay:Below wr.heap.size wr (wr.drew.alloc (.cells #[.int .i64 1,.int .i64 i,.bool true,.int .i64 (f.regs+(i:Int)),.bool false,.int .i64 0,.int .i64 0,.slice none 0 0] 53)):=(Below.refl _ wr).drew.alloc (Nat.le_refl _) _
     refine qk (i:=15) (by kernel_rfl) (zx 138 _ _ 41 rfl rfl rfl rfl 53 iI _ 8 80 Tryz.underlying41 l1 l2 l3 l4 rfl (by decide) qH (by go_simp) (HS.out.1.below qH hay) ⟨wr.heap.size,0,none⟩ 1 (cpyC (i:Int) (true,f.regs+(i:Int))) (Q4 (i:Int) (true,f.regs+(i:Int))) (by go_simp) rfl ?hn (Qj _ _) (T:=fun _=>False) (Qi _ ?hd ?hv) ?ha ?ht ?hm ?hb ?_)
     case hn=>exact qS _ _ _ rfl
     case hd=>unfold I64;omega
     case hv=>unfold I64;simp only;omega
     case ha=>exact fun k h1 h2=>h2
     case ht=>exact fun k h=>h.elim
     case hm=>have:=HAp.out.1;rw[HLen.out];unfold maxLen;omega
     case hb=>have:=HAp.out.1;rw[HLen.out];omega
     intro v' w8 hsn
     obtain⟨pv,cv,SL',hv8,h8g,hK8,hs8⟩:=HS.out.add u1z HG2.out hay hsn
     subst hv8
     have hS9:SameAt wr [B,g] w8:=hS8.kept hK8 hnU
     refine⟨hS9,?_⟩
     refine qk (i:=16) (by kernel_rfl) (qn 139 (.pointer (some ⟨B,j*6,none⟩)) w8 rfl rfl rfl (by go_simp) hS9 ?_)
     refine qk (i:=17) (by kernel_rfl) (qn 140 (.pointer (some ⟨B,j*6+1,none⟩)) w8 rfl rfl rfl (by go_simp) hS9 ?_)
     obtain⟨s1,s2,s3,s4,s5⟩:=hSp w8 hS9
     refine qk (i:=18) (by kernel_rfl) (qz (w8.setCell ⟨B,j*6+1,none⟩ (.slice pv (ini++(xU f.regs x.args++kb f.regs i)++[Q4 (i:Int) (true,f.regs+(i:Int))]).length cv)) rfl rfl rfl (by go_simp) (fun h=>absurd rfl h) (qB (by kernel_rfl) ?_ _))
     show Exit.inBlock 7 _ Exit.normal _ _
     obtain⟨w9,hw9⟩:∃w9,w9=w8.setCell ⟨B,j*6+1,none⟩ (.slice pv (ini++(xU f.regs x.args++kb f.regs i)++[Q4 (i:Int) (true,f.regs+(i:Int))]).length cv):=⟨_,rfl⟩
     rw[←hw9]at hs8 ⊢
     have hs9:∃(pp:Option Addr) (cc:Nat) (SL:Blks),LstS wq wl w9 B (j*6) (fun b=>Sl b∧¬ T b) (.slice qp bk.phis.length cp) (.slice q3 bk.fin.to.length c3) bk.fin (ini++(xU f.regs x.args++kb f.regs (i+1))) pp cc SL:=by
      rw[XY,←List.append_assoc (xU f.regs x.args),←List.append_assoc ini]
      exact⟨_,_,_,hs8⟩
     have HS9:=q7 hs9
     clear hw9 hs9 hs8 hsn hK8 h8g hS9 hS8 hS0 hay s1 s2 s3 s4 s5 hSp hnU b1 b2 b3 r1 r2 r3
     go_wp2_with fail
     go_roundg (x.args.length - (i+1))
     case measure=>omega
     case rel=>
      obtain⟨pp',cc',SL9,h9⟩:=HS9.out
      exact⟨i+1,pp',cc',SL9,by omega,rfl,by go_num,h9⟩
end Go.Proofs.YtecdphhdmjmmnaaGreatDoor
