/-
  The contracts of the closures of args.takes, and of slices.IndexFunc and slices.ContainsFu
-/
import Derived.Test.YtgjjhadbjmcnpaaGreatDoorJArgH
set_option maxRecDepth 100000
set_option maxHeartbeats 16000000
namespace Go.Proofs.YtgjjhadbjmcnpaaGreatDoor
open Go.RowKit

theorem SlW.glue {α:Type} {e:TypeId} {size:Nat} {R:ElemO α} {W W2:World} {v1 v2 v':Value} {xs1 xs2:List α} {S1 S2:Blks} {cs1 cs2:Nat→List Value} {T1 T2:Nat→Blks} (hR:vS R) (h1:SlW e size R W v1 xs1 S1 cs1 T1) (h2:SlW e size R W v2 xs2 S2 cs2 T2)
  (h0:∀i,i<xs1.length→∀k,¬ T1 i k) (hk:∀k,S2 k→W2.heap[k]?=W.heap[k]?) (hs:W.heap.size≤W2.heap.size) (ho:W2.ownsRow W.heap.size e size v' (xs1.length+xs2.length) ((List.range xs1.length).flatMap cs1++(List.range xs2.length).flatMap cs2)) :
  SlO e size R W2 v' (xs1++xs2) (fun k=>S2 k∨(W.heap.size≤k∧k<W2.heap.size)):=by
 have hlow:∀g,v'.ownBlock=some g→W.heap.size≤g∧g<W2.heap.size:=fun g hg=>by
  rcases ho.2 with ⟨rfl,_⟩|⟨g',cap,cur,rfl,hb,hc,_⟩
  ·cases hg
  have e:g'=g:=by simpa [Value.ownBlock] using hg
  subst e
  exact ⟨hb,qd hc⟩
 have hl:(xs1++xs2).length=xs1.length+xs2.length:=List.length_append
 have hfK:(List.range (xs1++xs2).length).flatMap (fun i=>if i<xs1.length then cs1 i else cs2 (i - xs1.length))=(List.range xs1.length).flatMap cs1++(List.range xs2.length).flatMap cs2:=by
  rw [hl,List.range_add,List.flatMap_append,List.flatMap_map]
  congr 1
  ·rw [List.flatMap_def,List.flatMap_def,List.map_congr_left fun i hi=>if_pos (List.mem_range.1 hi)]
  rw [List.flatMap_def,List.flatMap_def,List.map_congr_left fun i _=>by rw [if_neg (by omega:¬ xs1.length+i<xs1.length),Nat.add_sub_cancel_left]]
 refine ⟨fun i=>if i<xs1.length then cs1 i else cs2 (i - xs1.length),fun i=>if i<xs1.length then T1 i else T2 (i - xs1.length),⟨?_,?_⟩,fun i hi=>?_,fun i hi=>?_,fun i hi=>?_,fun i j hi hj hij=>?_,fun i hi g hg=>?_,fun g hg=>.inr (hlow g hg),fun i hi=>?_,fun k hk=>?_⟩
 ·rw [hfK,hl];exact ho.1
 ·rw [hfK,hl]
  rcases ho.2 with h|⟨g,cap,cur,hv,_,r⟩
  ·exact .inl h
  exact .inr ⟨g,cap,cur,hv,Nat.zero_le _,r⟩
 ·split
  ·next h=>exact h1.len i h
  exact h2.len _ (by omega)
 ·split
  ·next h=>exact h1.one i h
  exact h2.one _ (by omega)
 ·split
  ·next h=>
   rw [List.getElem_append_left h]
   exact hR _ _ _ _ _ (h1.el i h) (fun k hk2=>(h0 i h k hk2).elim) hs
  next h=>
  rw [List.getElem_append_right (by omega)]
  exact hR _ _ _ _ _ (h2.el _ (by omega)) (fun k hk2=>hk k (h2.sub _ (by omega) k hk2)) hs
 ·split<;>split
  ·next a b=>exact h1.two i j a b hij
  ·next a b=>exact fun k x y=>h0 _ a k x
  ·next a b=>exact fun k x y=>h0 _ b k y
  next a b=>exact h2.two _ _ (by omega) (by omega) (by omega)
 ·have:=(hlow g hg).1
  split
  ·next a=>exact fun h=>h0 _ a g h
  next a=>exact fun h=>by have:=h2.inb g (h2.sub _ (by omega) g h);omega
 ·split
  ·next a=>exact fun k h=>(h0 _ a k h).elim
  next a=>exact fun k h=>.inl (h2.sub _ (by omega) k h)
 rcases hk with h|h
 ·have:=h2.inb k h;omega
 exact h.2
structure RowX (W:World) (v:Value) (n:Nat) (X:List Value):Prop where
 len:X.length=n*8
 one:∀u∈X,u.oneCell'=true
 val:∃q c,v = .slice q n c∧(q=none→n=0)∧∀a,q=some a→∀j u,X[j]?=some u→W.cell? (a.add j)=some u
theorem SlW.rowX {α:Type} {e:TypeId} {R:ElemO α} {W:World} {v:Value} {xs:List α} {S:Blks} {cs:Nat→List Value} {T:Nat→Blks} (h:SlW e 8 R W v xs S cs T):RowX W v xs.length ((List.range xs.length).flatMap cs):=by
 refine ⟨h.own.1,fun u hu=>?_,?_⟩
 ·obtain ⟨i,hi,hu⟩:=List.mem_flatMap.1 hu
  exact h.one i (List.mem_range.1 hi) u hu
 rcases h.own.2 with ⟨h1,h2⟩|⟨g,cap,cur,hv,r⟩
 ·exact ⟨none,0,by rw [h1,h2],fun _=>h2,fun a ha=>by cases ha⟩
 refine ⟨some ⟨g,0,none⟩,cap,hv,fun h=>(by cases h),fun a ha j u hu=>?_⟩
 cases ha
 exact h.own.cells (g:=g) (by rw [hv];rfl) j u hu
structure HeadR (W:World) (B:Nat) (hv:Value) (hd:List InsL):Prop where
 own:W.ownsRow B 51 8 hv hd.length (hd.flatMap fun x=>XF x (.slice none 0 0))
 ins:∀x∈hd,Ins64 x∧x.args=[]
theorem HeadR.slW {W:World} {B:Nat} {hv:Value} {hd:List InsL} (h:HeadR W B hv hd):SlW 51 8 InsO W hv hd (fun b=>hv.ownBlock=some b) (fun i=>XF (hd.getD i (Je 0 0)) (.slice none 0 0)) (fun _ _=>False):=by
 have hfl:(List.range hd.length).flatMap (fun i=>XF (hd.getD i (Je 0 0)) (.slice none 0 0))=hd.flatMap fun x=>XF x (.slice none 0 0):=by
  rw [List.flatMap_def,List.flatMap_def]
  congr 1
  refine List.ext_getElem (by simp) fun i h1 h2=>?_
  have h3:i<hd.length:=by simpa using h2
  simp [List.getD,h3]
 refine ⟨?_,fun i hi=>rfl,fun i hi u hu=>?_,fun i hi=>?_,fun i j _ _ _ k h=>h.elim,fun i hi g _ h=>h,fun g hg=>hg,fun i hi k h=>h.elim,fun b hb=>?_⟩
 ·rw [hfl]
  refine ⟨h.own.1,?_⟩
  rcases h.own.2 with h|⟨g,cap,cur,hv,_,r⟩
  ·exact .inl h
  exact .inr ⟨g,cap,cur,hv,Nat.zero_le _,r⟩
 ·simp only [XF,List.mem_cons,List.not_mem_nil,or_false] at hu
  rcases hu with rfl|rfl|rfl|rfl|rfl|rfl|rfl|rfl<;>rfl
 ·have e:hd.getD i (Je 0 0)=hd[i]:=by simp [List.getD,hi]
  rw [e]
  obtain ⟨h1,h2⟩:=h.ins _ (List.getElem_mem hi)
  exact ⟨_,rfl,h1.op,h1.dst,h1.an,h1.bn,h1.fn,by rw [h2];exact ⟨SlO.nil _ _ _ _ (fun _ h=>h.elim),by simp⟩⟩
 rcases h.own.2 with ⟨rfl,_⟩|⟨g,cap,cur,rfl,_,hc,_⟩
 ·cases hb
 have e:g=b:=by simpa [Value.ownBlock] using hb
 exact e ▸ qd hc
theorem head_own {W:World} {g n c k:Nat} {xs:List FunL} {hd:List InsL} {S:Blks} {hv:Value} (h:SlO 38 4 FunO W (.slice (some ⟨g,0,none⟩) n c) xs S) (hk:k<xs.length) (h0:0<xs[k].blocks.length) {B:Nat} (hh:HeadR W B hv hd)
  (hbd:(hd++xs[k].blocks[0].list).length*80≤reachBytes) :
  ∃bb cb v2 X1 X2,W.cell? ⟨g,k*4+3,none⟩=some (.slice (some ⟨bb,0,none⟩) xs[k].blocks.length cb)∧S bb∧bb<W.heap.size∧(∀o,W.frozen? ⟨bb,o,none⟩=false)∧W.cell? ⟨bb,1,none⟩=some v2∧RowX W hv hd.length X1∧RowX W v2 xs[k].blocks[0].list.length X2∧
   ∀W1 W2 v',Below W.heap.size W W1→W1.ownsRow W.heap.size 51 8 v' (hd.length+xs[k].blocks[0].list.length) (X1++X2)→W2=W1.setCell ⟨bb,1,none⟩ v'→
    SlO 38 4 FunO W2 (.slice (some ⟨g,0,none⟩) n c) (xs.modify k (xA hd)) (fun b=>S b∨(W.heap.size≤b∧b<W2.heap.size)):=by
 obtain ⟨g',c',cs',T',hv',hhY,hhZ,hcl',hF',het,haO,hdG,hkO,⟨cur',hdH⟩,hdI⟩:=h.focus qV (by omega) hk
 obtain rfl:g=g':=by
  injection hv' with a
  injection a with a
  injection a
 obtain ⟨v,hcs,hnm,i1,i2,hB⟩:=hF'
 obtain ⟨bb,cb,cB,TB,hvb,hbz,hTb,hlB,heP,hnb,hTB,hcB,hfB,⟨curB,hdx⟩,hput⟩:=hB.sl.focus qU (by omega) h0
 obtain ⟨v1,v2,v3,S1,S2,S3,rfl,j1,j2,h3,h4,h5,a1,a2,a3,g1,g2,g3⟩:=heP
 obtain ⟨csl,Tl,hl⟩:=h4.sl
 have hhw:=hh.slW
 subst hcs hvb
 have hbg:bb≠g:=fun e=>het (e ▸ hTb)
 have e0:W.cell? ⟨bb,0*6+1,none⟩=_:=hcB 1 (by omega)
 rw [Nat.zero_mul,Nat.zero_add] at e0
 refine ⟨bb,cb,v2,_,_,hdG 3 (by omega),haO _ hTb,hbz,hfB,e0,hhw.rowX,hl.rowX,fun W1 W2 v' hb ho hW2=>?_⟩
 have hP:PutAt W W2 bb (0*6+1) v':=by rw [hW2];exact .set (Kept.of_below hb) bb 1 hbz v'
 have hK:=hP.kept
 have hsz:W1.heap.size=W2.heap.size:=by rw [hW2];simp [World.setCell]
 have hdP:¬ S2 bb:=fun h=>hnb (g2 _ h)
 have ho2:W2.ownsRow W.heap.size 51 8 v' (hd.length+xs[k].blocks[0].list.length) ((List.range hd.length).flatMap (fun i=>XF (hd.getD i (Je 0 0)) (.slice none 0 0))++(List.range xs[k].blocks[0].list.length).flatMap csl):=by
  refine ⟨ho.1,?_⟩
  rcases ho.2 with h|⟨gq,cap,cur,hv,hbq,hc,r⟩
  ·exact .inl h
  exact .inr ⟨gq,cap,cur,hv,hbq,by rw [hW2,Go.Deep.blk_setCell_other _ _ _ _ (by show gq≠bb;omega)];exact hc,r⟩
 have hL:=SlW.glue (W2:=W2) zR hhw hl (fun _ _ _ h=>h) (fun b hb2=>hK.block b (hl.inb b hb2) (fun e=>hdP (e ▸ hb2))) hK.size ho2
 have hone:v'.oneCell'=true:=by
  rcases ho.2 with ⟨rfl,_⟩|⟨_,_,_,rfl,_⟩<;>rfl
 have hkeep:∀b,TB b→W2.heap[b]?=W.heap[b]?:=fun b hb2=>hK.block b (h.inb b (haO _ (hTB _ hb2))) (fun e=>hnb (e ▸ hb2))
 have hF2:=hput W2 _ { xs[k].blocks[0] with list:=hd++xs[k].blocks[0].list } (fun b=>TB b∨(W.heap.size≤b∧b<W2.heap.size)) ((RowPut.same hdx rfl hcB:RowPut W W 49 bb (0*6) 6 _).put1 (j:=1) rfl (by omega) hP) rfl (fun u hu=>by
   simp only [List.set_cons_succ,List.set_cons_zero,List.mem_cons,List.not_mem_nil,or_false] at hu
   have hx3:∀{α:Type} {e:TypeId} {sz bt:Nat} {R:ElemO α} {w:World} {v:Value} {l:List α} {S:Blks},SlQ e sz bt R w v l S→v.oneCell'=true:=fun hq=>by
    obtain ⟨p,c,e,_⟩:=hq.sl.val
    rw [e];rfl
   rcases hu with rfl|rfl|rfl|rfl|rfl|rfl
   ·exact hx3 h3
   ·exact hone
   ·rfl
   ·rfl
   ·rfl
   exact hx3 h5) hK.size (fun b hb1 hb2 hb3=>hK.block b (h.inb b (haO _ hb1)) hb3)
  (by
   refine ⟨v1,v',v3,S1,_,S3,rfl,j1,j2,h3.loc zZ (fun _ g=>g) (fun b hb2=>hkeep b (g1 b hb2)) hK.size,⟨hL,hbd⟩,h5.loc xe (fun _ g=>g) (fun b hb2=>hkeep b (g3 b hb2)) hK.size,fun b x y=>?_,a2,fun b x y=>?_,fun b x=>.inl (g1 b x),fun b x=>?_,fun b x=>.inl (g3 b x)⟩
   ·rcases y with y|y
    ·exact a1 b x y
    have:=h3.sl.inb b x;omega
   ·rcases x with x|x
    ·exact a3 b x y
    have:=h5.sl.inb b y;omega
   rcases x with x|x
   ·exact .inl (g2 b x)
   exact .inr x)
  (fun b hb2=>by
   rcases hb2 with x|x
   ·exact ⟨.inl x,by have:=h.inb b (haO _ (hTB _ x));have:=hK.size;omega⟩
   exact ⟨.inr x.1,x.2⟩)
 have hgk:W2.heap[g]?=W.heap[g]?:=hK.block g hhY (fun e=>hbg e.symm)
 have hF3:=hdI W2 _ (xA hd xs[k]) (fun b=>T' b∨(TB b∨(W.heap.size≤b∧b<W2.heap.size))) (RowPut.same hdH hgk hdG) hcl' (fun u hu=>by
   simp only [List.mem_cons,List.not_mem_nil,or_false] at hu
   rcases hu with rfl|rfl|rfl|rfl<;>rfl) hK.size (fun b hb1 hb2 hb3=>hK.block b (h.inb b hb1) (fun e=>hb2 (e ▸ hTb)))
  ⟨_,rfl,hnm,i1,i2,(by rw [kS h0 fun b=>{ b with list:=hd++b.list }] at hF2;exact hF2),?_⟩ (fun b hb2=>?_)
 ·rw [←kS hk]
  refine hF3.grow (fun b hb2=>?_) (fun b hb2=>?_)
  ·rcases hb2 with x|x|x|x
   ·exact .inl x
   ·exact .inl (haO _ x)
   ·exact .inl (haO _ (hTB _ x))
   exact .inr x
  rcases hb2 with x|x
  ·have:=h.inb b x;have:=hK.size;omega
  exact x.2
 ·show ((xs[k].blocks.modify 0 _).length)*96≤_
  rw [List.length_modify]
  exact hB.bd
 rcases hb2 with x|x|x
 ·exact ⟨.inl x,by have:=h.inb b (haO _ x);have:=hK.size;omega⟩
 ·exact ⟨.inl (hTB _ x),by have:=h.inb b (haO _ (hTB _ x));have:=hK.size;omega⟩
 exact ⟨.inr x.1,x.2⟩

structure OutAt (w:World) (O g c:Nat) (p1:Option Addr) (c1:Nat) (gl:List GloL) (xs:List FunL) (S1 S2:Blks) (W:World):Prop where
 b:Below w.heap.size w W
 hO:w.heap.size+1+1<O
 out:W.heap[O]?=some (.cells #[.slice p1 gl.length c1,.slice (some ⟨g,0,none⟩) xs.length c] 25 (0,0))
 r1:W.heap[w.heap.size+1]?=some (.cells #[.slice none 0 0,.slice none 0 0] 25 (0,0))
 r2:W.heap[w.heap.size+1+1]?=some (.cells #[.int .i64 0,.int .i64 0] 27 (0,0))
 glo:SlQ 61 3 48 GloO W (.slice p1 gl.length c1) gl S1
 fn:SlO 38 4 FunO W (.slice (some ⟨g,0,none⟩) xs.length c) xs S2
 ap:Apart S1 S2
 l1:∀k,S1 k→w.heap.size+1+1<k∧k≠O
 l2:∀k,S2 k→w.heap.size+1+1<k∧k≠O
section
variable {w W W' : World} {O g c c1 : Nat} {p1 : Option Addr} {gl : List GloL} {xs : List FunL} {S1 S2 : Blks}
theorem OutAt.to (h:OutAt w O g c p1 c1 gl xs S1 S2 W) {U S2':Blks} {xs':List FunL} (hl:xs'.length=xs.length) (hk:Kept U W W') (hU:∀b,U b→¬ S1 b∧b≠O∧w.heap.size+1+1<b) (hs:SlO 38 4 FunO W' (.slice (some ⟨g,0,none⟩) xs.length c) xs' S2') (hs2:∀b,S2' b→S2 b∨W.heap.size≤b) :
  OutAt w O g c p1 c1 gl xs' S1 S2' W':=by
 have zO:=qd h.out
 have hO:=h.hO
 have hb0:=h.b.size
 refine ⟨h.b.trans (hk.below h.b.size fun b hb=>by have:=(hU b hb).2.2;omega),h.hO,?_,?_,?_,⟨h.glo.sl.loc xD (fun b hb=>hk.block b (h.glo.sl.inb b hb) fun hu=>(hU b hu).1 hb) hk.size,h.glo.bd⟩,by rw [hl];exact hs,fun b x y=>?_,h.l1,fun b hb=>?_⟩
 ·rw [hl]
  exact (hk.block O zO fun hu=>(hU O hu).2.1 rfl).trans h.out
 ·exact (hk.block _ (qd h.r1) fun hu=>by have:=(hU _ hu).2.2;omega).trans h.r1
 ·exact (hk.block _ (qd h.r2) fun hu=>by have:=(hU _ hu).2.2;omega).trans h.r2
 ·rcases hs2 b y with z|z
  ·exact h.ap b x z
  have:=h.glo.sl.inb b x;omega
 rcases hs2 b hb with z|z
 ·exact h.l2 b z
 omega
theorem OutAt.kept (h:OutAt w O g c p1 c1 gl xs S1 S2 W) {U:Blks} (hk:Kept U W W') (hU:∀b,U b→(¬ S1 b∧b≠O∧w.heap.size+1+1<b)∧¬ S2 b):OutAt w O g c p1 c1 gl xs S1 S2 W':=
 h.to rfl hk (fun b hb=>(hU b hb).1) (h.fn.loc qV (fun b hb=>hk.block b (h.fn.inb b hb) fun hu=>(hU b hu).2 hb) hk.size) fun _ hb=>.inl hb
theorem OutAt.below (h:OutAt w O g c p1 c1 gl xs S1 S2 W) (hb:Below W.heap.size W W'):OutAt w O g c p1 c1 gl xs S1 S2 W':=
 h.kept (U:=fun _=>False) (Kept.of_below hb) fun _ h=>h.elim
theorem OutAt.put (h:OutAt w O g c p1 c1 gl xs S1 S2 W) {xs':List FunL} (hl:xs'.length=xs.length) (hk:Kept S2 W W') (hs:SlO 38 4 FunO W' (.slice (some ⟨g,0,none⟩) xs.length c) xs' S2):OutAt w O g c p1 c1 gl xs' S1 S2 W':=
 h.to hl hk (fun b hb=>⟨fun h1=>h.ap b h1 hb,(h.l2 b hb).2,(h.l2 b hb).1⟩) hs fun _ hb=>.inl hb
theorem OutAt.cO (h:OutAt w O g c p1 c1 gl xs S1 S2 W):W.cell? ⟨O,0,none⟩=some (.slice p1 gl.length c1)∧W.cell? ⟨O,1,none⟩=some (.slice (some ⟨g,0,none⟩) xs.length c):=⟨(blk h.out).1 0,(blk h.out).1 1⟩
theorem OutAt.par (h:OutAt w O g c p1 c1 gl xs S1 S2 W) {k:Nat} (hk:k<xs.length):W.cell? ⟨g,k*4+1,none⟩=some (.int .i64 xs[k].params)∧I64 xs[k].params:=by
 obtain ⟨g',c',cs',T',hv',hhY,hhZ,hcl',hF',het,haO,hdG,hkO,_,_⟩:=h.fn.focus qV (by omega) hk
 obtain rfl:g=g':=by
  injection hv' with a
  injection a with a
  injection a
 obtain ⟨v,hcs,hnm,i1,i2,hB⟩:=hF'
 subst hcs
 exact ⟨hdG 1 (by omega),i1⟩
theorem OutAt.notO (h:OutAt w O g c p1 c1 gl xs S1 S2 W):¬ S2 O:=fun h1=>(h.l2 O h1).2 rfl
end
theorem HeadR.kept {W W':World} {B:Nat} {hv:Value} {hd:List InsL} (h:HeadR W B hv hd) (hk:∀b,hv.ownBlock=some b→W'.heap[b]?=W.heap[b]?):HeadR W' B hv hd:=by
 refine ⟨⟨h.own.1,?_⟩,h.ins⟩
 rcases h.own.2 with h1|⟨g,cap,cur,hv,hb,hg,r⟩
 ·exact .inl h1
 exact .inr ⟨g,cap,cur,hv,hb,by rw [hk g (by rw [hv];rfl)];exact hg,r⟩
theorem alw_mem {k:Int} {p:Nat} {m:Int}:∀(l:List InsL) (s:Option (Option Int)),l.foldl (Xm k p) s=some (some m)→s=some (some m)∨∃x∈l,x.op=20∧x.fn=k∧x.args.getD p (false,0)=(false,m)
 | [],s,h=>.inl h
 | x::l,s,h=>by
  rcases alw_mem l _ h with h1|⟨y,hy,r⟩
  ·unfold Xm at h1
   cases s with
   | none=>cases h1
   | some h0=>
    dsimp only at h1
    split at h1
    ·next hc=>
     split at h1
     ·cases h1
     next hn=>
     have e:(x.args.getD p (false,0)).2=m:=by injection h1 with h1;injection h1
     have e2:(x.args.getD p (false,0)).1=false:=by
      cases hb:(x.args.getD p (false,0)).1
      ·rfl
      exact absurd (.inl hb) hn
     exact .inr ⟨x,List.mem_cons_self,hc.1,hc.2,Prod.ext e2 e⟩
    exact .inl h1
  exact .inr ⟨y,List.mem_cons_of_mem _ hy,r⟩
theorem alwL_mem {k:Int} {p:Nat} {m:Int} {xs:List FunL} (h:kK k p xs=some m):∃f∈xs,∃b∈f.blocks,∃x∈b.list,x.op=20∧x.fn=k∧x.args.getD p (false,0)=(false,m):=by
 unfold kK at h
 rw [Option.join_eq_some_iff] at h
 rcases alw_mem _ _ h with h1|⟨x,hx,r⟩
 ·cases h1
 obtain ⟨f,hf,hx⟩:=List.mem_flatMap.1 hx
 obtain ⟨b,hb,hx⟩:=List.mem_flatMap.1 hx
 exact ⟨f,hf,b,hb,x,hx,r⟩
theorem SlO.args64 {w:World} {v:Value} {xs:List FunL} {S:Blks} (h:SlO 38 4 FunO w v xs S):∀f∈xs,∀b∈f.blocks,∀x∈b.list,∀a∈x.args,I64 a.2:=fun f hf b hb x hx a ha=>by
 obtain ⟨_,_,h⟩:=h
 obtain ⟨i,hi,rfl⟩:=List.mem_iff_getElem.1 hf
 obtain ⟨_,_,_,_,_,h⟩:=h.el i hi
 obtain ⟨_,_,h⟩:=h.sl
 obtain ⟨i,hi,rfl⟩:=List.mem_iff_getElem.1 hb
 obtain ⟨_,_,_,_,_,_,_,_,_,_,h,_⟩:=h.el i hi
 obtain ⟨_,_,h⟩:=h.sl
 obtain ⟨i,hi,rfl⟩:=List.mem_iff_getElem.1 hx
 obtain ⟨_,_,_,_,_,_,_,h⟩:=h.el i hi
 obtain ⟨_,_,h⟩:=h.sl
 obtain ⟨i,hi,rfl⟩:=List.mem_iff_getElem.1 ha
 exact (h.el i hi).2
theorem alw64 {w:World} {v:Value} {k p:Nat} {m:Int} {xs:List FunL} {S:Blks} (h:SlO 38 4 FunO w v xs S) (hc:∀f∈xs,∀b∈f.blocks,∀x∈b.list,x.op=20→x.fn=(k:Int)→p<x.args.length) (ha:kK k p xs=some m):I64 m:=by
 obtain ⟨f,hf,b,hb,x,hx,ho,hk,hg⟩:=alwL_mem ha
 have hp:=hc f hf b hb x hx ho hk
 have e:x.args.getD p (false,0)=x.args[p]:=by simp [List.getD,hp]
 have:=h.args64 f hf b hb x hx _ (List.getElem_mem hp)
 rw [←e,hg] at this
 exact this
theorem head_app (W:World) (B:Nat) (hv:Value) (hd:List InsL) (d m:Int) (hB:B≤W.heap.size) (h:HeadR W B hv hd) (hdM:I64 d) (hm:I64 m) (hl:hd.length≤6) (ty:TypeId) :
  ∃v' w',(Builtin.append_ #[42,42] ty #[hv,.slice (some ⟨W.heap.size,0,none⟩) 1 1]).run Tryz.prog (W.alloc (.cells #[.int .i64 1,.int .i64 d,.bool false,.int .i64 m,.bool false,.int .i64 0,.int .i64 0,.slice none 0 0] 51)) = .ok v' w'∧
   HeadR w' B v' (hd++[Je d m])∧Kept (fun b=>hv.ownBlock=some b) W w'∧∀b,v'.ownBlock=some b→hv.ownBlock=some b∨W.heap.size≤b:=by
 obtain ⟨iI,l1,l2,l3,l4⟩:=info_parts vx
 obtain ⟨W1,hW1⟩:∃W1,W1=W.alloc (.cells #[.int .i64 1,.int .i64 d,.bool false,.int .i64 m,.bool false,.int .i64 0,.int .i64 0,.slice none 0 0] 51):=⟨_,rfl⟩
 have hc:=xt W [.int .i64 1,.int .i64 d,.bool false,.int .i64 m,.bool false,.int .i64 0,.int .i64 0,.slice none 0 0] 51 rfl
 have hb:Below W.heap.size W W1:=by rw [hW1];exact bZ
 have hz:W1.heap.size=W.heap.size+1:=by rw [hW1];simp
 have hc':∀j u,[Value.int .i64 1,.int .i64 d,.bool false,.int .i64 m,.bool false,.int .i64 0,.int .i64 0,.slice none 0 0][j]?=some u→W1.cell? ((⟨W.heap.size,0,none⟩:Addr).add j)=some u:=by rw [hW1];exact hc
 rw [←hW1]
 clear hW1 hc
 have h1:=h.kept (W':=W1) fun b hb2=>hb.block b (h.slW.inb b hb2)
 obtain ⟨v',w',hr,ho,hg,_,hob⟩:=run_append_own_at (P:=Tryz.prog) W1 B 42 ty 51 iI _ 8 80 Tryz.underlying42 l1 l2 l3 l4 rfl (by omega) hv _ _ h1.own ⟨W.heap.size,0,none⟩ 1 1 _ rfl hc' (fun u hu=>by
  simp only [List.mem_cons,List.not_mem_nil,or_false] at hu
  rcases hu with rfl|rfl|rfl|rfl|rfl|rfl|rfl|rfl<;>rfl) (by unfold maxLen;omega) (by omega) (by omega)
 refine ⟨v',w',hr,⟨?_,fun x hx=>?_⟩,?_,fun b hb2=>?_⟩
 ·rw [List.flatMap_append,List.length_append]
  exact ho
 ·rcases List.mem_append.1 hx with hx|hx
  ·exact h.ins x hx
  obtain rfl:=List.mem_singleton.1 hx
  exact ⟨⟨⟨by show _≤(1:Int);omega,by show (1:Int)≤_;omega⟩,hdM,hm,⟨by show _≤(0:Int);omega,by show (0:Int)≤_;omega⟩,⟨by show _≤(0:Int);omega,by show (0:Int)≤_;omega⟩⟩,rfl⟩
 ·exact (Kept.of_below hb).trans (Kept.of_grown hg fun g hg=>hg) fun _ _ h=>h
 rcases hob with e|e
 ·exact .inl (by rw [←e];exact hb2)
 rw [hb2] at e
 injection e with e
 exact .inr (by omega)
theorem blk_lt {w:World} {p:Addr} {v:Value} (h:w.cell? p=some v):p.block<w.heap.size:=Nat.lt_of_not_le fun hl=>by
 have e:w.cell? p=none:=by simp [World.cell?,Array.getElem?_eq_none hl]
 rw [e] at h
 cases h
theorem CallN.at_call {xs:List FunL} (h:CallN xs) {k p:Nat} (hk:k<xs.length) (hp:(p:Int)<xs[k].params):∀f∈xs,∀b∈f.blocks,∀x∈b.list,x.op=20→x.fn=(k:Int)→p<x.args.length:=fun f hf b hb x hx ho hf2=>by
 obtain ⟨h1,h2⟩:=h.call f hf b hb x hx ho k hf2
 omega
end Go.Proofs.YtgjjhadbjmcnpaaGreatDoor
namespace Go.Proofs.YtgjjhadbjmcnpaaGreatDoor
/-! the fold over all instructions -/
theorem Vh (k:Int) (p:Nat):∀l:List InsL,l.foldl (Xm k p) none=none
 | []=>rfl
 | _::l=>Vh k p l
theorem Jr (f:FunL):∀m,m≤f.blocks.length→((f.blocks.take m).flatMap fun b:BlkL=>b.list).length=(zX (ql f) m).length
 | 0,_=>by simp [zX]
 | m+1,h=>by
  rw [kn,←Jr f m (by omega),List.take_succ_eq_append_getElem (by omega),List.flatMap_append,List.length_append]
  simp [zM (show m<f.blocks.length by omega)]
theorem all_at {f:FunL} {m j:Nat} (hm:m<f.blocks.length) (hj:j<f.blocks[m].list.length):(f.blocks.flatMap fun b:BlkL=>b.list)[(zX (ql f) m).length+j]?=some f.blocks[m].list[j]:=by
 have e:f.blocks=f.blocks.take m++(f.blocks[m]::f.blocks.drop (m+1)):=by rw [List.getElem_cons_drop,List.take_append_drop]
 have e2:(f.blocks.flatMap fun b:BlkL=>b.list)=((f.blocks.take m).flatMap fun b:BlkL=>b.list)++(f.blocks[m].list++(f.blocks.drop (m+1)).flatMap fun b:BlkL=>b.list):=by
  conv=>lhs;rw [e]
  rw [List.flatMap_append,List.flatMap_cons]
 rw [e2,←Jr f m (by omega),List.getElem?_append_right (by omega),Nat.add_sub_cancel_left,List.getElem?_append_left hj]
 simp [hj]
def jd (k:Int) (p:Nat) (xs:List FunL) (cc i:Nat):Option (Option Int):=(((xs.take cc).flatMap fun f:FunL=>f.blocks.flatMap fun b:BlkL=>b.list)++((xs[cc]?.map fun f:FunL=>f.blocks.flatMap fun b:BlkL=>b.list).getD []).take i).foldl (Xm k p) (some none)
theorem VN (k:Int) (p:Nat) (xs:List FunL):jd k p xs 0 0=some none:=by simp [jd]
theorem VO {k:Int} {p:Nat} {xs:List FunL} {cc m j:Nat} (hc:cc<xs.length) (hm:m<xs[cc].blocks.length) (hj:j<xs[cc].blocks[m].list.length):jd k p xs cc ((zX (ql xs[cc]) m).length+j+1)=Xm k p (jd k p xs cc ((zX (ql xs[cc]) m).length+j)) xs[cc].blocks[m].list[j]:=by
 have ha:=all_at hm hj
 obtain ⟨hl,hg⟩:=List.getElem?_eq_some_iff.1 ha
 unfold jd
 rw [List.getElem?_eq_getElem hc]
 simp only [Option.map_some,Option.getD_some]
 rw [List.take_succ_eq_append_getElem hl,←List.append_assoc,List.foldl_append,hg]
 rfl
theorem alwTo_fn {k:Int} {p:Nat} {xs:List FunL} {cc i:Nat} (hc:cc<xs.length) (hi:(xs[cc].blocks.flatMap fun b:BlkL=>b.list).length≤i):jd k p xs (cc+1) 0=jd k p xs cc i:=by
 unfold jd
 rw [List.getElem?_eq_getElem hc,List.take_succ_eq_append_getElem hc,List.flatMap_append]
 simp only [Option.map_some,Option.getD_some,List.take_zero,List.append_nil,List.flatMap_cons,List.flatMap_nil]
 rw [List.take_of_length_le hi]
theorem alwTo_all {k:Int} {p:Nat} {xs:List FunL}:jd k p xs xs.length 0=(xs.flatMap fun f:FunL=>f.blocks.flatMap fun b:BlkL=>b.list).foldl (Xm k p) (some none):=by
 unfold jd
 rw [List.take_length]
 simp
theorem VP {k:Int} {p:Nat} {xs:List FunL} {cc i:Nat} (hc:cc<xs.length) (h:jd k p xs cc i=none):kK k p xs=none:=by
 have e:xs=xs.take cc++(xs[cc]::xs.drop (cc+1)):=by rw [List.getElem_cons_drop,List.take_append_drop]
 have e2:(xs.flatMap fun f:FunL=>f.blocks.flatMap fun b:BlkL=>b.list)=(((xs.take cc).flatMap fun f:FunL=>f.blocks.flatMap fun b:BlkL=>b.list)++(xs[cc].blocks.flatMap fun b:BlkL=>b.list).take i)++((xs[cc].blocks.flatMap fun b:BlkL=>b.list).drop i++(xs.drop (cc+1)).flatMap fun f:FunL=>f.blocks.flatMap fun b:BlkL=>b.list):=by
  conv=>lhs;rw [e]
  rw [List.flatMap_append,List.flatMap_cons,List.append_assoc,←List.append_assoc (List.take _ _),List.take_append_drop]
 unfold jd at h
 rw [List.getElem?_eq_getElem hc] at h
 simp only [Option.map_some,Option.getD_some] at h
 unfold kK
 rw [e2,List.foldl_append,h,Vh]
 rfl
end Go.Proofs.YtgjjhadbjmcnpaaGreatDoor
namespace Go.Proofs.YtgjjhadbjmcnpaaGreatDoor
open Go.RowKit

structure IsR (C:Nat) (r:Int) (w:World):Prop where
 at_:w.cell? ⟨C,0,none⟩=some (.int .i64 r)
structure IsAt (I C:Nat) (r:Int) (w:World):Prop where
 at_:w.cell? ⟨C,0,none⟩=some (.int .i64 r)
 fn:w.cell? ⟨I,0,none⟩=some (.func (.func 44) #[] #[.pointer (some ⟨C,0,none⟩)])
theorem IsR.below {C:Nat} {r:Int} {w w':World} (h:IsR C r w) (hb:Below w.heap.size w w'):IsR C r w':=⟨(hb.cell (p:=⟨C,0,none⟩) (q9 h.at_)).trans h.at_⟩
theorem IsAt.below {I C:Nat} {r:Int} {w w':World} (h:IsAt I C r w) (hb:Below w.heap.size w w'):IsAt I C r w':=⟨(hb.cell (p:=⟨C,0,none⟩) (q9 h.at_)).trans h.at_,(hb.cell (p:=⟨I,0,none⟩) (q9 h.fn)).trans h.fn⟩
theorem IsAt.r {I C:Nat} {r:Int} {w:World} (h:IsAt I C r w):IsR C r w:=⟨h.at_⟩

theorem Vi (C:Nat) (r n:Int) (b:Bool) (w:World) (hC:IsR C r w) :
  Calls Tryz.prog 44 #[.agg #[.bool b,.int .i64 n],.pointer (some ⟨C,0,none⟩)] w fun e w'=>e = .returned (.bool (isV r (b,n)))∧Below w.heap.size w w':=by
 have c0:=hC.at_
 have cz:=q9 c0
 clear hC
 cases b
 ·go_enter Tryz.func44,Tryz.ntmps44
  go_wp2
  go_ret
  exact ⟨rfl,by exact bZ⟩
 go_enter Tryz.func44,Tryz.ntmps44
 go_wp2
 go_ret
 exact ⟨rfl,by exact bZ⟩
theorem jn {α:Type} {xs:List α} {t:α→Bool} {k:Nat} (hk:k<xs.length) (h:t xs[k]=true):xs.any t=true:=List.any_eq_true.2 ⟨_,List.getElem_mem hk,h⟩
theorem xN {α:Type} {xs:List α} {t:α→Bool} (h:∀j (h:j<xs.length),t xs[j]=false):xs.any t=false:=by
 rw [List.any_eq_false]
 intro x hx
 obtain ⟨j,hj,rfl⟩:=List.getElem_of_mem hx
 simp [h j hj]

theorem VQ (C:Nat) (r:Int) (xs:List (Bool×Int)) (p:Option Addr) (c:Nat) (w:World) (hl:xs.length≤9223372036854775807) (hF:SliceAt w 2 kY p xs) (hC:IsR C r w) :
  Calls Tryz.prog 75 #[.slice p xs.length c,.func (.func 44) #[] #[.pointer (some ⟨C,0,none⟩)]] w fun e w'=>(∃m:Int,e = .returned (.int .i64 m)∧Hid (decide (0≤m)=xs.any (isV r)))∧Below w.heap.size w w':=by
 have HF:=q8 hF
 have HC:=q8 hC
 clear hF hC
 go_enter Tryz.func75,Tryz.ntmps75
 go_wp2
 go_loopw [8] (fun i wr=>∃k:Nat,k≤xs.length∧i = .int .i64 k∧(∀j (h:j<xs.length),j<k→isV r xs[j]=false)∧Below w.heap.size w wr) (fun i _=>xs.length - (intOf i).toNat)
 case atStart=>exact ⟨0,by omega,rfl,fun j _ h=>by omega,Below.refl _ _⟩
 case round=>
  obtain ⟨k,hk,rfl,hV,hb⟩:=hrel
  have HV:=q8 hV
  have HBw:=q8 hb
  clear hV hb
  by_cases hlt:k<xs.length
  rotate_left
  ·go_wp2_with fail
   go_ret
   exact ⟨⟨_,rfl,by rw [xN fun j hj=>HV.out j hj (by omega)];rfl⟩,HBw.out⟩
  obtain ⟨b,o,hp,e0,e1,_⟩:=Ql HF.out HBw.out hlt
  subst hp
  have bz:=q9 e0
  go_wp2_with fail
  refine (Vi C r _ _ _ (HC.out.below HBw.out)).mono ?_
  rintro e w3 ⟨rfl,hb3⟩
  have HB3:=q8 hb3
  have HE:Hid (∃q,q=isV r xs[k]):=⟨_,rfl⟩
  clear hb3
  cases hm:isV r xs[k]
  ·have HM:=q8 hm
   clear hm HE
   go_wp2_with fail
   refine ⟨⟨k+1,by omega,by go_num,fun j hj hjk=>?_,HBw.out.trans (HB3.out.mono HBw.out.size)⟩,by simp [intOf];omega⟩
   by_cases hj2:j<k
   ·exact HV.out j hj hj2
   obtain rfl:j=k:=by omega
   exact HM.out
  have HM:=q8 hm
  clear hm HE
  go_wp2_with fail
  go_ret
  exact ⟨⟨_,rfl,by rw [jn hlt HM.out];exact decide_eq_true (by omega)⟩,HBw.out.trans (HB3.out.mono HBw.out.size)⟩
theorem Vj (C:Nat) (r:Int) (xs:List (Bool×Int)) (p:Option Addr) (c:Nat) (w:World) (hl:xs.length≤9223372036854775807) (hF:SliceAt w 2 kY p xs) (hC:IsR C r w) :
  Calls Tryz.prog 46 #[.slice p xs.length c,.func (.func 44) #[] #[.pointer (some ⟨C,0,none⟩)]] w fun e w'=>e = .returned (.bool (xs.any (isV r)))∧Below w.heap.size w w':=by
 have HI:=q8 (VQ C r xs p c w hl hF hC)
 clear hF hC
 go_enter Tryz.func46,Tryz.ntmps46
 go_wp2_with fail
 refine HI.out.mono ?_
 rintro e w1 ⟨⟨m,rfl,hm⟩,hb1⟩
 have hm2:=hm.out
 clear hm
 go_wp2_with fail
 go_ret
 refine ⟨?_,hb1⟩
 rw [←hm2]
 rfl

theorem isPhi_any (I C:Nat) (r:Int) (x:PhiL) (q:Option Addr) (c:Nat) (w:World) (hl:x.src.length≤9223372036854775807) (hF:SliceAt w 2 kY q x.src) (hC:IsAt I C r w) :
  Calls Tryz.prog 50 #[.agg #[.int .i64 x.dst,.slice q x.src.length c],.pointer (some ⟨I,0,none⟩)] w fun e w'=>e = .returned (.bool (tkP r x))∧Below w.heap.size w w':=by
 have c0:=hC.fn
 have cz:=q9 c0
 have HF:=q8 hF
 have HC:=q8 hC
 clear hF hC
 go_enter Tryz.func50,Tryz.ntmps50
 go_wp2_with fail
 refine (Vj C r x.src q c _ hl (HF.out.mono bZ (by omega) fun _ _ h=>h) (HC.out.r.below bZ)).mono ?_
 rintro e w1 ⟨rfl,hb1⟩
 go_wp2_with fail
 go_ret
 exact ⟨rfl,Below.trans bZ (hb1.mono (by simp))⟩

theorem VR (I C:Nat) (r:Int) (xs:List PhiL) (p:Option Addr) (c:Nat) (w:World) (hl:xs.length≤9223372036854775807) (hF:SliceAt w 2 (PhiR w) p xs) (hC:IsAt I C r w) :
  Calls Tryz.prog 77 #[.slice p xs.length c,.func (.func 50) #[] #[.pointer (some ⟨I,0,none⟩)]] w fun e w'=>(∃m:Int,e = .returned (.int .i64 m)∧Hid (decide (0≤m)=xs.any (tkP r)))∧Below w.heap.size w w':=by
 have HF:=q8 hF
 have HC:=q8 hC
 clear hF hC
 go_enter Tryz.func77,Tryz.ntmps77
 go_wp2
 go_loopw [8] (fun i wr=>∃k:Nat,k≤xs.length∧i = .int .i64 k∧(∀j (h:j<xs.length),j<k→tkP r xs[j]=false)∧Below w.heap.size w wr) (fun i _=>xs.length - (intOf i).toNat)
 case atStart=>exact ⟨0,by omega,rfl,fun j _ h=>by omega,Below.refl _ _⟩
 case round=>
  obtain ⟨k,hk,rfl,hV,hb⟩:=hrel
  have HV:=q8 hV
  have HBw:=q8 hb
  clear hV hb
  by_cases hlt:k<xs.length
  rotate_left
  ·go_wp2_with fail
   go_ret
   exact ⟨⟨_,rfl,by rw [xN fun j hj=>HV.out j hj (by omega)];rfl⟩,HBw.out⟩
  obtain ⟨b,o,q,qc,hp,e0,e1,_,hql,hqs⟩:=phiGet HF.out HBw.out hlt
  subst hp
  have bz:=q9 e0
  go_wp2_with fail
  refine (isPhi_any I C r xs[k] q qc _ (by omega) hqs (HC.out.below HBw.out)).mono ?_
  rintro e w3 ⟨rfl,hb3⟩
  have HB3:=q8 hb3
  have HE:Hid (∃q,q=tkP r xs[k]):=⟨_,rfl⟩
  clear hb3
  cases hm:tkP r xs[k]
  ·have HM:=q8 hm
   clear hm HE
   go_wp2_with fail
   refine ⟨⟨k+1,by omega,by go_num,fun j hj hjk=>?_,HBw.out.trans (HB3.out.mono HBw.out.size)⟩,by simp [intOf];omega⟩
   by_cases hj2:j<k
   ·exact HV.out j hj hj2
   obtain rfl:j=k:=by omega
   exact HM.out
  have HM:=q8 hm
  clear hm HE
  go_wp2_with fail
  go_ret
  exact ⟨⟨_,rfl,by rw [jn hlt HM.out];exact decide_eq_true (by omega)⟩,HBw.out.trans (HB3.out.mono HBw.out.size)⟩
theorem hasP_any (I C:Nat) (r:Int) (xs:List PhiL) (p:Option Addr) (c:Nat) (w:World) (hl:xs.length≤9223372036854775807) (hF:SliceAt w 2 (PhiR w) p xs) (hC:IsAt I C r w) :
  Calls Tryz.prog 49 #[.slice p xs.length c,.func (.func 50) #[] #[.pointer (some ⟨I,0,none⟩)]] w fun e w'=>e = .returned (.bool (xs.any (tkP r)))∧Below w.heap.size w w':=by
 have HI:=q8 (VR I C r xs p c w hl hF hC)
 clear hF hC
 go_enter Tryz.func49,Tryz.ntmps49
 go_wp2_with fail
 refine HI.out.mono ?_
 rintro e w1 ⟨⟨m,rfl,hm⟩,hb1⟩
 have hm2:=hm.out
 clear hm
 go_wp2_with fail
 go_ret
 refine ⟨?_,hb1⟩
 rw [←hm2]
 rfl

theorem isBlk_any (I C:Nat) (r:Int) (x:BlkL) (q1 q2 q3:Option Addr) (n2 c1 c2 n3 c3:Nat) (w:World) (hl:x.phis.length≤9223372036854775807) (hF:SliceAt w 2 (PhiR w) q1 x.phis) (hC:IsAt I C r w) :
  Calls Tryz.prog 48 #[.agg #[.slice q1 x.phis.length c1,.slice q2 n2 c2,.int .i64 x.fin.kind,.bool x.fin.onr,.int .i64 x.fin.onn,.slice q3 n3 c3],.pointer (some ⟨I,0,none⟩)] w fun e w'=>e = .returned (.bool (tkB r x))∧Below w.heap.size w w':=by
 have c0:=hC.fn
 have cz:=q9 c0
 have HF:=q8 hF
 have HC:=q8 hC
 clear hF hC
 go_enter Tryz.func48,Tryz.ntmps48
 go_wp2_with fail
 refine (Vi C r x.fin.onn x.fin.onr _ (HC.out.r.below bZ)).mono ?_
 rintro e w1 ⟨rfl,hb1⟩
 have HB1:Hid (Below w.heap.size w w1):=Below.trans bZ (hb1.mono (by simp))
 have HT:Hid (tkB r x=(isV r (x.fin.onr,x.fin.onn) || x.phis.any (tkP r))):=rfl
 have cu:=qg hb1 (k:=w.heap.size) (by simp) (qq (w:=w) rfl)
 obtain ⟨hcu,hfu⟩:=blk cu
 have zu:=qd cu
 cases hm:isV r (x.fin.onr,x.fin.onn)
 ·rw [hm] at HT
  clear hb1 hm
  have hc1:w1.cell? ⟨I,0,none⟩=some (.func (.func 44) #[] #[.pointer (some ⟨C,0,none⟩)]):=(HB1.out.cell (p:=⟨I,0,none⟩) cz).trans c0
  go_wp2_with fail
  refine (hasP_any I C r x.phis q1 c1 w1 hl (HF.out.mono HB1.out (by omega) fun _ _ h=>h.below HB1.out) (HC.out.below HB1.out)).mono ?_
  rintro e w2 ⟨rfl,hb2⟩
  go_wp2_with fail
  go_ret
  exact ⟨by rw [HT.out];rfl,HB1.out.trans (hb2.mono HB1.out.size)⟩
 rw [hm] at HT
 clear hb1 hm
 go_wp2_with fail
 go_ret
 exact ⟨by rw [HT.out];rfl,HB1.out⟩

theorem VS (I C:Nat) (r:Int) (xs:List BlkL) (p:Option Addr) (c:Nat) (w:World) (hl:xs.length≤9223372036854775807) (hF:SliceAt w 6 (BlkR w) p xs) (hC:IsAt I C r w) :
  Calls Tryz.prog 76 #[.slice p xs.length c,.func (.func 48) #[] #[.pointer (some ⟨I,0,none⟩)]] w fun e w'=>(∃m:Int,e = .returned (.int .i64 m)∧Hid (decide (0≤m)=xs.any (tkB r)))∧Below w.heap.size w w':=by
 have HF:=q8 hF
 have HC:=q8 hC
 clear hF hC
 go_enter Tryz.func76,Tryz.ntmps76
 go_wp2
 go_loopw [8] (fun i wr=>∃k:Nat,k≤xs.length∧i = .int .i64 k∧(∀j (h:j<xs.length),j<k→tkB r xs[j]=false)∧Below w.heap.size w wr) (fun i _=>xs.length - (intOf i).toNat)
 case atStart=>exact ⟨0,by omega,rfl,fun j _ h=>by omega,Below.refl _ _⟩
 case round=>
  obtain ⟨k,hk,rfl,hV,hb⟩:=hrel
  have HV:=q8 hV
  have HBw:=q8 hb
  clear hV hb
  by_cases hlt:k<xs.length
  rotate_left
  ·go_wp2_with fail
   go_ret
   exact ⟨⟨_,rfl,by rw [xN fun j hj=>HV.out j hj (by omega)];rfl⟩,HBw.out⟩
  obtain ⟨b,o,q1,c1,q2,c2,q3,c3,hp,e0,e1,e2,e3,e4,e5,_,_,hl1,_,_,hs1,_,_⟩:=jH HF.out HBw.out hlt
  subst hp
  have bz:=q9 e0
  go_wp2_with fail
  refine (isBlk_any I C r xs[k] q1 q2 q3 _ c1 c2 _ c3 _ (by omega) hs1 (HC.out.below HBw.out)).mono ?_
  rintro e w3 ⟨rfl,hb3⟩
  have HB3:=q8 hb3
  have HE:Hid (∃q,q=tkB r xs[k]):=⟨_,rfl⟩
  clear hb3
  cases hm:tkB r xs[k]
  ·have HM:=q8 hm
   clear hm HE
   go_wp2_with fail
   refine ⟨⟨k+1,by omega,by go_num,fun j hj hjk=>?_,HBw.out.trans (HB3.out.mono HBw.out.size)⟩,by simp [intOf];omega⟩
   by_cases hj2:j<k
   ·exact HV.out j hj hj2
   obtain rfl:j=k:=by omega
   exact HM.out
  have HM:=q8 hm
  clear hm HE
  go_wp2_with fail
  go_ret
  exact ⟨⟨_,rfl,by rw [jn hlt HM.out];exact decide_eq_true (by omega)⟩,HBw.out.trans (HB3.out.mono HBw.out.size)⟩
theorem hasB_any (I C:Nat) (r:Int) (xs:List BlkL) (p:Option Addr) (c:Nat) (w:World) (hl:xs.length≤9223372036854775807) (hF:SliceAt w 6 (BlkR w) p xs) (hC:IsAt I C r w) :
  Calls Tryz.prog 47 #[.slice p xs.length c,.func (.func 48) #[] #[.pointer (some ⟨I,0,none⟩)]] w fun e w'=>e = .returned (.bool (xs.any (tkB r)))∧Below w.heap.size w w':=by
 have HI:=q8 (VS I C r xs p c w hl hF hC)
 clear hF hC
 go_enter Tryz.func47,Tryz.ntmps47
 go_wp2_with fail
 refine HI.out.mono ?_
 rintro e w1 ⟨⟨m,rfl,hm⟩,hb1⟩
 have hm2:=hm.out
 clear hm
 go_wp2_with fail
 go_ret
 refine ⟨?_,hb1⟩
 rw [←hm2]
 rfl
end Go.Proofs.YtgjjhadbjmcnpaaGreatDoor
