/-
  The contracts of dom.meet and dom.Rules.
-/
import Derived.Test.YtgjjhadbjmcnpaaGreatDoorJCalO
import Derived.Maps.OwnIn
import Derived.Laws.EntriesVeiled
import Derived.Shelf.Slices.Reverse
import Derived.Shelf.SlSortCmp.WholeK
import Derived.Shelf.SlSortCmp.NoneTotal
set_option maxRecDepth 100000
set_option maxHeartbeats 16000000
namespace Go.Proofs.YtgjjhadbjmcnpaaGreatDoor
open Go.RowKit Go.Shelf

abbrev PostS:=(Nat->Bool)×List Int
def xL (rec:Nat->PostS->PostS) (s:PostS) (t:Int):PostS:=if s.1 t.toNat then s else rec t.toNat s
def xN (rec:Nat->PostS->PostS) (xs:List Int) (s:PostS):Nat->PostS
 | 0=>s
 | i+1=>xL rec (xN rec xs s i) (xs.getD (xs.length - 1 - i) 0)
def xV (b:Nat) (s:PostS):PostS:=(fun j=>if j=b then true else s.1 j,s.2)
def vN (tos:Nat->List Int):Nat->Nat->PostS->PostS
 | 0,_,s=>s
 | c+1,b,s=>((xN (vN tos c) (tos b) (xV b s) (tos b).length).1,(xN (vN tos c) (tos b) (xV b s) (tos b).length).2++[(b:Int)])

theorem XX {b:Nat} {s:PostS} {j:Nat} (h:s.1 j=true):(xV b s).1 j=true:=by
 show(if j=b then true else s.1 j)=true
 split
 ·rfl
 exact h
theorem vE {n b:Nat} {s:PostS} (hb:b<n) (h:s.1 b=false):j6 n (xV b s).1<j6 n s.1:=
 Yw (fun _=>XX) hb h (by show(if b=b then true else _)=true;simp)

structure VisOk (n:Nat) (s s':PostS):Prop where
 up:∀j,s.1 j=true->s'.1 j=true
 many:s'.2.length+j6 n s'.1<=s.2.length+j6 n s.1
theorem VisOk.refl (n:Nat) (s:PostS):VisOk n s s:=⟨fun _ h=>h,zK _⟩
theorem VisOk.trans {n:Nat} {a b c:PostS} (h:VisOk n a b) (k:VisOk n b c):VisOk n a c:=⟨fun j e=>k.up j (h.up j e),yv k.many h.many⟩

theorem Zh {n:Nat} {rec:Nat->PostS->PostS} {xs:List Int} (hx:∀x∈xs,0<=x/\x<(n:Int)) {s:PostS} (h:∀b s',b<n->s'.1 b=false->VisOk n s s'->VisOk n s' (rec b s')):∀i,i<=xs.length->VisOk n s (xN rec xs s i)
 | 0,_=>VisOk.refl _ _
 | i+1,hi=>by
  have ih:=Zh hx h i bO;show VisOk n s (xL rec (xN rec xs s i) (xs.getD (xs.length - 1 - i) 0));unfold xL;have hk:xs.length - 1 - i<xs.length:=by omega
  have hm:=hx _ (zP hk);rw[yO,zj hk];cases e:(xN rec xs s i).1 (xs[xs.length - 1 - i]).toNat
  ·rw[show((some xs[xs.length - 1 - i]).getD 0)=xs[xs.length - 1 - i]from rfl,e];exact ih.trans (h _ _ bO e ih)
  rw[show((some xs[xs.length - 1 - i]).getD 0)=xs[xs.length - 1 - i]from rfl,e];exact ih
theorem VM {n:Nat} {tos:Nat->List Int} (hT:∀b,b<n->∀x∈tos b,0<=x/\x<(n:Int)):∀(c b:Nat) (s:PostS),b<n->s.1 b=false->VisOk n s (vN tos c b s)
 | 0,_,s,_,_=>VisOk.refl n s
 | c+1,b,s,hb,h=>by
  have h1:=vE (n:=n) hb h;have h2:=Zh (n:=n) (rec:=vN tos c) (xs:=tos b) (hT b hb) (s:=xV b s) (fun b' s' hb' h' _=>VM hT c b' s' hb' h') (tos b).length (zK _);refine⟨fun j e=>h2.up j (XX e),?_⟩;have h3:=h2.many;have h4:(xV b s).2=s.2:=rfl;rw[h4]at h3;show((xN (vN tos c) (tos b) (xV b s) (tos b).length).2++[(b:Int)]).length+_<=_;rw[yN];show _+1+j6 n (xN (vN tos c) (tos b) (xV b s) (tos b).length).1<=_;omega

structure PostM (W:World) (V L n B:Nat) (tb ti:TypeId) (tl:TypeId) (lv:Value) (s:PostS):Prop where
 seen:W.rowIs V tb n (fun j=>.bool (s.1 j))
 var:W.heap[L]?=some (.cells #[lv] tl (0,0))
 own:W.ownsRow B ti 1 lv s.2.length (s.2.map (Z))
structure PostI (W0:World) (lv0:Value) (V L n B:Nat) (tb ti tl:TypeId) (lv:Value) (s:PostS) (W:World):Prop where
 st:PostM W V L n B tb ti tl lv s
 kept:Kept (fun k=>k=V\/k=L\/some k=lv0.ownBlock) W0 W
 blk:lv.ownBlock=lv0.ownBlock\/∃k,lv.ownBlock=some k/\W0.heap.size<=k

theorem PostI.trans {W0 W1 W2:World} {lv0 lv1 lv2:Value} {V L n B:Nat} {tb ti tl:TypeId} {s1 s2:PostS} (h:PostI W0 lv0 V L n B tb ti tl lv1 s1 W1) (k:PostI W1 lv1 V L n B tb ti tl lv2 s2 W2):PostI W0 lv0 V L n B tb ti tl lv2 s2 W2 where
 st:=k.st
 kept:=h.kept.trans k.kept fun i hi hS=>by
  rcases hS with e|e|e
  ·exact .inl e
  ·exact .inr (.inl e)
  rcases h.blk with g|⟨q,g,hq⟩
  ·exact .inr (.inr (e.trans g))
  rw[g]at e;injection e with e;omega
 blk:=by
  rcases k.blk with g|⟨q,g,hq⟩
  ·rcases h.blk with g2|⟨q,g2,hq⟩
   ·exact .inl (g.trans g2)
   exact .inr ⟨q,g.trans g2,hq⟩
  exact .inr ⟨q,g,yv h.kept.size hq⟩
theorem PostI.base {w1 W0 W:World} {lv0 lv:Value} {V L n B:Nat} {tb ti tl:TypeId} {s s0:PostS} (h:PostI W0 lv0 V L n B tb ti tl lv s W) (h0:PostM W0 V L n B tb ti tl lv0 s0) (hB:w1.heap.size<=B) (hk:Kept (fun k=>k=V\/k=L) w1 W0):Kept (fun k=>k=V\/k=L) w1 W:=
 hk.trans h.kept fun i hi hS=>by
  rcases hS with e|e|e
  ·exact .inl e
  ·exact .inr e
  have:=(h0.own.lt i e.symm).1;omega
theorem PostM.grown {W W':World} {V L n B:Nat} {tb ti tl:TypeId} {lv:Value} {s:PostS} {row:Option Nat} (h:PostM W V L n B tb ti tl lv s) (hg:W.grownBy W' row) (hr:∀r,row=some r->∃o:Obj,W.heap[r]?=some o/\o.isCells=false):PostM W' V L n B tb ti tl lv s where
 seen:=h.seen.of_block (hg.block V h.seen.lt (fun e=>by
  obtain⟨o,ho,hc⟩:=hr V e.symm;obtain⟨cs,hcs⟩:=h.seen;rw[hcs.1]at ho
  cases ho;cases hc))
 var:=(hg.block L (yL.1 h.var).1 (fun e=>by
  obtain⟨o,ho,hc⟩:=hr L e.symm;rw[h.var]at ho
  cases ho;cases hc)).trans h.var
 own:=h.own.kept hg (by
  rcases h.own.2 with⟨hv,_⟩|⟨g,cap,cur,hv,_,hh,_⟩
  ·rw[hv];exact .inl rfl
  right;rw[hv];intro e;obtain⟨o,ho,hc⟩:=hr g e.symm;rw[hh]at ho
  cases ho;cases hc)
theorem KA {W0:World} {lv0:Value} {V L n B B':Nat} {tb ti tl:TypeId} (hB:W0.heap.size<=B') (g:Nat->PostS):OwnFrom B' (fun i W=>∃lv,PostI W0 lv0 V L n B tb ti tl lv (g i) W):=by
 rintro s W W' row ⟨lv,h⟩ hg hr;refine⟨lv,h.st.grown hg (fun r e=>(hr r e).2),?_,h.blk⟩;exact⟨hg.os.trans h.kept.os,hg.tape.trans h.kept.tape,hg.output.trans h.kept.output,yv h.kept.size hg.size,fun k hk hn=>(hg.block k (xB hk h.kept.size) (fun e=>by have:=(hr k e.symm).1;omega)).trans (h.kept.block k hk hn)⟩
theorem PostM.loc {W W':World} {V L n B:Nat} {tb ti tl:TypeId} {lv:Value} {s:PostS} (h:PostM W V L n B tb ti tl lv s) (hb:Below W.heap.size W W'):PostM W' V L n B tb ti tl lv s:=
 ⟨h.seen.of_block (hb.block V h.seen.lt),(hb.block L (yL.1 h.var).1).trans h.var,Q2 h.own hb⟩
theorem PostI.here {W:World} {V L n B:Nat} {tb ti tl:TypeId} {lv:Value} {s:PostS} (h:PostM W V L n B tb ti tl lv s):PostI W lv V L n B tb ti tl lv s W:=⟨h,Kept.refl _ _,.inl rfl⟩
theorem PostI.below {W0 W W':World} {lv0:Value} {V L n B:Nat} {tb ti tl:TypeId} {lv:Value} {s:PostS} (h:PostI W0 lv0 V L n B tb ti tl lv s W) (hb:Below W.heap.size W W'):PostI W0 lv0 V L n B tb ti tl lv s W':=
 h.trans ⟨h.st.loc hb,Kept.of_below hb,.inl rfl⟩
attribute [local go_sem] Oper.semAt_some

def tosB (bs:List BlkL) (b:Nat):List Int:=match bs[b]? with|some x=>x.fin.to|none=>[]
theorem xm {bs:List BlkL} {b:Nat} (h:b<bs.length):tosB bs b=bs[b].fin.to:=by
 unfold tosB;rw[zj h]

theorem PostI.off {W0 W:World} {lv0 lv:Value} {V L n B:Nat} {tb ti tl:TypeId} {s s0:PostS} (_h:PostI W0 lv0 V L n B tb ti tl lv s W) (h0:PostM W0 V L n B tb ti tl lv0 s0) {k:Nat} {o:Obj} (hk:W0.heap[k]?=some o) (ho:o.isCells=false):¬ (k=V\/k=L\/some k=lv0.ownBlock):=by
 rintro(e|e|e)
 ·subst e;obtain⟨cs,hcs⟩:=h0.seen;rw[hcs.1]at hk;cases hk;cases ho
 ·subst e;rw[h0.var]at hk;cases hk;cases ho
 rcases h0.own.2 with⟨hv,_⟩|⟨g,cap,cur,hv,_,hh,_⟩
 ·rw[hv]at e;cases e
 rw[hv]at e;injection e with e;subst e;rw[hh]at hk;cases hk;cases ho
theorem PostI.keeps {W0 W:World} {lv0 lv:Value} {V L n B:Nat} {tb ti tl:TypeId} {s s0:PostS} (h:PostI W0 lv0 V L n B tb ti tl lv s W) (h0:PostM W0 V L n B tb ti tl lv0 s0) (B':Nat):KeepsFrom B' W0 W:=
 ⟨h.kept.size,fun k _ _ hk ho=>(h.kept.block k (yL.1 hk).1 (h.off h0 hk ho)).trans hk⟩

theorem XY (bs:List BlkL) (fp:Option Addr) (fc:Nat) (w1:World) (hl:bs.length<=100000) (h2:∀k (h:k<bs.length),bs[k].fin.to.length<=2) (hT:∀b,b<bs.length->∀x∈tosB bs b,0<=x/\x<(bs.length:Int)) (V H G X L:Nat)
  (hVz:V<w1.heap.size) (hLz:L<w1.heap.size) (hVL:V≠L) (hHV:H≠V) (hHL:H≠L) (hGV:G≠V) (hGL:G≠L) (hXV:X≠V) (hXL:X≠L) (w00:World) (hnG:Below w00.heap.size w00 w1) (hF0:SliceAt w00 6 (BlkR w00) fp bs) (hV0:w00.heap.size<=V) (hL0:w00.heap.size<=L)
  (cH:w1.cell? (J H 0)=some (.slice (some (J V 0)) bs.length bs.length)) (cG:w1.cell? (J G 3)=some (.slice fp bs.length fc)) (cX:w1.cell? (J X 0)=some (.func (.func 110) #[] #[.pointer (some (J H 0)),.pointer (some (J G 0)),.pointer (some (J X 0)),.pointer (some (J L 0))])) :
  ∀(c:Nat) (s:PostS) (lv:Value) (W:World) (b:Nat),j6 bs.length s.1<c->b<bs.length->s.1 b=false->s.2.length+j6 bs.length s.1<=bs.length->Kept (fun k=>k=V\/k=L) w1 W->PostM W V L bs.length w1.heap.size 4 3 45 lv s->
   Calls Tryz.prog 110 #[Z b,.pointer (some (J H 0)),.pointer (some (J G 0)),.pointer (some (J X 0)),.pointer (some (J L 0))] W fun e W'=>e = .returned (.tuple #[])/\∃lv',PostI W lv V L bs.length w1.heap.size 4 3 45 lv' (vN (tosB bs) c b s) W':=by
 obtain⟨i1,k1,k2,k3,k4⟩:=info_parts infoInt3;have HF0:=q8 hF0;have HT:=q8 hT;have H2:=q8 h2;have hjZ:=q8 hnG;clear hF0 hT h2 hnG;intro c
 induction c with
 | zero=>intro s lv W b h;omega
 | succ c ih=>
  intro s lv W b hc hb hs hm hk hM;have IH:=q8 ih;have hmk:=vE (n:=bs.length) hb hs;have gH:=hk.cell (p:=(J H 0)) (q9 cH) (fun e=>e.elim hHV hHL);have gG:=hk.cell (p:=(J G 3)) (q9 cG) (fun e=>e.elim hGV hGL);rw[cH]at gH;rw[cG]at gG;have zV:=hM.seen.lt;have cV:=hM.seen.cell hb;have fV:=hM.seen.frozen b;have zG:=q9 gG;have zH:=q9 gH;have hek:Below w00.heap.size w00 W:=hjZ.out.trans (Kept.below (S:=fun k=>k=V\/k=L) hk hjZ.out.size (fun i e=>by rcases e with e|e<;>omega));obtain⟨fb,fo,q1,c1,q2,c2,q3,c3,hp,e0,_,_,_,_,e5,_,_,_,_,_,_,_,hts⟩:=vw HF0.out (zI _ _) hb;have hbb:fb<w00.heap.size:=q9 e0;subst hp;have hfV:fb≠V:=by omega
  have e5:=(hek.cell (p:=(J fb (fo+b*6+5))) hbb).trans e5;have zfb:fb<W.heap.size:=q9 e5;have HM:=q8 hM;have HK:=q8 hk;have HTS:=q8 hts;have HS:=q8 hs;have HW0:=q8 hek;have HVL:=q8 hVL;have HMK:=q8 hmk;clear ih hk hM hts e0 hs hek hmk;refine(callsIn_wide (n:=3)).1 ?_;refine callsIn_of_wp_marks Tryz.func110 rfl trivial ?_ rfl;simp only[Tryz.ntmps110,List.size_toArray,yi,List.length_nil,Nat.reduceAdd,Nat.reduceSub,Array.replicate_succ,Array.replicate_zero,List.push_toArray,List.append_toArray,List.nil_append,List.cons_append];have huP:=hfV.symm;have huQ:=hHV.symm;have huR:=hGV.symm
  gi_wp2_with (refine⟨trivial,?_⟩;gi_at_call 111;refine((callsIn_wide (n:=2)).2 (JP _ _ _ _)).mono ?_;rintro e w2 ⟨rfl,rfl⟩)
  gi_wp2
  obtain⟨W0,hW0⟩:=nZ ((W.setCell (J V b) (.bool true)).alloc (.cells #[.slice q3 bs[b].fin.to.length c3] 45));rw[←hW0];have hz0:W0.heap.size=W.heap.size+1:=by rw[hW0];simp
  have hgW:W.grownBy (W.setCell (J V b) (.bool true)) (some V):=⟨rfl,rfl,rfl,by rw[yK];exact zK _,fun i _ hne=>zJ _ _ _ _ (fun e=>hne (by rw[e]))⟩
  have hM1:PostM (W.setCell (J V b) (.bool true)) V L bs.length w1.heap.size 4 3 45 lv (xV b s):=by
   refine⟨(HM.out.seen.set b (.bool true)).congr fun j _=>?_,(hgW.block L (qd HM.out.var) (fun e=>HVL.out (by injection e with e;exact e.symm))).trans HM.out.var,HM.out.own.kept hgW (.inr fun e=>?_)⟩
   ·show(if j=b then Value.bool true else Value.bool (s.1 j))=Value.bool (if j=b then true else s.1 j)
    split<;>rfl
   have:=(HM.out.own.lt V e).1;omega
  have hP0:PostI W lv V L bs.length w1.heap.size 4 3 45 lv (xV b s) W0:=by
   have h1:PostI W lv V L bs.length w1.heap.size 4 3 45 lv (xV b s) (W.setCell (J V b) (.bool true)):=⟨hM1,Kept.of_grown hgW (fun g e=>.inl (by injection e with e;exact e.symm)),.inl rfl⟩;rw[hW0];exact h1.below ((zI _ _).alloc (zK _) _)
  have hb0:Below w00.heap.size w00 W0:=by
   rw[hW0];exact(HW0.out.setCell (by exact hV0) _).alloc (by have:=HW0.out.size;simp;omega) _
  have hnH:W0.cell? (J W.heap.size 0)=some (.slice q3 bs[b].fin.to.length c3):=by
   rw[hW0];exact(blk (qr (w:=W.setCell (J V b) (.bool true)) bV)).1 0
  have hsh:BackSh W.heap.size q3 c3 bs[b].fin.to W0:=⟨hnH,fun i hi=>by
   obtain⟨b',o',h1,h2,_⟩:=Km HTS.out hb0 hi
   exact⟨b',o',h1,h2⟩⟩
  have hq3:∀b' o',q3=some (J b' o')->0<bs[b].fin.to.length->b'<w00.heap.size:=fun b' o' e h0=>by
   obtain⟨b2,o2,h1,h2,_⟩:=Km HTS.out (zI _ _) h0;rw[e]at h1;cases h1;exact q9 h2
  have HTB:Hid (tosB bs b=bs[b].fin.to):=xm hb;have hl2:=H2.out b hb;have hTb:=HT.out b hb;rw[HTB.out]at hTb;have HP0:=q8 hP0;have HSH:=q8 hsh;have HQ3:=q8 hq3;have HTb:=q8 hTb;clear hW0 hP0 hsh hb0 hnH hM1 hgW hq3 hTb e5;generalize hto:bs[b].fin.to=tq at *;clear hto
  refine jA rfl bO (gf:=126) (lb:=#[.pointer (some (J W.heap.size 0))]) rfl trivial (enters_of Tryz.func126 bK rfl)
   (back_at Fence.wide 2 trivial rfl bO W.heap.size c3 q3 tq W0 bO HSH.out) (fun h k x=>k (h x)) (fun W l o o' _ hl ho _ h=>h.putObj o' hl ho) (zI _ _) (fun i _=>rfl)
   (fun i W'=>(∃lv',PostI W0 lv V L bs.length w1.heap.size 4 3 45 lv' (xN (vN (tosB bs) c) tq (xV b s) i) W')/\BackSh W.heap.size q3 c3 tq W') (fun _ _ _=>False)
   ((KA (zK _) _).and own_back) (fun _ _ _ _ _ hs _ _=>hs) ⟨⟨lv,PostI.here HP0.out.st⟩,HSH.out⟩
   (fun i=>{ tmps:=#[Z b,.pointer (some (J H 0)),.pointer (some (J G 0)),.pointer (some (J X 0)),.pointer (some (J L 0)),undef,undef,Z (tq.getD (tq.length - 1 - i) 0),.slice (some (J V 0)) bs.length bs.length,Z b,.pointer (some (J V b)),.pointer (some (J G 3)),.slice (some (J fb fo)) bs.length fc,Z b,.pointer (some (J fb (fo+b*6))),.pointer (some (J fb (fo+b*6+2))),.pointer (some (J fb (fo+b*6+2+3))),.slice q3 tq.length c3,.func (.func 126) #[] #[.pointer (some (J W.heap.size 0))],Z ((tq.length - 1 - i:Nat):Int),Z (tq.getD (tq.length - 1 - i) 0),undef,undef,undef,undef,undef,undef,undef,undef,undef,undef,undef,undef],defers:=[] }) ?assign ?body ?fin ?stop
  case assign=>
   intro l i W K hi hK;unfold Kz
   gi_wp2
   exact hK
  case body=>
   rintro l i Wi hl hi ⟨⟨lv',hPi⟩,hSi⟩;have hk1:tq.length - 1 - i<tq.length:=(by omega);have hok:=Zh (n:=bs.length) (rec:=vN (tosB bs) c) HTb.out (s:=xV b s) (fun b' s' hb' h' _=>VM HT.out c b' s' hb' h') i bO;have hx:=HTb.out _ (zP hk1)
   have hgd:tq.getD (tq.length - 1 - i) 0=tq[tq.length - 1 - i]:=by
    rw[yO,zj hk1];rfl
   have HSU:Hid (xN (vN (tosB bs) c) tq (xV b s) (i+1)=xL (vN (tosB bs) c) (xN (vN (tosB bs) c) tq (xV b s) i) (tq[tq.length - 1 - i])):=by
    show _=xL _ _ _;rw[←hgd];rfl
   rw[hgd];obtain⟨t,ht⟩:∃t:Nat,tq[tq.length - 1 - i]=(t:Int):=⟨tq[tq.length - 1 - i].toNat,by omega⟩;rw[ht]at hx HSU;rw[ht];have htn:t<bs.length:=(by omega);generalize xN (vN (tosB bs) c) tq (xV b s) i=S at *;have hkb:=hPi.base HP0.out.st (zK _) (HP0.out.base HM.out (zK _) HK.out);have gH:=(hkb.cell (p:=(J H 0)) (q9 cH) (fun e=>e.elim hHV hHL)).trans cH;have gX:=(hkb.cell (p:=(J X 0)) (q9 cX) (fun e=>e.elim hXV hXL)).trans cX;have gS:=hPi.st.seen.cell htn;have hlo:j6 bs.length S.1<=j6 bs.length (xV b s).1:=QU hok.up;have hk7:=hok.many;have hsl:(xV b s).2.length=s.2.length:=rfl;have hdl:=HMK.out;have HPi:=q8 hPi;have HSi:=q8 hSi;have HKb:=q8 hkb;clear hgd ht hok hPi hSi hkb;cases hst:S.1 t
   ·rw[hst]at gS;have HST:=q8 hst;clear hst
    gi_wp2_with (refine⟨trivial,?_⟩;refine(CallsIn.inRound l (callsIn_wide.2 (IH.out S lv' Wi t bO htn HST.out bO HKb.out HPi.out.st))).mono ?_;rintro e W3 ⟨rfl,lv3,hP3⟩)
    gi_wp2
    have hhc:BackSh W.heap.size q3 c3 tq W3:=HSi.out.other fun b' o' v hc hor=>(hP3.kept.cell (p:=(J b' o')) (q9 hc) (fun e=>by
     have hw1:=HK.out.size;have hw0:=hjZ.out.size;rcases hor with h|⟨o2,h⟩
     ·rcases e with e|e|e
      ·have e2:b'=V:=e;omega
      ·have e2:b'=L:=e;omega
      have e2:some b'=lv'.ownBlock:=e;rcases HPi.out.blk with g|⟨q,g,hq⟩
      ·have:=(HM.out.own.lt b' (g.symm.trans e2.symm)).2;omega
      rw[g]at e2;injection e2 with e2;omega
     have h1:=HQ3.out b' o2 h bO;rcases e with e|e|e
     ·have e2:b'=V:=e;omega
     ·have e2:b'=L:=e;omega
     have:=(HPi.out.st.own.lt b' (show lv'.ownBlock=some b' from e.symm)).1
     omega)).trans hc
    refine⟨hP3.keeps HPi.out.st _,fun _=>hhc,⟨lv3,?_⟩,hhc⟩;rw[HSU.out];unfold xL;rw[show(t:Int).toNat=t from rfl,HST.out];exact HPi.out.trans hP3
   rw[hst]at gS;have HST:=q8 hst;clear hst
   gi_wp2
   refine⟨KeepsFrom.refl _ _,fun h=>h,⟨lv',?_⟩,HSi.out⟩;rw[HSU.out];unfold xL;rw[show(t:Int).toNat=t from rfl,HST.out];exact HPi.out
  case fin=>
   rintro D W2 hD ⟨⟨lv',hPi⟩,hSi⟩ hDl;have hok:=Zh (n:=bs.length) (rec:=vN (tosB bs) c) HTb.out (s:=xV b s) (fun b' s' hb' h' _=>VM HT.out c b' s' hb' h') tq.length (zK _)
   have HVF:Hid (vN (tosB bs) (c+1) b s=((xN (vN (tosB bs) c) tq (xV b s) tq.length).1,(xN (vN (tosB bs) c) tq (xV b s) tq.length).2++[(b:Int)])):=by
    show _=_;rw[←HTB.out];rfl
   have hk7:=hok.many;have hsl:(xV b s).2.length=s.2.length:=rfl;have hdl:=HMK.out;clear hok;generalize xN (vN (tosB bs) c) tq (xV b s) tq.length=S at *;obtain⟨m,d,hvv⟩:=vB hPi.st.own;subst hvv;have cL:=(blk hPi.st.var).1 0;have zL:=qd hPi.st.var;have fL:=(blk hPi.st.var).2;have HPi:=q8 hPi;have HDl:=q8 hDl;clear hPi hSi hDl;generalize hln:S.2.length=ln at *;have HLN:=q8 hln;clear hln
   gi_wp2_with (gi_at_builtin;refine wpListIn_append_own_at _ rfl _ _ 45 rfl w1.heap.size 3 i1 (Z 0) 1 8 Yv k1 k2 k3 k4 rfl (by decide) _ _ _ rfl (show World.ownsRow _ _ _ _ _ _ _ from Q2 HPi.out.st.own ((zI _ _).alloc (zK _) _)) ⟨W2.heap.size,0,none⟩ 1 1 [Z b] rfl rfl (Qb _ _ _ _ rfl) (by simp[Value.oneCell']) ?_ ?_ ?_ ?_)
   ·have:=HLN.out;unfold maxLen;omega
   ·have:=HLN.out;omega
   ·have:=HK.out.size;have:=HPi.out.kept.size;simp;omega
   intro v' W5 hown' hgrow _ hat;obtain⟨g',cap',hv'⟩:=vT hown';subst hv';have hWz:W0.heap.size<=W2.heap.size:=HPi.out.kept.size;have huS:=HK.out.size;have hk8:∀k,(Value.slice m ln d).ownBlock=some k->w1.heap.size<=k/\k<W2.heap.size:=fun k e=>HPi.out.st.own.lt k e;have hPa:=HPi.out.below (W':=W2.alloc (.cells #[Z b] 3)) ((zI _ _).alloc (zK _) _);have hcM:=hPa.st.seen.of_block (hgrow.block V hPa.st.seen.lt (fun e=>by have:=(hk8 V e.symm).1;omega));have hcN:=(hgrow.block L (qd hPa.st.var) (fun e=>by have:=(hk8 L e.symm).1;omega)).trans hPa.st.var;have hk5:Kept (fun k=>k=V\/k=L\/some k=(Value.slice m ln d).ownBlock) W2 W5:=((Kept.refl _ W2).alloc _).trans (Kept.of_grown (S:=fun k=>some k=(Value.slice m ln d).ownBlock) hgrow (fun g e=>e.symm)) (fun i _ e=>.inr (.inr e));have hgS:W5.grownBy (W5.setCell (J L 0) (.slice (some (J g' 0)) (S.2.length+1) cap')) (some L):=⟨rfl,rfl,rfl,by rw[yK];exact zK _,fun i _ hne=>zJ _ _ _ _ (fun e=>hne (by rw[e]))⟩
   have hP5:PostI W2 (.slice m ln d) V L bs.length w1.heap.size 4 3 45 (.slice (some (J g' 0)) (S.2.length+1) cap') (S.1,S.2++[(b:Int)]) (W5.setCell (J L 0) (.slice (some (J g' 0)) (S.2.length+1) cap')):=by
    refine⟨⟨hcM.of_block (hgS.block V hcM.lt (fun e=>HVL.out (by injection e))),?_,?_⟩,hk5.setCell (.inr (.inl rfl)) _,?_⟩
    ·have:=VC hcN 0 (.slice (some (J g' 0)) (S.2.length+1) cap');simpa using this
    ·have h1:W5.ownsRow w1.heap.size 3 1 (.slice (some (J g' 0)) (S.2.length+1) cap') (S.2++[(b:Int)]).length ((S.2++[(b:Int)]).map (Z)):=by
      rw[yN,yW];exact hown'
     exact h1.kept hgS (.inr fun e=>by have:=(h1.lt L e).1;omega)
    rcases hat with e|e
    ·exact .inl e
    exact .inr ⟨_,e,by simp⟩
   have hD5:(W5.setCell (J L 0) (.slice (some (J g' 0)) (S.2.length+1) cap')).heap[D]?=some (.deferred (some [])):=(hP5.kept.block D (qd HDl.out) ((PostI.here HPi.out.st).off HPi.out.st HDl.out rfl)).trans HDl.out;have hPZ:=(HP0.out.trans HPi.out).trans hP5;have cL5:=(blk hcN).1 0;have fL5:=(blk hcN).2;have zL5:=qd hcN;have HPZ:=q8 hPZ;have HD5:=q8 hD5;clear hown' hgrow hat hPa hcM hk5 hgS hP5 hD5 hPZ hcN hk8
   gi_wp2
   show LeavesInM _ _ _ _ _ _ (X8 [D]) .returning _;refine xK W0.heap.size [D] _ bV (fun E hE=>?_) (fun w' h1 h2 h3 h4 h5=>⟨_,results_none rfl _ _ _,rfl,?_⟩)
   ·rw[yI]at hE;subst hE;exact⟨hD,HD5.out⟩
   rw[HVF.out];refine KA (B':=W0.heap.size) bO (fun _=>(S.1,S.2++[(b:Int)])) 0 _ w' (some D) ⟨_,HPZ.out⟩ ⟨h1,h2,h3,h4,fun k _ hne=>h5 k (fun hk=>hne (by rw[yI]at hk;rw[hk]))⟩ (fun r e=>?_);injection e with e;subst e;exact⟨hD,_,HD5.out,rfl⟩
  case stop=>
   rintro D c i W2 _ _ h _;exact h.elim
end Go.Proofs.YtgjjhadbjmcnpaaGreatDoor
namespace Go.Proofs.YtgjjhadbjmcnpaaGreatDoor
open Go.RowKit Go.Shelf

theorem VN:Tryz.prog.underlying 74=some (.slice 4):=by kernel_rfl
theorem infoBool3:(Tryz.prog.info? 4).map (fun i=>(i.zero,i.size,i.bytes))=some (some (.bool false),1,1):=by kernel_rfl

def ko (bs:List BlkL):List Int:=(vN (tosB bs) (bs.length+1) 0 (fun _=>false,[])).2
theorem vY (n:Nat) (p:Nat->Bool):j6 n p<=n:=by
 unfold j6;exact yv (List.length_filter_le _ _) bV

theorem post_any (f:FunL) (fp:Option Addr) (fc:Nat) (w:World) (hn:0<f.blocks.length) (hl:f.blocks.length<=100000) (h2:∀k (h:k<f.blocks.length),f.blocks[k].fin.to.length<=2) (hT:∀b,b<f.blocks.length->∀x∈tosB f.blocks b,0<=x/\x<(f.blocks.length:Int)) (hF:SliceAt w 6 (BlkR w) fp f.blocks) :
  Calls Tryz.prog 99 #[.agg #[.string f.name,Z f.params,Z f.regs,.slice fp f.blocks.length fc]] w fun e w'=>∃v,e = .returned v/\w'.ownsRow w.heap.size 3 1 v (ko f.blocks).length ((ko f.blocks).map (Z))/\Below w.heap.size w w':=by
 obtain⟨i1,k1,k2,k3,k4⟩:=info_parts infoBool3;have hmk:=run_make_row 74 4 i1 (.bool false) VN k1 k2 k3 rfl .i64 .i64 f.blocks.length (by rw[k4];omega) bO;have HF:=q8 hF;have H2:=q8 h2;have HT:=q8 hT;clear hF h2 hT
 go_enter Tryz.func99,Tryz.ntmps99
 go_wp2_with fail
 refine(XY f.blocks fp fc _ hl H2.out HT.out (w.heap.size+1+1) (w.heap.size+1+1+1) w.heap.size (w.heap.size+1+1+1+1) (w.heap.size+1) bV bV bO bO bO bO bO bO bO w bZ HF.out bO bO ?_ ?_ ?_ (f.blocks.length+1) (fun _=>false,[]) (.slice none 0 0) _ 0 (by have:=vY f.blocks.length (fun _=>false);exact Nat.lt_succ_of_le this) hn rfl (by have:=vY f.blocks.length (fun _=>false);simpa using this) (Kept.refl _ _) ?_).mono ?_
 ·exact(blk (qh (qr bV))).1 0
 ·exact(blk (qh (qh (qh (qh (qB w _)))))).1 3
 ·exact(blk (qr bV)).1 0
 ·refine⟨?_,qh (qh (qh (qr bV))),World.ownsRow_nil _ _ _ _⟩;have hM:=World.rowIs_made ((w.alloc (.cells #[.string f.name,Z f.params,Z f.regs,.slice fp f.blocks.length fc] 38)).alloc (.cells #[.slice none 0 0] 45)) (.bool false) f.blocks.length 4;have e:((w.alloc (.cells #[.string f.name,Z f.params,Z f.regs,.slice fp f.blocks.length fc] 38)).alloc (.cells #[.slice none 0 0] 45)).heap.size=w.heap.size+1+1:=by simp
  rw[e]at hM;exact(hM.alloc _).alloc _
 rintro e w2 ⟨rfl,lv,hP⟩;obtain⟨m,d,hv⟩:=vB hP.st.own;subst hv;have cL:=(blk hP.st.var).1 0
 have hb:Below w.heap.size w w2:=yo bZ (hP.kept.below bW fun i e=>by
  rcases e with e|e|e
  ·omega
  ·omega
  cases e)
 have HB:=q8 hb;have HO:=q8 (ki hP.st.own (B:=w.heap.size) bW);clear hP hb
 go_wp2
 exact zk (results_tmp (t:=2) rfl _ _ _) rfl ⟨_,rfl,HO.out,HB.out⟩
end Go.Proofs.YtgjjhadbjmcnpaaGreatDoor
namespace Go.Proofs.YtgjjhadbjmcnpaaGreatDoor

def Beh (tos:Nat->List Int) (P:Nat->Prop):List Nat->Prop
 | []=>True
 | x::l=>(P x\/∃p∈l,(x:Int)∈tos p)/\Beh tos P l
theorem Beh.append {tos:Nat->List Int} {P:Nat->Prop}:∀{l m:List Nat},Beh tos P l->Beh tos P m->Beh tos P (l++m)
 | [],_,_,h=>h
 | _::_,_,h,k=>⟨h.1.imp id fun⟨p,hp,e⟩=>⟨p,yE _ hp,e⟩,h.2.append k⟩
theorem Beh.mono {tos:Nat->List Int} {P Q:Nat->Prop} (hq:∀x,P x->Q x):∀{l:List Nat},Beh tos P l->Beh tos Q l
 | [],_=>trivial
 | _::_,h=>⟨h.1.imp (hq _) id,h.2.mono hq⟩
theorem Beh.snoc {tos:Nat->List Int} {b:Nat}:∀{l:List Nat},Beh tos (fun x=>(x:Int)∈tos b) l->Beh tos (fun x=>x=b) (l++[b])
 | [],_=>⟨.inl rfl,trivial⟩
 | _::l,h=>⟨.inr (h.1.elim (fun e=>⟨b,by simp,e⟩) fun⟨p,hp,e⟩=>⟨p,yE _ hp,e⟩),h.2.snoc⟩

structure VisP (n:Nat) (tos:Nat->List Int) (P:Nat->Prop) (s s':PostS) (l:List Nat):Prop where
 left:s'.2=s.2++l.map fun(x:Nat)=>(x:Int)
 seen:∀j,s'.1 j=true↔s.1 j=true\/j∈l
 fresh:∀j∈l,s.1 j=false/\j<n
 once:l.Nodup
 beh:Beh tos P l
theorem VisP.refl {n:Nat} {tos:Nat->List Int} {P:Nat->Prop} (s:PostS):VisP n tos P s s []:=⟨by simp,by simp,by simp,List.nodup_nil,trivial⟩
theorem VisP.trans {n:Nat} {tos:Nat->List Int} {P:Nat->Prop} {a b c:PostS} {l m:List Nat} (h:VisP n tos P a b l) (k:VisP n tos P b c m):VisP n tos P a c (l++m) where
 left:=by rw[k.left,h.left,yW,yF]
 seen:=fun j=>by rw[k.seen,h.seen,yH,or_assoc]
 fresh:=fun j hj=>by
  rcases yH.1 hj with g|g
  ·exact h.fresh j g
  obtain⟨h1,h2⟩:=k.fresh j g;refine⟨?_,h2⟩;cases e:a.1 j with
  | false=>rfl
  | true=>rw[(h.seen j).2 (.inl e)]at h1;cases h1
 once:=List.nodup_append.2 ⟨h.once,k.once,fun x hx y hy e=>by
  subst e;have h1:=(k.fresh x hy).1;rw[(h.seen x).2 (.inr hx)]at h1
  cases h1⟩
 beh:=h.beh.append k.beh
theorem VisP.mono {n:Nat} {tos:Nat->List Int} {P Q:Nat->Prop} {a b:PostS} {l:List Nat} (h:VisP n tos P a b l) (hq:∀x,P x->Q x):VisP n tos Q a b l:=⟨h.left,h.seen,h.fresh,h.once,h.beh.mono hq⟩
theorem VisP.up {n:Nat} {tos:Nat->List Int} {P:Nat->Prop} {a b:PostS} {l:List Nat} (h:VisP n tos P a b l):j6 n b.1<=j6 n a.1:=QU fun j e=>(h.seen j).2 (.inl e)

theorem visTo_p {n:Nat} {tos:Nat->List Int} {rec:Nat->PostS->PostS} {xs:List Int} (hx:∀x∈xs,0<=x/\x<(n:Int)) {s:PostS}
  (h:∀b s',b<n->s'.1 b=false->j6 n s'.1<=j6 n s.1->∃l,VisP n tos (fun x=>x=b) s' (rec b s') l):∀i,i<=xs.length->∃l,VisP n tos (fun x=>(x:Int)∈xs) s (xN rec xs s i) l
 | 0,_=>⟨[],VisP.refl s⟩
 | i+1,hi=>by
  obtain⟨l,ih⟩:=visTo_p hx h i bO;show ∃l,VisP n tos _ s (xL rec (xN rec xs s i) (xs.getD (xs.length - 1 - i) 0)) l;have hk:xs.length - 1 - i<xs.length:=by omega
  have hm:=hx _ (zP hk)
  have hg:xs.getD (xs.length - 1 - i) 0=xs[xs.length - 1 - i]:=by
   rw[yO,zj hk];rfl
  rw[hg];unfold xL;cases e:(xN rec xs s i).1 (xs[xs.length - 1 - i]).toNat
  ·obtain⟨m,h2⟩:=h (xs[xs.length - 1 - i]).toNat _ bO e ih.up;refine⟨l++m,ih.trans (h2.mono fun x hxe=>?_)⟩;have:(x:Int)=xs[xs.length - 1 - i]:=(by omega);rw[this];exact zP hk
  exact⟨l,ih⟩
theorem KB {n:Nat} {tos:Nat->List Int} (hT:∀b,b<n->∀x∈tos b,0<=x/\x<(n:Int)):∀(c b:Nat) (s:PostS),j6 n s.1<c->b<n->s.1 b=false->∃l,VisP n tos (fun x=>x=b) s (vN tos c b s) (l++[b])
 | 0,_,_,h,_,_=>by omega
 | c+1,b,s,hc,hb,hs=>by
  have h1:=vE (n:=n) hb hs
  obtain⟨l,h2⟩:=visTo_p (n:=n) (tos:=tos) (rec:=vN tos c) (xs:=tos b) (hT b hb) (s:=xV b s) (fun b' s' hb' h' hle=>by
   obtain⟨l,h⟩:=KB hT c b' s' bO hb' h'
   exact⟨_,h⟩) (tos b).length (zK _)
  have hfr:∀j∈l,j≠b/\s.1 j=false/\j<n:=fun j hj=>by
   obtain⟨h3,h4⟩:=h2.fresh j hj;have h5:(if j=b then true else s.1 j)=false:=h3
   by_cases e:j=b
   ·rw[zZ e]at h5;cases h5
   rw[zQ e]at h5;exact⟨e,h5,h4⟩
  refine⟨l,?_,fun j=>?_,fun j hj=>?_,?_,h2.beh.snoc⟩
  ·show(xN (vN tos c) (tos b) (xV b s) (tos b).length).2++[(b:Int)]=_;rw[h2.left,yW,←yF];rfl
  ·show(xN (vN tos c) (tos b) (xV b s) (tos b).length).1 j=true↔_;rw[h2.seen];show(if j=b then true else s.1 j)=true\/j∈l↔_
   by_cases e:j=b
   ·simp[e]
   simp[e]
  ·rcases yH.1 hj with g|g
   ·exact(hfr j g).2
   rw[yI]at g;subst g;exact⟨hs,hb⟩
  refine List.nodup_append.2 ⟨h2.once,by simp,fun x hx y hy e=>?_⟩;rw[yI]at hy;exact(hfr x hx).1 (e.trans hy)

theorem postL_is {bs:List BlkL} (h0:0<bs.length) (hT:∀b,b<bs.length->∀x∈tosB bs b,0<=x/\x<(bs.length:Int)) :
  ∃l:List Nat,ko bs=(l++[0]).map (fun(x:Nat)=>(x:Int))/\(l++[0]).Nodup/\(∀x∈l++[0],x<bs.length)/\Beh (tosB bs) (fun x=>x=0) (l++[0]):=by
 obtain⟨l,h⟩:=KB (n:=bs.length) hT (bs.length+1) 0 (fun _=>false,[]) (Nat.lt_succ_of_le (vY _ _)) h0 rfl;refine⟨l,?_,h.once,fun x hx=>(h.fresh x hx).2,h.beh⟩;have:=h.left;unfold ko;simpa using this
end Go.Proofs.YtgjjhadbjmcnpaaGreatDoor
namespace Go.Proofs
open Go.Shelf Go.Sort Go.RowKit Go.Lib
def Tryz.lays112_ren:Go.Shelf.Ren:=⟨fun|112=>100|n=>n,fun|28=>45|3=>3|0=>0|4=>4|n=>n,fun|n=>n⟩
theorem Tryz.lays112:Go.Proofs.Lays.n112 Tryz.prog Tryz.lays112_ren:={
 mixed:=by kernel_rfl
 f112:=Tryz.func100.trans (congrArg some (by kernel_rfl))
 t0:=Tryz.underlying0
 a0:=Tryz.isAgg0
 z0:=Tryz.sizeOf0
 v0:=Tryz.zeroValue0
 t3:=Tryz.underlying3
 a3:=Tryz.isAgg3
 z3:=Tryz.sizeOf3
 v3:=Tryz.zeroValue3
 t4:=Tryz.underlying4
 a4:=Tryz.isAgg4
 z4:=Tryz.sizeOf4
 v4:=Tryz.zeroValue4
 t28:=Tryz.underlying45
 a28:=Tryz.isAgg45
 z28:=Tryz.sizeOf45
 v28:=Tryz.zeroValue45 }
end Go.Proofs
namespace Go.Proofs.YtgjjhadbjmcnpaaGreatDoor
open Go.RowKit Go.Shelf Go.Lib Go.Sort

theorem VO (B:Nat) (p:Option Addr) (c:Nat) (zs:List Int) (n:Nat) (w:World) (h:w.ownsRow B 3 1 (.slice p n c) n (zs.map (.int .i64))) (hn:n<=1000000) :
  Calls Tryz.prog 100 #[.slice p n c] w fun e w'=>e = .returned (.tuple #[])/\w'.ownsRow B 3 1 (.slice p n c) n (zs.reverse.map (.int .i64))/\w.grownBy w' (Value.slice p n c).ownBlock:=by
 by_cases hv:(Value.slice p n c) = .slice none 0 0
 ·cases hv;have hz:zs=[]:=by have:=h.1;simpa using this
  subst hz;refine(Any.slices_Reverse_int_empty Tryz.lays112 none 0 w).mono ?_;rintro e w' ⟨rfl,rfl⟩;exact⟨rfl,(by simpa using h),⟨rfl,rfl,rfl,Nat.le_refl _,fun _ _ _=>rfl⟩⟩
 obtain⟨g,cap,hg,hb,hlt,hc,hm,hl,hH⟩:=holds_of_ownsRow h hv;cases hg;subst hl;refine(Any.slices_Reverse_int Tryz.lays112 g 0 c zs w hH (by omega)).mono ?_;rintro e w' ⟨rfl,q,rfl⟩;have h1:=ownsRow_putRow (ys:=zs.reverse) (q:=q) (k:=zs.length) h (by simp) (Nat.le_refl _);have e1:zs.reverse.take zs.length=zs.reverse:=List.take_of_length_le (by simp);rw[e1]at h1;exact⟨rfl,h1,JO⟩

def jR (bs:List BlkL):List Int:=(ko bs).reverse

theorem ZB (f:FunL) (fp:Option Addr) (fc:Nat) (w:World) (hn:0<f.blocks.length) (hl:f.blocks.length<=100000) (h2:∀k (h:k<f.blocks.length),f.blocks[k].fin.to.length<=2) (hT:∀b,b<f.blocks.length->∀x∈tosB f.blocks b,0<=x/\x<(f.blocks.length:Int)) (hF:SliceAt w 6 (BlkR w) fp f.blocks) (hpl:(ko f.blocks).length<=1000000) :
  Calls Tryz.prog 68 #[.agg #[.string f.name,.int .i64 f.params,.int .i64 f.regs,.slice fp f.blocks.length fc]] w fun e w'=>∃v,e = .returned v/\w'.ownsRow w.heap.size 3 1 v (jR f.blocks).length ((jR f.blocks).map (.int .i64))/\Below w.heap.size w w':=by
 have HF:=q8 hF;have H2:=q8 h2;have HT:=q8 hT;clear hF h2 hT
 go_enter Tryz.func68,Tryz.ntmps68
 go_wp2_with fail
 refine(post_any f fp fc _ hn hl H2.out HT.out (jY HF.out bZ)).mono ?_;rintro e w2 ⟨v,rfl,hO,hb⟩;obtain⟨m,d,hv⟩:=vB hO;subst hv;have HB:=q8 (show Below w.heap.size w w2 from Below.trans bZ (hb.mono (by simp)));have hO:=ki hO (B:=w.heap.size) (by simp);have HLo:=q8 (fun k (e:(Value.slice m (ko f.blocks).length d).ownBlock=some k)=>(hO.lt k e).1);have hzz:=HB.out.size;have HO:=q8 hO;clear hO hb
 go_wp2_with fail
 refine(VO _ _ _ _ _ _ HO.out hpl).mono ?_;rintro e w3 ⟨rfl,hO3,hg3⟩;have HO3:=q8 hO3;have HB3:=q8 (HB.out.grown hg3 (by omega) fun k e=>HLo.out k e);clear hO3 hg3
 go_wp2
 refine bodyPost_ret (results_tmp (t:=2) rfl _ _ _) rfl ⟨_,rfl,?_,HB3.out⟩;unfold jR;rw[List.length_reverse];exact HO3.out
end Go.Proofs.YtgjjhadbjmcnpaaGreatDoor
namespace Go.Proofs.YtgjjhadbjmcnpaaGreatDoor

inductive Ch (up:Nat->Nat):Nat->Nat->Prop where
 | refl (c):Ch up c c
 | step {c x}:c≠0->Ch up (up c) x->Ch up c x

structure DomI (R:Nat->Prop) (pl:Nat->Nat) (mk:Nat->Prop) (up:Nat->Nat):Prop where
 one:∀a b,R a->R b->pl a=pl b->a=b
 root:R 0
 rootAt:pl 0=0
 mk0:mk 0
 up0:up 0=0
 reach:∀c,mk c->R c
 mkUp:∀c,mk c->mk (up c)
 less:∀c,mk c->c≠0->pl (up c)<pl c

section
variable {R : Nat → Prop} {pl : Nat → Nat} {mk : Nat → Prop} {up : Nat → Nat}

theorem DomI.pos (h:DomI R pl mk up) {c:Nat} (hc:R c) (h0:c≠0):0<pl c:=by
 rcases Nat.eq_zero_or_pos (pl c)with e|e
 ·exact absurd (h.one _ _ hc h.root (by rw[e,h.rootAt])) h0
 exact e
theorem Ch.trans {a b c:Nat} (h:Ch up a b) (h2:Ch up b c):Ch up a c:=by
 induction h with
 | refl=>exact h2
 | step h0 _ ih=>exact .step h0 (ih h2)
theorem DomI.ch (h:DomI R pl mk up) {c x:Nat} (hx:Ch up c x):mk c->mk x/\pl x<=pl c:=by
 induction hx with
 | refl=>intro hc;exact⟨hc,zK _⟩
 | step h0 _ ih=>
  intro hc;have h1:=ih (h.mkUp _ hc);have h2:=h.less _ hc h0;exact⟨h1.1,by omega⟩
theorem DomI.chLess (h:DomI R pl mk up) {c x:Nat} (hc:mk c) (hx:Ch up c x) (hne:x≠c):pl x<pl c:=by
 cases hx with
 | refl=>exact absurd rfl hne
 | step h0 h1=>
  have h2:=h.less _ hc h0;have h3:=(h.ch h1 (h.mkUp _ hc)).2;omega
theorem DomI.line (h:DomI R pl mk up) {c x y:Nat} (hx:Ch up c x):mk c->Ch up c y->pl y<=pl x->Ch up x y:=by
 induction hx with
 | refl=>intro _ hy _;exact hy
 | step h0 h1 ih=>
  intro hc hy hl;cases hy with
  | refl=>
   have h2:=h.less _ hc h0;have h3:=(h.ch h1 (h.mkUp _ hc)).2;omega
  | step _ hy=>exact ih (h.mkUp _ hc) hy hl
structure Meets (up:Nat->Nat) (a b m:Nat):Prop where
 left:Ch up a m
 right:Ch up b m
 all:∀x,Ch up a x->Ch up b x->Ch up m x

def VP (up pl:Nat->Nat):Nat->Nat->Nat->Nat
 | 0,a,_=>a
 | k+1,a,b=>if a=b then a else if pl a<pl b then VP up pl k (up b) a else VP up pl k (up a) b

theorem DomI.meet (h:DomI R pl mk up):∀(k a b:Nat),pl a+pl b<k->mk a->mk b->Meets up a b (VP up pl k a b)
 | 0,_,_,hk,_,_=>by omega
 | k+1,a,b,hk,ha,hb=>by
  unfold VP
  by_cases e:a=b
  ·subst e;rw[zZ rfl];exact⟨.refl _,.refl _,fun x hx _=>hx⟩
  have hne:pl a≠pl b:=fun e2=>e (h.one _ _ (h.reach _ ha) (h.reach _ hb) e2);rw[zQ e]
  by_cases hl:pl a<pl b
  ·have hb0:b≠0:=fun e0=>by
    rw[e0,h.rootAt]at hl;omega
   have h2:=h.less _ hb hb0;rw[zZ hl];have ih:=h.meet k (up b) a bO (h.mkUp _ hb) ha;refine⟨ih.right,.step hb0 ih.left,fun x hx hy=>ih.all x ?_ hx⟩;cases hy with
   | refl=>have:=(h.ch hx ha).2;omega
   | step _ hy=>exact hy
  have ha0:a≠0:=fun e0=>by
   rw[e0,h.rootAt]at hl hne;omega
  have h2:=h.less _ ha ha0;rw[zQ hl];have ih:=h.meet k (up a) b bO (h.mkUp _ ha) hb;refine⟨.step ha0 ih.left,ih.right,fun x hx hy=>ih.all x ?_ hy⟩;cases hx with
  | refl=>have:=(h.ch hy hb).2;omega
  | step _ hx=>exact hx

def X9 (up:Nat->Nat) (c m:Nat) (a:Nat):Nat:=if a=c then m else up a
theorem vG {c m:Nat}:X9 up c m c=m:=by simp[X9]
theorem xW {c m a:Nat} (h:a≠c):X9 up c m a=up a:=by simp[X9,h]

structure DomJ (R:Nat->Prop) (pl:Nat->Nat) (ins:Nat->List Nat) (par:Nat->Nat) (j:Nat) (mk:Nat->Prop) (up:Nat->Nat):Prop extends DomI R pl mk up where
 parIn:∀c,R c->c≠0->par c∈ins c/\R (par c)/\pl (par c)<pl c
 down:∀c d,mk c->R d->pl d<=pl c->mk d
 past:∀d,R d->pl d<j->mk d
 two:∀c,mk c->c≠0->∀x,(∀p∈ins c,mk p->Ch up p x)->pl x<=pl (up c)
 calm:∀c,mk c->c≠0->(j<=pl (up c)\/pl c<j)->Ch up (par c) (up c)
 busy:∀c,mk c->c≠0->pl (up c)<j->j<=pl c->∀x,Ch up (par c) x->pl x<=pl (up c)->Ch up (up c) x

structure BestOf (ins:Nat->List Nat) (mk:Nat->Prop) (up:Nat->Nat) (c m:Nat):Prop where
 on:∀p∈ins c,mk p->Ch up p m
 all:∀x,(∀p∈ins c,mk p->Ch up p x)->Ch up m x

variable {ins : Nat → List Nat} {par : Nat → Nat} {j : Nat}

theorem DomJ.rise (h:DomJ R pl ins par j mk up) {c m:Nat} (hj:pl c=j) (h0:c≠0) (hb:BestOf ins mk up c m) (hc:mk c):Ch up (up c) m:=by
 have hl:=h.less _ hc h0;obtain⟨h1,h2,h3⟩:=h.parIn c (h.reach _ hc) h0;have hp:mk (par c):=h.past _ h2 bO;exact h.busy c hc h0 bO bO m (hb.on _ h1 hp) (h.two c hc h0 m hb.on)

theorem DomJ.turn (h:DomJ R pl ins par j mk up) {c m:Nat} (hR:R c) (hj:pl c=j) (h0:c≠0) (hb:BestOf ins mk up c m) :
  DomJ R pl ins par (j+1) (fun a=>a=c\/mk a) (X9 up c m):=by
 obtain⟨q1,q2,q3⟩:=h.parIn c hR h0;have hp:mk (par c):=h.past _ q2 bO;have hm:=h.ch (hb.on _ q1 hp) hp
 -- ways up only shrink
 have shrink:∀a x,Ch (X9 up c m) a x->mk a->Ch up a x:=by
  intro a x hx
  induction hx with
  | refl=>intro _;exact .refl _
  | @step a x ha0 _ ih=>
   intro ha
   by_cases e:a=c
   ·subst e;rw[vG]at ih;exact .step ha0 ((h.rise hj h0 hb ha).trans (ih hm.1))
   rw[xW e]at ih;exact .step ha0 (ih (h.mkUp _ ha))
 have keep:∀a x,Ch up a x->mk a->(pl c<=pl x\/pl a<pl c)->Ch (X9 up c m) a x:=by
  intro a x hx
  induction hx with
  | refl=>intro _ _;exact .refl _
  | @step a x ha0 hx ih=>
   intro ha hor;have h1:=h.less _ ha ha0;have h2:=(h.ch hx (h.mkUp _ ha)).2;have e:a≠c:=fun e=>by subst e;omega
   refine .step ha0 ?_;rw[xW e];exact ih (h.mkUp _ ha) bO
 have base:DomI R pl (fun a=>a=c\/mk a) (X9 up c m):={
  one:=h.one,root:=h.root,rootAt:=h.rootAt,mk0:=.inr h.mk0
  up0:=by rw[xW (Ne.symm h0)];exact h.up0
  reach:=fun a ha=>by
   rcases ha with e|ha
   ·rw[e];exact hR
   exact h.reach _ ha
  mkUp:=fun a ha=>by
   by_cases e:a=c
   ·rw[e,vG];exact .inr hm.1
   rw[xW e];exact .inr (h.mkUp _ (ha.resolve_left e))
  less:=fun a ha ha0=>by
   by_cases e:a=c
   ·rw[e,vG];omega
   rw[xW e]
   exact h.less _ (ha.resolve_left e) ha0 }
 refine { base with parIn:=h.parIn,down:=?_,past:=?_,two:=?_,calm:=?_,busy:=?_ }
 ·intro a d ha hd hl;rcases ha with e|ha
  ·subst e
   by_cases e:d=a
   ·exact .inl e
   have:pl d≠pl a:=fun e2=>e (h.one _ _ hd hR e2);exact .inr (h.past _ hd bO)
  exact .inr (h.down _ _ ha hd hl)
 ·intro d hd hl
  by_cases e:d=c
  ·exact .inl e
  have:pl d≠pl c:=fun e2=>e (h.one _ _ hd hR e2);exact .inr (h.past _ hd bO)
 ·intro a ha ha0 x hx;have hx2:∀p∈ins a,mk p->Ch up p x:=fun p hp hmp=>shrink _ _ (hx p hp (.inr hmp)) hmp
  by_cases e:a=c
  ·subst e;rw[vG];exact(h.ch (hb.all x hx2) hm.1).2
  rw[xW e];exact h.two a (ha.resolve_left e) ha0 x hx2
 ·intro a ha ha0 hor
  by_cases e:a=c
  ·subst e;rw[vG];exact keep _ _ (hb.on _ q1 hp) hp (.inr q3)
  have ha:=ha.resolve_left e;rw[xW e]at hor ⊢;have hne:pl a≠pl c:=fun e2=>e (h.one _ _ (h.reach _ ha) hR e2);obtain⟨r1,r2,r3⟩:=h.parIn a (h.reach _ ha) ha0;have hmp:mk (par a):=h.down _ _ ha r2 bO;exact keep _ _ (h.calm a ha ha0 bO) hmp bO
 intro a ha ha0 h1 h2 x hx hl
 by_cases e:a=c
 ·subst e;omega
 have ha:=ha.resolve_left e;rw[xW e]at h1 hl ⊢;obtain⟨r1,r2,r3⟩:=h.parIn a (h.reach _ ha) ha0;have hmp:mk (par a):=h.down _ _ ha r2 bO;have hmu:=h.mkUp _ ha
 by_cases hv:pl (up a)<j
 ·exact keep _ _ (h.busy a ha ha0 hv bO x (shrink _ _ hx hmp) hl) hmu bO
 exact base.line (keep _ _ (h.calm a ha ha0 bO) hmp bO) (.inr hmp) hx hl

theorem DomJ.wrap {n:Nat} (h:DomJ R pl ins par n mk up) (hn:∀c,R c->pl c<n):DomJ R pl ins par 1 mk up:=by
 refine { h with past:=fun d hd _=>h.past _ hd (hn _ hd),calm:=?_,busy:=?_ }
 ·intro c hc h0 _;exact h.calm c hc h0 (.inr (hn _ (h.reach _ hc)))
 intro c hc h0 h1 _ x hx hl;obtain⟨r1,r2,r3⟩:=h.parIn c (h.reach _ hc) h0;have hmp:mk (par c):=h.down _ _ hc r2 bO;have hmx:=(h.ch hx hmp).1;have e1:up c=x:=h.one _ _ (h.reach _ (h.mkUp _ hc)) (h.reach _ hmx) bO;rw[e1];exact .refl _

theorem DomJ.start (one:∀a b,R a->R b->pl a=pl b->a=b) (root:R 0) (rootAt:pl 0=0) (ham:∀c,R c->c≠0->par c∈ins c/\R (par c)/\pl (par c)<pl c) (hu:up 0=0) :
  DomJ R pl ins par 1 (fun a=>a=0) up where
 one:=one
 root:=root
 rootAt:=rootAt
 mk0:=rfl
 up0:=hu
 reach:=fun c hc=>by rw[hc];exact root
 mkUp:=fun c hc=>by rw[hc];exact hu
 less:=fun c hc h0=>absurd hc h0
 parIn:=ham
 down:=fun c d hc hd hl=>one _ _ hd root (by rw[hc]at hl;omega)
 past:=fun d hd hl=>one _ _ hd root bO
 two:=fun c hc h0=>absurd hc h0
 calm:=fun c hc h0=>absurd hc h0
 busy:=fun c hc h0=>absurd hc h0
end

def upN (u:Nat->Int) (c:Nat):Nat:=(u c).toNat
def mkN (u:Nat->Int) (c:Nat):Prop:=0<=u c
def Vr (u:Nat->Int) (c:Nat) (m:Int) (a:Nat):Int:=if a=c then m else u a
def ZC (u:Nat->Int) (pl:Nat->Nat) (b:Int) (p:Nat):Int:=
 if u p<0 then b else if b<0 then(p:Int) else(VP (upN u) pl (pl b.toNat+pl p+1) b.toNat p:Nat)
def JQ (u:Nat->Int) (pl:Nat->Nat) (l:List Nat):Int:=l.foldl (ZC u pl) (-1)

section
variable {R : Nat → Prop} {pl : Nat → Nat} {u : Nat → Int}

structure BestTo (u:Nat->Int) (b:Int) (l:List Nat) (r:Int):Prop where
 made:0<=r/\mkN u r.toNat
 had:0<=b->Ch (upN u) b.toNat r.toNat
 on:∀p∈l,mkN u p->Ch (upN u) p r.toNat
 all:∀x,(0<=b->Ch (upN u) b.toNat x)->(∀p∈l,mkN u p->Ch (upN u) p x)->Ch (upN u) r.toNat x

theorem DomI.bests (h:DomI R pl (mkN u) (upN u)):∀(l:List Nat) (b:Int),(0<=b->mkN u b.toNat)->(0<=b\/∃p∈l,mkN u p)->BestTo u b l (l.foldl (ZC u pl) b)
 | [],b,hb,hor=>by
  have h0:0<=b:=hor.resolve_right bV;exact⟨⟨h0,hb h0⟩,fun _=>.refl _,bV,fun x hx _=>hx h0⟩
 | p::l,b,hb,hor=>by
  show BestTo u b (p::l) (l.foldl (ZC u pl) (ZC u pl b p))
  by_cases hp:u p<0
  ·have e:ZC u pl b p=b:=(by unfold ZC;rw[zZ hp]);have np:¬ mkN u p:=fun hm=>by unfold mkN at hm;omega
   rw[e]
   have ih:=h.bests l b hb (by
    rcases hor with h0|⟨q,hq,hm⟩
    ·exact .inl h0
    rcases yC.1 hq with e|hq
    ·subst e;exact absurd hm np
    exact .inr ⟨q,hq,hm⟩)
   refine⟨ih.made,ih.had,fun q hq hm=>?_,fun x h1 h2=>ih.all x h1 fun q hq=>h2 q (yc _ hq)⟩;rcases yC.1 hq with e|hq
   ·subst e;exact absurd hm np
   exact ih.on q hq hm
  have hm:mkN u p:=by unfold mkN;omega
  by_cases h0:b<0
  ·have e:ZC u pl b p=(p:Int):=(by unfold ZC;rw[zQ hp,zZ h0]);rw[e];have ih:=h.bests l (p:Int) (fun _=>hm) (.inl bO);refine⟨ih.made,fun hb0=>by omega,fun q hq hmq=>?_,fun x _ h2=>ih.all x (fun _=>h2 p yg hm) fun q hq=>h2 q (yc _ hq)⟩;rcases yC.1 hq with e|hq
   ·subst e;exact ih.had bO
   exact ih.on q hq hmq
  have hb0:0<=b:=by omega
  have hmb:=hb hb0;have hcO:=h.meet (pl b.toNat+pl p+1) b.toNat p bO hmb hm;have e:ZC u pl b p=((VP (upN u) pl (pl b.toNat+pl p+1) b.toNat p:Nat):Int):=by unfold ZC;rw[zQ hp,zQ h0]
  rw[e];generalize VP (upN u) pl (pl b.toNat+pl p+1) b.toNat p=m at hcO;have hmm:=(h.ch hcO.right hm).1;have ih:=h.bests l (m:Int) (fun _=>hmm) (.inl bO);have hh:Ch (upN u) m (l.foldl (ZC u pl) (m:Int)).toNat:=ih.had bO;refine⟨ih.made,fun _=>hcO.left.trans hh,fun q hq hmq=>?_,fun x h1 h2=>ih.all x (fun _=>hcO.all x (h1 hb0) (h2 p yg hm)) fun q hq=>h2 q (yc _ hq)⟩;rcases yC.1 hq with e|hq
  ·subst e;exact hcO.right.trans hh
  exact ih.on q hq hmq

variable {ins : Nat → List Nat} {par : Nat → Nat} {j : Nat}
theorem DomJ.best (h:DomJ R pl ins par j (mkN u) (upN u)) {c:Nat} (hR:R c) (hj:pl c=j) (h0:c≠0) :
  ∃m:Nat,JQ u pl (ins c)=(m:Int)/\BestOf ins (mkN u) (upN u) c m/\mkN u m/\pl m<pl c:=by
 obtain⟨q1,q2,q3⟩:=h.parIn c hR h0;have hp:mkN u (par c):=h.past _ q2 bO;have hb:=h.bests (ins c) (-1) (fun hn=>by omega) (.inr ⟨_,q1,hp⟩);refine⟨(JQ u pl (ins c)).toNat,?_,⟨hb.on,fun x hx=>hb.all x (fun hn=>by omega) hx⟩,hb.made.2,?_⟩
 ·have:=hb.made.1;unfold JQ;omega
 have:=(h.ch (hb.on _ q1 hp) hp).2;unfold JQ;omega

def XZ (pl:Nat->Nat) (n:Nat) (u:Nat->Int) (c:Nat):Nat:=if u c<0 then n else pl (u c).toNat
def Z8 (pl:Nat->Nat) (n:Nat) (l:List Nat) (u:Nat->Int):Nat:=(l.map (XZ pl n u)).sum

theorem Q4 {n c a:Nat} {m:Int} (h:a≠c):XZ pl n (Vr u c m) a=XZ pl n u a:=by
 unfold XZ Vr;simp[h]
theorem Qu {n c:Nat} {m:Nat}:XZ pl n (Vr u c (m:Int)) c=pl m:=by
 unfold XZ Vr;rw[zZ rfl,zQ bO];rfl
theorem KC {n c m:Nat} (hle:pl m<=XZ pl n u c):∀l:List Nat,Z8 pl n l (Vr u c (m:Int))<=Z8 pl n l u
 | []=>zK _
 | a::l=>by
  have ih:=KC hle l;unfold Z8 at ih ⊢;simp only[yS,List.sum_cons]
  by_cases e:a=c
  ·subst e;rw[Qu];omega
  rw[Q4 e];omega
theorem KD {n c m:Nat} (hle:pl m<XZ pl n u c):∀l:List Nat,c∈l->Z8 pl n l (Vr u c (m:Int))<Z8 pl n l u
 | [],hc=>by cases hc
 | a::l,hc=>by
  have ih0:=KC (Nat.le_of_lt hle) l;have ih:c∈l->_:=KD hle l;unfold Z8 at ih ih0 ⊢;simp only[yS,List.sum_cons]
  by_cases e:a=c
  ·subst e;rw[Qu];omega
  rw[Q4 e];have:=ih ((yC.1 hc).resolve_left (fun h=>e h.symm));omega

theorem DomJ.falls {n:Nat} (h:DomJ R pl ins par j (mkN u) (upN u)) (hn:∀c,R c->pl c<n) {c m:Nat} (hR:R c) (hj:pl c=j) (h0:c≠0) (hb:BestOf ins (mkN u) (upN u) c m) (hlt:pl m<pl c) (hne:u c≠(m:Int)) (l:List Nat) (hc:c∈l) :
  Z8 pl n l (Vr u c (m:Int))<Z8 pl n l u:=by
 refine KD ?_ l hc;unfold XZ
 by_cases hu:u c<0
 ·rw[zZ hu];have:=hn c hR;omega
 rw[zQ hu];have hm:mkN u c:=by unfold mkN;omega
 refine h.chLess (h.mkUp _ hm) (h.rise hj h0 hb hm) fun e=>hne ?_;unfold upN at e;omega

theorem mkN_put {c:Nat} {m:Nat}:mkN (Vr u c (m:Int))=fun a=>a=c\/mkN u a:=by
 funext a;unfold mkN Vr
 by_cases e:a=c
 ·simp[e]
 simp[e]
theorem upN_put {c:Nat} {m:Nat}:upN (Vr u c (m:Int))=X9 (upN u) c m:=by
 funext a;unfold upN Vr X9
 by_cases e:a=c<;>simp[e]
theorem DomJ.turnI (h:DomJ R pl ins par j (mkN u) (upN u)) {c m:Nat} (hR:R c) (hj:pl c=j) (h0:c≠0) (hb:BestOf ins (mkN u) (upN u) c m) :
  DomJ R pl ins par (j+1) (mkN (Vr u c (m:Int))) (upN (Vr u c (m:Int))):=by
 rw[mkN_put,upN_put];exact h.turn hR hj h0 hb
theorem putI_same {c:Nat}:Vr u c (u c)=u:=by
 funext a;unfold Vr
 by_cases e:a=c<;>simp[e]
end

theorem Beh.at {tos:Nat->List Int} {P:Nat->Prop}:∀{l:List Nat},Beh tos P l->∀i (h:i<l.length),P l[i]\/∃j,∃h2:j<l.length,i<j/\(l[i]:Int)∈tos l[j]
 | [],_,i,h=>by simp at h
 | x::l,hB,0,h=>by
  rcases hB.1 with g|⟨p,hp,e⟩
  ·exact .inl g
  obtain⟨k,hk,rfl⟩:=yX hp;exact .inr ⟨k+1,by simp;omega,by omega,by simpa using e⟩
 | x::l,hB,i+1,h=>by
  rcases hB.2.at i (by simpa using h)with g|⟨j,hj,hl,e⟩
  ·exact .inl (by simpa using g)
  exact .inr ⟨j+1,by simp;omega,by omega,by simpa using e⟩

def plN (o:List Nat) (b:Nat):Nat:=if b∈o then o.idxOf b else 0
theorem kp {o:List Nat} (ho:o.Nodup) {i:Nat} (h:i<o.length):plN o o[i]=i:=by
 unfold plN;rw[zZ (zP h)];exact ho.idxOf_getElem i h

structure OrdOk (bs:List BlkL) (o:List Nat):Prop where
 ints:jR bs=o.map fun(x:Nat)=>(x:Int)
 once:o.Nodup
 root:∃l,o=0::l
 inb:∀x∈o,x<bs.length
 par:∀i (h:i<o.length),o[i]≠0->∃j,∃h2:j<o.length,j<i/\(o[i]:Int)∈tosB bs o[j]

theorem orderB_ok {bs:List BlkL} (h0:0<bs.length) (hT:∀b,b<bs.length->∀x∈tosB bs b,0<=x/\x<(bs.length:Int)):∃o,OrdOk bs o:=by
 obtain⟨l,h1,h2,h3,h4⟩:=postL_is h0 hT;refine⟨(l++[0]).reverse,by unfold jR;rw[h1,List.map_reverse],by unfold List.Nodup;exact List.pairwise_reverse.2 (h2.imp fun h=>Ne.symm h),⟨l.reverse,by simp⟩,fun x hx=>h3 x (List.mem_reverse.1 hx),fun i h hne=>?_⟩;rw[List.length_reverse]at h;have e:∀k (hk:k<(l++[0]).length) (hk2:k<(l++[0]).reverse.length),(l++[0]).reverse[k]=(l++[0])[(l++[0]).length - 1 - k]:=fun k hk hk2=>List.getElem_reverse _;rw[e i h]at hne;rcases h4.at ((l++[0]).length - 1 - i) bO with g|⟨j,hj,hl,g⟩
 ·exact absurd g hne
 refine⟨(l++[0]).length - 1 - j,by rw[List.length_reverse];omega,by omega,?_⟩;rw[e i h,e _ bO];have e2:(l++[0]).length - 1 - ((l++[0]).length - 1 - j)=j:=by omega
 simp only[e2];exact g

theorem OrdOk.start {bs:List BlkL} {o:List Nat} (h:OrdOk bs o) (ins:Nat->List Nat) (hins:∀(b c:Nat),b<bs.length->(c:Int)∈tosB bs b->b∈ins c) {up:Nat->Nat} (hu:up 0=0) :
  ∃par,DomJ (fun b=>b∈o) (plN o) ins par 1 (fun a=>a=0) up:=by
 obtain⟨l,hl⟩:=h.root;have h0:0∈o:=by rw[hl];simp
 have ham:∀c,∃p,c∈o->c≠0->p∈ins c/\p∈o/\plN o p<plN o c:=fun c=>by
  by_cases hc:c∈o
  ·obtain⟨i,hi,rfl⟩:=yX hc
   by_cases hne:o[i]=0
   ·exact⟨0,fun _ g=>absurd hne g⟩
   obtain⟨j,hj,hlt,e⟩:=h.par i hi hne;exact⟨o[j],fun _ _=>⟨hins _ _ (h.inb _ (zP hj)) e,zP hj,by rw[kp h.once hi,kp h.once hj];exact hlt⟩⟩
  exact⟨0,fun g=>absurd g hc⟩
 refine⟨fun c=>(ham c).choose,DomJ.start (fun a b ha hb e=>?_) h0 ?_ (fun c hc hne=>(ham c).choose_spec hc hne) hu⟩
 ·obtain⟨i,hi,rfl⟩:=yX ha;obtain⟨j,hj,rfl⟩:=yX hb;rw[kp h.once hi,kp h.once hj]at e;subst e;rfl
 have:=kp h.once (i:=0) (by rw[hl];simp);simpa[hl]using this

def Yx (pl:Nat->Nat) (ins:Nat->List Nat) (u:Nat->Int) (c:Nat):Nat->Int:=Vr u c (JQ u pl (ins c))
def Q5 (pl:Nat->Nat) (ins:Nat->List Nat) (o:List Nat) (u:Nat->Int):Nat->Nat->Int
 | 0=>u
 | 1=>u
 | i+2=>Yx pl ins (Q5 pl ins o u (i+1)) (o.getD (i+1) 0)

variable {bs : List BlkL} {o : List Nat} {ins : Nat → List Nat} {par : Nat → Nat} {u : Nat → Int}
theorem OrdOk.round (h:OrdOk bs o) (hJ:DomJ (fun b=>b∈o) (plN o) ins par 1 (mkN u) (upN u)):∀i,i+1<=o.length->
  DomJ (fun b=>b∈o) (plN o) ins par (i+1) (mkN (Q5 (plN o) ins o u (i+1))) (upN (Q5 (plN o) ins o u (i+1)))/\
   (Q5 (plN o) ins o u (i+1)=u\/Z8 (plN o) o.length o (Q5 (plN o) ins o u (i+1))<Z8 (plN o) o.length o u)
 | 0,_=>⟨hJ,.inl rfl⟩
 | i+1,hi=>by
  obtain⟨h1,h2⟩:=h.round hJ i bO;have hlt:i+1<o.length:=by omega
  have hg:o.getD (i+1) 0=o[i+1]:=by
   rw[yO,zj hlt];rfl
  have hc:o[i+1]∈o:=zP hlt;have hp:=kp h.once hlt
  have h0:o[i+1]≠0:=fun e=>by
   obtain⟨l,hl⟩:=h.root;have hz:=kp h.once (i:=0) bO;have e0:o[0]'bO=0:=(by simp[hl]);rw[e0]at hz;rw[e]at hp;omega
  show DomJ _ _ _ _ (i+1+1) (mkN (Yx (plN o) ins (Q5 (plN o) ins o u (i+1)) (o.getD (i+1) 0))) (upN (Yx (plN o) ins (Q5 (plN o) ins o u (i+1)) (o.getD (i+1) 0)))/\
   (Yx (plN o) ins (Q5 (plN o) ins o u (i+1)) (o.getD (i+1) 0)=u\/Z8 (plN o) o.length o (Yx (plN o) ins (Q5 (plN o) ins o u (i+1)) (o.getD (i+1) 0))<Z8 (plN o) o.length o u)
  rw[hg];unfold Yx;generalize Q5 (plN o) ins o u (i+1)=v at *;obtain⟨m,hm,hb,_,hml⟩:=h1.best hc hp h0;rw[hm];refine⟨h1.turnI hc hp h0 hb,?_⟩
  by_cases e:v o[i+1]=(m:Int)
  ·rw[←e,putI_same];exact h2
  have h3:=h1.falls (n:=o.length) (fun c hc'=>by
   obtain⟨k,hk,rfl⟩:=yX hc'
   rw[kp h.once hk];exact hk) hc hp h0 hb hml e o hc
  rcases h2 with h2|h2
  ·rw[h2]at h3 ⊢;exact .inr h3
  exact .inr (Nat.lt_trans h3 h2)

variable {bs : List BlkL} {o : List Nat} {ins : Nat → List Nat} {par : Nat → Nat} {u : Nat → Int}
theorem OrdOk.getD (h:OrdOk bs o) {i:Nat} (hi:i+1<o.length):o.getD (i+1) 0=o[i+1]/\o[i+1]∈o/\plN o o[i+1]=i+1/\o[i+1]≠0/\o[i+1]<bs.length:=by
 have hc:o[i+1]∈o:=zP hi;have hp:=kp h.once hi;refine⟨by rw[yO,zj hi];rfl,hc,hp,fun e=>?_,h.inb _ hc⟩;obtain⟨l,hl⟩:=h.root;have hz:=kp h.once (i:=0) bO;have e0:o[0]'bO=0:=by simp[hl]
 rw[e0]at hz;rw[e]at hp;omega
theorem OrdOk.pos (h:OrdOk bs o):0<o.length:=by
 obtain⟨l,hl⟩:=h.root;rw[hl];simp
theorem OrdOk.lt (h:OrdOk bs o) {c:Nat} (hc:c∈o):plN o c<o.length:=by
 obtain⟨k,hk,rfl⟩:=yX hc;rw[kp h.once hk];exact hk

def jW (bs:List BlkL):List Nat:=(jR bs).map Int.toNat
theorem OrdOk.nats (h:OrdOk bs o):jW bs=o:=by
 unfold jW;rw[h.ints,yy];exact(ya (g:=id) fun x _=>by simp).trans bV
end Go.Proofs.YtgjjhadbjmcnpaaGreatDoor
namespace Go.Proofs.YtgjjhadbjmcnpaaGreatDoor
open Go.RowKit

theorem ChkOk.bodyZ {u:UniL} (h:ChkOk u) {k:Nat} (hk:k<u.funcs.length):bodyE u u.funcs[k]=0:=(kH hk).symm.trans (h.body k hk)
theorem Xj {u:UniL} {f:FunL} (h:bodyE u f=0):qD (f.blocks.map fun b=>X6 f b.fin)=0/\qD ((List.range f.blocks.length).map (Z6 u f))=0:=by
 unfold bodyE at h
 by_cases e:qD (f.blocks.map fun b=>X6 f b.fin)=0
 ·rw[zZ e]at h;exact⟨e,h⟩
 rw[zQ e]at h;exact absurd h e
theorem JR {u:UniL} {f:FunL} (h:bodyE u f=0) {b:Nat} (hb:b<f.blocks.length):X6 f f.blocks[b].fin=0:=
 xY (Xj h).1 _ (yD.2 ⟨_,zP hb,rfl⟩)
theorem Qv {u:UniL} {f:FunL} (h:bodyE u f=0) {b:Nat} (hb:b<f.blocks.length) :
  (∀p∈f.blocks[b].phis,X3 f b (zw (xq f) b).length p=0)/\∀x∈f.blocks[b].list,JD u f x=0:=by
 have h1:=xY (Xj h).2 (Z6 u f b) (yD.2 ⟨b,yR.2 hb,rfl⟩);rw[QM hb]at h1;unfold Yi at h1
 by_cases e:qD (f.blocks[b].phis.map (X3 f b (zw (xq f) b).length))=0
 ·rw[zZ e]at h1;exact⟨fun p hp=>xY e _ (yD.2 ⟨p,hp,rfl⟩),fun x hx=>xY h1 _ (yD.2 ⟨x,hx,rfl⟩)⟩
 rw[zQ e]at h1;exact absurd h1 e
def Z9 (regs:Int) (r:Bool) (n:Int):Prop:=r=true->0<=n/\n<regs
theorem valE_zero {regs:Int} {r:Bool} {n:Int} (h:xt regs r n=0):Z9 regs r n:=by
 intro hr;unfold xt at h
 by_cases e:r=true/\¬(0<=n/\n<=regs - 1)
 ·rw[zZ e]at h;cases h
 rcases Decidable.em (0<=n/\n<=regs - 1)with g|g
 ·omega
 exact absurd ⟨hr,g⟩ e
theorem Xk (T:List (List Int)):∀(n i:Nat) (t:Int),i<n->t∈T.getD i []->(t.toNat,i)∈zm T n
 | 0,i,t,h,_=>by omega
 | n+1,i,t,h,ht=>by
  unfold zm;rcases yq i n with g|g
  ·exact yE _ (Xk T n i t g ht)
  obtain rfl:i=n:=by omega
  exact yM _ (yD.2 ⟨t,ht,rfl⟩)
theorem rowOf_mem {ps:List (Nat×Nat)} {t i:Nat} (h:(t,i)∈ps):i∈zw ps t:=by
 unfold zw;exact yD.2 ⟨(t,i),yu.2 ⟨h,by simp⟩,rfl⟩
theorem row_mem {f:FunL} {b:Nat} (hb:b<f.blocks.length) {t:Int} (ht:t∈f.blocks[b].fin.to):b∈zw (xq f) t.toNat:=
 rowOf_mem (Xk _ _ _ _ hb (by rw[kF f b hb];exact ht))

structure FunS (f:FunL):Prop where
 n1:0<f.blocks.length
 n40:f.blocks.length<=40
 two:∀k (h:k<f.blocks.length),f.blocks[k].fin.to.length<=2
 tos:∀k (h:k<f.blocks.length),∀t∈f.blocks[k].fin.to,1<=t/\t<(f.blocks.length:Int)
theorem FunS.tosB {f:FunL} (h:FunS f):∀b,b<f.blocks.length->∀x∈tosB f.blocks b,0<=x/\x<(f.blocks.length:Int):=fun b hb x hx=>by
 rw[xm hb]at hx;have:=h.tos b hb x hx;omega
theorem FunS.tosD {f:FunL} (h:FunS f):∀i,i<f.blocks.length->((kE f).getD i []).length<=2/\∀t∈(kE f).getD i [],1<=t/\t<(f.blocks.length:Int):=fun i hi=>by
 rw[kF f i hi];exact⟨h.two i hi,h.tos i hi⟩
theorem jl:∀(n:Nat) (l:List Nat),l.Nodup->(∀x∈l,x<n)->l.length<=n
 | 0,l,_,h=>by
  cases l with
  | nil=>simp
  | cons x l=>have:=h x yg;omega
 | n+1,l,hd,h=>by
  by_cases hn:n∈l
  ·have h1:=jl n (l.erase n) (hd.erase n) (fun x hx=>by
    have h2:=hd.mem_erase_iff.1 hx;have:=h x h2.2;have:=h2.1
    omega)
   rw[List.length_erase_of_mem hn]at h1;omega
  have h1:=jl n l hd (fun x hx=>by
   have:=h x hx;have:x≠n:=fun e=>hn (e ▸ hx)
   omega)
  omega
theorem JS {T:List (List Int)}:∀{n:Nat} {p:Nat×Nat},p∈zm T n->p.2<n/\∃t∈T.getD p.2 [],p.1=t.toNat
 | 0,p,h=>by unfold zm at h;cases h
 | n+1,p,h=>by
  unfold zm at h;rcases yH.1 h with h|h
  ·obtain⟨h1,h2⟩:=JS h;exact⟨by omega,h2⟩
  obtain⟨t,ht,rfl⟩:=yD.1 h;exact⟨by simp,t,ht,rfl⟩
theorem row_lt {f:FunL} {c p:Nat} (h:p∈zw (xq f) c):p<f.blocks.length:=by
 unfold zw at h;obtain⟨q,hq,rfl⟩:=yD.1 h;exact(JS (yu.1 hq).1).1
def insN (f:FunL) (c:Nat):List Nat:=zw (xq f) c
theorem ins_of {f:FunL} (b c:Nat) (hb:b<f.blocks.length) (h:(c:Int)∈tosB f.blocks b):b∈insN f c:=by
 rw[xm hb]at h;have:=row_mem hb h;rw[xC]at this;exact this
theorem KE {f:FunL} (h:FunS f) (c:Nat):(insN f c).length<=80:=by
 have h1:=Ze (xq f) c;have h2:(xq f).length<=2*f.blocks.length:=Qk (kE f) _ _ (zK _) (fun i hi=>(h.tosD i hi).1);have:=h.n40;show(zw _ _).length<=_;omega
theorem FunS.ord {f:FunL} (h:FunS f):OrdOk f.blocks (jW f.blocks):=by
 obtain⟨o,ho⟩:=orderB_ok h.n1 h.tosB;rw[ho.nats];exact ho
theorem FunS.ordLen {f:FunL} (h:FunS f):(jW f.blocks).length<=f.blocks.length:=jl _ _ h.ord.once h.ord.inb
theorem FunS.postLen {f:FunL} (h:FunS f):(ko f.blocks).length<=1000000:=by
 have h1:(jR f.blocks).length=(jW f.blocks).length:=by unfold jW;simp
 have h2:(jR f.blocks).length=(ko f.blocks).length:=by unfold jR;simp
 have:=h.ordLen;have:=h.n40;omega


def qE (o:List Nat) (b:Nat):Int:=if b∈o then(o.idxOf b:Int)else -1
def KF (at_:Nat->Int) (ah:List Nat) (src:List (Bool×Int)):List (Int×(Bool×Int)):=
 ((ah.zip src).map fun e=>(at_ e.1,e.2)).filter fun e=>decide (0<=e.1)
def sortK (l:List (Int×(Bool×Int))):List (Int×(Bool×Int)):=l.mergeSort fun a b=>decide (a.1<=b.1)
def srcK (at_:Nat->Int) (ah:List Nat) (src:List (Bool×Int)):List (Bool×Int):=(sortK (KF at_ ah src)).map (·.2)
def endK (at_:Nat->Int) (x:EndL):EndL:={ x with «to»:=x.to.map fun t=>at_ t.toNat }
def blkK (at_:Nat->Int) (ah:List Nat) (x:BlkL):BlkL:=
 { phis:=x.phis.map fun p=>{ p with src:=srcK at_ ah p.src },list:=x.list,fin:=endK at_ x.fin }
def Qw:BlkL:=⟨[],[],⟨1,false,0,[]⟩⟩
def atF (f:FunL) (b:Nat):BlkL:=f.blocks.getD b Qw
theorem qW {f:FunL} {b:Nat} (h:b<f.blocks.length):atF f b=f.blocks[b]:=by
 unfold atF;simp[h]
def zX (o:List Nat) (f:FunL):FunL:={ f with blocks:=o.map fun b=>blkK (qE o) (insN f b) (atF f b) }

def JT (ah:List Nat) (old now:Nat):Nat:=(ah.filter fun a=>decide (a<now/\a≠old)).length
def Za (ah:List Nat) (old now:Nat) (src:List (Bool×Int)):List (Bool×Int):=
 ((src.eraseIdx (ah.idxOf old)).take (JT ah old now))++src.getD (ah.idxOf old) (false,0)::((src.eraseIdx (ah.idxOf old)).drop (JT ah old now))
def qY (f:FunL) (old now:Nat):FunL:=
 { f with blocks:=f.blocks.mapIdx fun i x=>if(i:Int)∈(atF f old).fin.to then { x with phis:=x.phis.map fun p=>{ p with src:=Za (insN f i) old now p.src } } else x }
def xX (f:FunL) (b t:Nat):FunL:=
 let g:=qY f t b
 { g with blocks:=(g.blocks.set b { phis:=(atF g b).phis,list:=(atF g b).list++(atF g t).list,fin:=(atF g t).fin }).set t Qw }
def vt (f:FunL) (b:Nat):Option Nat:=
 let t:=((atF f b).fin.to.getD 0 0).toNat
 if(atF f b).fin.kind=2/\¬(t=b\/0<(atF f t).phis.length\/1<(insN f t).length)then some t else none
def zt:Nat->FunL->Nat->FunL
 | 0,f,_=>f
 | c+1,f,b=>match vt f b with
  | none=>f
  | some t=>zt c (xX f b t) b
def zM (f:FunL):FunL:=(List.range f.blocks.length).foldl (fun g b=>zt (f.blocks.length+1) g b) f

abbrev NamS:=(Nat->Int)×Int
def vi (s:NamS) (r:Nat):NamS:=if s.1 r<0 then(fun i=>if i=r then s.2 else s.1 i,s.2+1)else s
def xQ (v:Bool×Int):List Nat:=if v.1=true then[v.2.toNat] else[]
def Qx (x:InsL):List Nat:=xQ (x.ar,x.an)++xQ (x.br,x.bn)++x.args.flatMap xQ
def vO (d:Int):List Nat:=if 0<=d then[d.toNat] else[]
def KG (x:BlkL):List Nat:=x.phis.map (fun p=>p.dst.toNat)++x.list.flatMap (fun i=>Qx i++vO i.dst)++xQ (x.fin.onr,x.fin.onn)
def J0 (x:BlkL):List Nat:=x.phis.flatMap (fun p=>p.dst.toNat::p.src.flatMap xQ)++x.list.flatMap (fun i=>Qx i++vO i.dst)++xQ (x.fin.onr,x.fin.onn)
def Qh (f:FunL):List Nat:=List.range f.params.toNat++f.blocks.flatMap KG
def ZD (f:FunL):List Nat:=f.blocks.flatMap J0
def nam0:NamS:=(fun _=>-1,0)
def kO (f:FunL):NamS:=(Qh f++ZD f).foldl vi nam0
def xw (m:Nat->Int) (v:Bool×Int):Bool×Int:=if v.1=true then(true,m v.2.toNat)else v
def vZ (m:Nat->Int) (x:InsL):InsL:=
 { x with dst:=if 0<=x.dst then m x.dst.toNat else x.dst,an:=(xw m (x.ar,x.an)).2,bn:=(xw m (x.br,x.bn)).2,args:=x.args.map (xw m) }
def KH (m:Nat->Int) (x:BlkL):BlkL:=
 { phis:=x.phis.map fun p=>{ dst:=m p.dst.toNat,src:=p.src.map (xw m) },list:=x.list.map (vZ m),fin:={ x.fin with onn:=(xw m (x.fin.onr,x.fin.onn)).2 } }
def xO (f:FunL):FunL:={ f with regs:=(kO f).2,blocks:=f.blocks.map (KH (kO f).1) }
def Qy (f:FunL):FunL:=zX (jW f.blocks) f
def jH (f:FunL):FunL:=xO (Qy f)
def doT (f:FunL):FunL:=jH (zM (Qy f))
def largeT (f:FunL):Bool:=decide (40<f.blocks.length\/300<xu f\/100<f.regs)
def qI (u:UniL):UniL:={ u with funcs:=u.funcs.map doT }
structure FunD (f:FunL):Prop extends FunS f where
 once:∀k (h:k<f.blocks.length),(f.blocks[k].fin.to).Nodup

theorem rowWays {T:List (List Int)} {t:Nat} (h0:∀i,∀x∈T.getD i [],0<=x) (h1:∀i,(T.getD i []).Nodup):∀n:Nat,zw (zm T n) t=(List.range n).filter fun i=>decide ((t:Int)∈T.getD i [])
 | 0=>rfl
 | n+1=>by
  have ih:=rowWays (t:=t) h0 h1 n;rw[yt,List.filter_append,←ih];show zw (zm T n++_) t=_;unfold zw;rw[List.filter_append,yW];congr 1;have a0:=h0 n;have a1:=h1 n;rw[show([n].filter fun i=>decide ((t:Int)∈T.getD i []))=if(t:Int)∈T.getD n [] then[n] else[] by by_cases e:(t:Int)∈T.getD n []<;>simp only[List.filter_cons,List.filter_nil,e,decide_true,decide_false,if_true,if_false,Bool.false_eq_true]]
  generalize T.getD n []=l at a0 a1
  have key:∀l:List Int,(∀x∈l,0<=x)->l.Nodup->((l.map fun x=>(x.toNat,n)).filter fun x=>x.1 == t).map (·.2)=if(t:Int)∈l then[n] else[]:=by
   intro l
   induction l with
   | nil=>intro _ _;rfl
   | cons x l ih=>
    intro b0 b1;obtain⟨c1,c2⟩:=List.nodup_cons.1 b1;have ih:=ih (fun y hy=>b0 y (.tail _ hy)) c2;have hx:=b0 x (.head _);rw[yS,List.filter_cons]
    by_cases e:x.toNat=t
    ·have e2:x=(t:Int):=(by omega);subst e2;rw[zQ c1]at ih;simp only[e,beq_self_eq_true,if_true,yS,ih,yC,true_or]
    have e2:(t:Int)≠x:=(by omega);have e3:(x.toNat == t)=false:=(by simpa using e);rw[zQ (by simp[e3]),ih];simp[e2]
  exact key l a0 a1

theorem ZE (f:FunL) (i:Nat):(kE f).getD i []=tosB f.blocks i:=by
 unfold kE tosB
 by_cases h:i<f.blocks.length
 ·simp[h]
 simp[h]
theorem FunD.insN {f:FunL} (h:FunD f) (c:Nat):insN f c=(List.range f.blocks.length).filter fun i=>decide ((c:Int)∈tosB f.blocks i):=by
 have:=rowWays (T:=kE f) (t:=c) (fun i x hx=>by
  rw[ZE]at hx
  by_cases hi:i<f.blocks.length
  ·exact(h.tosB i hi x hx).1
  ·simp[Go.Proofs.YtgjjhadbjmcnpaaGreatDoor.tosB,hi]at hx) (fun i=>by
  rw[ZE]
  by_cases hi:i<f.blocks.length
  ·rw[xm hi];exact h.once i hi
  simp[Go.Proofs.YtgjjhadbjmcnpaaGreatDoor.tosB,hi]) f.blocks.length
 unfold Go.Proofs.YtgjjhadbjmcnpaaGreatDoor.insN xq;rw[this];simp only[ZE]
theorem FunD.insD {f:FunL} (h:FunD f) (c:Nat):(Go.Proofs.YtgjjhadbjmcnpaaGreatDoor.insN f c).Nodup:=by
 rw[h.insN];exact List.nodup_range.filter _
theorem FunD.mem {f:FunL} (h:FunD f) {c b:Nat}:b∈Go.Proofs.YtgjjhadbjmcnpaaGreatDoor.insN f c↔b<f.blocks.length/\(c:Int)∈tosB f.blocks b:=by
 rw[h.insN,yu,yR];simp

def CloV (tos:Nat->List Int) (s s':PostS):Prop:=(∀x,s.1 x=true->s'.1 x=true)/\∀x,s'.1 x=true->s.1 x=true\/∀t∈tos x,s'.1 t.toNat=true
theorem CloV.refl (tos:Nat->List Int) (s:PostS):CloV tos s s:=⟨fun _ h=>h,fun _ h=>.inl h⟩
theorem CloV.trans {tos:Nat->List Int} {a b c:PostS} (h:CloV tos a b) (k:CloV tos b c):CloV tos a c:=
 ⟨fun x e=>k.1 x (h.1 x e),fun x e=>(k.2 x e).elim (fun e=>(h.2 x e).imp id fun g t ht=>k.1 _ (g t ht)) .inr⟩

theorem visTo_c {n:Nat} {tos:Nat->List Int} {rec:Nat->PostS->PostS} {xs:List Int} (hx:∀x∈xs,0<=x/\x<(n:Int)) {s:PostS}
  (h:∀b s',b<n->s'.1 b=false->j6 n s'.1<=j6 n s.1->CloV tos s' (rec b s')/\(rec b s').1 b=true):∀i,i<=xs.length->CloV tos s (xN rec xs s i)/\∀j (hj:j<xs.length),xs.length - i<=j->(xN rec xs s i).1 xs[j].toNat=true
 | 0,_=>⟨.refl _ _,fun j hj g=>by omega⟩
 | i+1,hi=>by
  obtain⟨ih,i2⟩:=visTo_c hx h i bO;show CloV tos s (xL rec (xN rec xs s i) (xs.getD (xs.length - 1 - i) 0))/\∀j (hj:j<xs.length),_->(xL rec (xN rec xs s i) (xs.getD (xs.length - 1 - i) 0)).1 _=true;have hk:xs.length - 1 - i<xs.length:=by omega
  have hm:=hx _ (zP hk)
  have hg:xs.getD (xs.length - 1 - i) 0=xs[xs.length - 1 - i]:=by
   rw[yO,zj hk];rfl
  rw[hg];unfold xL;cases e:(xN rec xs s i).1 (xs[xs.length - 1 - i]).toNat
  ·obtain⟨h1,h2⟩:=h (xs[xs.length - 1 - i]).toNat _ bO e (QU ih.1);refine⟨ih.trans h1,fun j hj g=>?_⟩
   by_cases ej:j=xs.length - 1 - i
   ·subst ej;exact h2
   exact h1.1 _ (i2 j hj bO)
  refine⟨ih,fun j hj g=>?_⟩
  by_cases ej:j=xs.length - 1 - i
  ·subst ej;exact e
  exact i2 j hj bO
theorem visF_c {n:Nat} {tos:Nat->List Int} (hT:∀b,b<n->∀x∈tos b,0<=x/\x<(n:Int)):∀(c b:Nat) (s:PostS),j6 n s.1<c->b<n->s.1 b=false->CloV tos s (vN tos c b s)/\(vN tos c b s).1 b=true
 | 0,_,_,h,_,_=>by omega
 | c+1,b,s,hc,hb,hs=>by
  have h1:=vE (n:=n) hb hs;obtain⟨h2,h3⟩:=visTo_c (n:=n) (tos:=tos) (rec:=vN tos c) (xs:=tos b) (hT b hb) (s:=xV b s) (fun b' s' hb' h' hle=>visF_c hT c b' s' bO hb' h') (tos b).length (zK _);have hb1:(xV b s).1 b=true:=by show(if b=b then true else _)=true;simp
  refine⟨⟨fun x e=>h2.1 x (XX e),fun x e=>?_⟩,h2.1 b hb1⟩;rcases h2.2 x e with g|g
  ·by_cases ex:x=b
   ·subst ex;refine .inr fun t ht=>?_;obtain⟨j,hj,rfl⟩:=yp.1 ht;exact h3 j hj bO
   have g:(if x=b then true else s.1 x)=true:=g;rw[zQ ex]at g;exact .inl g
  exact .inr g

theorem FunS.closed {f:FunL} (h:FunS f) {b:Nat} (hb:b∈jW f.blocks) {t:Int} (ht:t∈Go.Proofs.YtgjjhadbjmcnpaaGreatDoor.tosB f.blocks b):t.toNat∈jW f.blocks:=by
 obtain⟨l,hp⟩:=KB (n:=f.blocks.length) h.tosB (f.blocks.length+1) 0 (fun _=>false,[]) (Nat.lt_succ_of_le (vY _ _)) h.n1 rfl;obtain⟨hc,_⟩:=visF_c (n:=f.blocks.length) h.tosB (f.blocks.length+1) 0 (fun _=>false,[]) (Nat.lt_succ_of_le (vY _ _)) h.n1 rfl
 have he:∀x,x∈jW f.blocks↔(vN (Go.Proofs.YtgjjhadbjmcnpaaGreatDoor.tosB f.blocks) (f.blocks.length+1) 0 (fun _=>false,[])).1 x=true:=fun x=>by
  rw[hp.seen x];unfold jW jR ko;rw[hp.left];simp[or_comm]
 rw[he]at hb ⊢;rcases hc.2 b hb with g|g
 ·cases g
 exact g t ht
/-! ## renamed graphs -/

theorem KI {n:Nat} {r1 r2:Nat->PostS->PostS} {xs:List Int} (hx:∀x∈xs,0<=x/\x<(n:Int)) {s:PostS}
  (h:∀b s',b<n->s'.1 b=false->j6 n s'.1<=j6 n s.1->r1 b s'=r2 b s'/\j6 n (r1 b s').1<=j6 n s'.1):∀i,i<=xs.length->xN r1 xs s i=xN r2 xs s i/\j6 n (xN r1 xs s i).1<=j6 n s.1
 | 0,_=>⟨rfl,zK _⟩
 | i+1,hi=>by
  obtain⟨ih,i2⟩:=KI hx h i bO;show xL r1 (xN r1 xs s i) (xs.getD (xs.length - 1 - i) 0)=xL r2 (xN r2 xs s i) (xs.getD (xs.length - 1 - i) 0)/\j6 n (xL r1 (xN r1 xs s i) (xs.getD (xs.length - 1 - i) 0)).1<=_;rw[←ih];have hk:xs.length - 1 - i<xs.length:=by omega
  have hm:=hx _ (zP hk)
  have hg:xs.getD (xs.length - 1 - i) 0=xs[xs.length - 1 - i]:=by
   rw[yO,zj hk];rfl
  rw[hg];unfold xL;cases e:(xN r1 xs s i).1 (xs[xs.length - 1 - i]).toNat
  ·obtain⟨h1,h2⟩:=h (xs[xs.length - 1 - i]).toNat _ bO e i2;exact⟨h1,yv h2 i2⟩
  exact⟨rfl,i2⟩
theorem JU {n:Nat} {tos:Nat->List Int} (hT:∀b,b<n->∀x∈tos b,0<=x/\x<(n:Int)):∀(c d b:Nat) (s:PostS),j6 n s.1<c->j6 n s.1<d->b<n->s.1 b=false->vN tos c b s=vN tos d b s
 | 0,_,_,_,h,_,_,_=>by omega
 | _+1,0,_,_,_,h,_,_=>by omega
 | c+1,d+1,b,s,hc,hd,hb,hs=>by
  have h1:=vE (n:=n) hb hs
  obtain⟨h2,_⟩:=KI (n:=n) (r1:=vN tos c) (r2:=vN tos d) (xs:=tos b) (hT b hb) (s:=xV b s) (fun b' s' hb' h' hle=>⟨JU hT c d b' s' bO bO hb' h',by
   obtain⟨l,hl⟩:=KB hT c b' s' bO hb' h'
   exact hl.up⟩) (tos b).length (zK _)
  show((xN (vN tos c) (tos b) (xV b s) (tos b).length).1,_)=((xN (vN tos d) (tos b) (xV b s) (tos b).length).1,_);rw[h2]

structure IsoV (R:Nat->Prop) (p:Nat->Nat) (s s':PostS):Prop where
 seen:∀x,R x->s'.1 (p x)=s.1 x
 left:s'.2=s.2.map fun x=>(p x.toNat:Int)
theorem JV {R:Nat->Prop} {p:Nat->Nat} {r1 r2:Nat->PostS->PostS} (hr:∀b a a',R b->IsoV R p a a'->IsoV R p (r1 b a) (r2 (p b) a')) {xs:List Int} (hx:∀x∈xs,R x.toNat) {s s':PostS} (h:IsoV R p s s'):∀i,i<=xs.length->IsoV R p (xN r1 xs s i) (xN r2 (xs.map fun x=>(p x.toNat:Int)) s' i)
 | 0,_=>h
 | i+1,hi=>by
  have ih:=JV hr hx h i bO;show IsoV R p (xL r1 _ (xs.getD (xs.length - 1 - i) 0)) (xL r2 _ ((xs.map fun x=>(p x.toNat:Int)).getD ((xs.map fun x=>(p x.toNat:Int)).length - 1 - i) 0));have hk:xs.length - 1 - i<xs.length:=by omega
  have hg:xs.getD (xs.length - 1 - i) 0=xs[xs.length - 1 - i]:=by
   rw[yO,zj hk];rfl
  have hg2:(xs.map fun x=>(p x.toNat:Int)).getD ((xs.map fun x=>(p x.toNat:Int)).length - 1 - i) 0=(p (xs[xs.length - 1 - i]).toNat:Int):=by
   rw[yT,yO,List.getElem?_map,zj hk];rfl
  rw[hg,hg2];have hR:=hx _ (zP hk);unfold xL;rw[xC,ih.seen _ hR]
  split
  ·exact ih
  exact hr _ _ _ hR ih
theorem KJ {R:Nat->Prop} {p:Nat->Nat} {t1 t2:Nat->List Int} (hinj:∀x y,R x->R y->p x=p y->x=y) (hT:∀x,R x->(∀t∈t1 x,R t.toNat)/\t2 (p x)=(t1 x).map fun t=>(p t.toNat:Int)):∀(c b:Nat) (s s':PostS),R b->IsoV R p s s'->IsoV R p (vN t1 c b s) (vN t2 c (p b) s')
 | 0,_,_,_,_,h=>h
 | c+1,b,s,s',hb,h=>by
  have hm:IsoV R p (xV b s) (xV (p b) s'):=⟨fun x hx=>by
   show(if p x=p b then true else s'.1 (p x))=(if x=b then true else s.1 x);rw[h.seen x hx]
   by_cases e:x=b
   ·subst e;simp
   rw[zQ e,zQ fun g=>e (hinj x b hx hb g)],h.left⟩
  have h2:=JV (r1:=vN t1 c) (r2:=vN t2 c) (fun b' a a' hb' ha=>KJ hinj hT c b' a a' hb' ha) (hT b hb).1 hm (t1 b).length (zK _);have e2:vN t2 (c+1) (p b) s'=((xN (vN t2 c) (t2 (p b)) (xV (p b) s') (t2 (p b)).length).1,(xN (vN t2 c) (t2 (p b)) (xV (p b) s') (t2 (p b)).length).2++[((p b:Nat):Int)]):=rfl;rw[e2,(hT b hb).2,yT];refine⟨h2.seen,?_⟩;show _++[((p b:Nat):Int)]=(_++[(b:Int)]).map _;rw[yW,h2.left];simp

structure OrdC (f:FunL) (o:List Nat):Prop where
 once:o.Nodup
 root:∃l,o=0::l
 inb:∀x∈o,x<f.blocks.length
 closed:∀b∈o,∀t∈tosB f.blocks b,t.toNat∈o
theorem FunS.ordC {f:FunL} (h:FunS f):OrdC f (jW f.blocks):=⟨h.ord.once,h.ord.root,h.ord.inb,fun _ hb _ ht=>h.closed hb ht⟩

theorem jc {o:List Nat} {b:Nat} (h:b∈o):qE o b=(o.idxOf b:Int):=by unfold qE;rw[zZ h]
theorem ja {o:List Nat} {b:Nat} (h:b∈o):∃hi:o.idxOf b<o.length,o[o.idxOf b]=b:=⟨List.idxOf_lt_length_of_mem h,List.getElem_idxOf (List.idxOf_lt_length_of_mem h)⟩
theorem ZF {o:List Nat} {a b:Nat} (ha:a∈o) (hb:b∈o) (e:o.idxOf a=o.idxOf b):a=b:=by
 obtain⟨h1,e1⟩:=ja ha;obtain⟨h2,e2⟩:=ja hb;rw[←e1,←e2];simp only[e]
theorem OrdC.pos {f:FunL} {o:List Nat} (h:OrdC f o):0<o.length/\o.idxOf 0=0/\0∈o:=by
 obtain⟨l,rfl⟩:=h.root;simp

theorem xg (o:List Nat) (f:FunL):(zX o f).blocks.length=o.length:=by simp[zX]
theorem ZG (o:List Nat) (f:FunL) {i:Nat} (hi:i<o.length):(zX o f).blocks[i]'(by rw[xg];exact hi)=blkK (qE o) (insN f o[i]) (atF f o[i]):=by simp[zX]
theorem Qz {o:List Nat} {f:FunL} (h:OrdC f o) {i:Nat} (hi:i<o.length):tosB (zX o f).blocks i=(tosB f.blocks o[i]).map fun t=>(o.idxOf t.toNat:Int):=by
 have h1:=h.inb _ (zP hi);rw[xm (by rw[xg];exact hi),ZG o f hi,xm h1];unfold blkK endK;rw[qW h1];refine ya fun t ht=>?_;rw[←xm h1]at ht;exact jc (h.closed _ (zP hi) t ht)
theorem VQ {o:List Nat} {f:FunL} (h:OrdC f o) {b:Nat} (hb:b∈o):tosB (zX o f).blocks (o.idxOf b)=(tosB f.blocks b).map fun t=>(o.idxOf t.toNat:Int):=by
 obtain⟨h1,h2⟩:=ja hb;rw[Qz h h1,h2]

theorem FunD.keep {f:FunL} (hf:FunD f) {o:List Nat} (h:OrdC f o):FunD (zX o f):=by
 have hle:o.length<=f.blocks.length:=jl _ _ h.once h.inb
 have ht:∀(k:Nat) (hk:k<(zX o f).blocks.length),((zX o f).blocks[k]).fin.to=(tosB f.blocks (o[k]'(by rw[←xg o f];exact hk))).map fun t=>(o.idxOf t.toNat:Int):=fun k hk=>by
  rw[←xm hk];exact Qz h _
 have hin:∀(k:Nat) (hk:k<(zX o f).blocks.length),(o[k]'(by rw[←xg o f];exact hk))<f.blocks.length:=fun k hk=>h.inb _ (zP _);refine⟨⟨by rw[xg];exact h.pos.1,by rw[xg];have:=hf.n40;omega,fun k hk=>?_,fun k hk t hm=>?_⟩,fun k hk=>?_⟩
 ·rw[ht k hk,yT,xm (hin k hk)];exact hf.two _ _
 ·rw[ht k hk]at hm;obtain⟨s,hs,rfl⟩:=yD.1 hm;have h1:=h.closed _ (zP (by rw[←xg o f];exact hk)) s hs;rw[xm (hin k hk)]at hs;have h2:=hf.tos _ _ s hs;obtain⟨h3,h4⟩:=ja h1;rw[xg];refine⟨?_,by omega⟩
  have:o.idxOf s.toNat≠0:=fun e=>by
   have:=ZF h1 h.pos.2.2 (e.trans h.pos.2.1.symm);omega
  omega
 rw[ht k hk,xm (hin k hk)];refine List.pairwise_map.2 (List.Pairwise.imp_of_mem (fun {x y} hx hy ne e=>ne ?_) (hf.once _ (hin k hk)));have hx':=h.closed _ (zP (by rw[←xg o f];exact hk)) x (by rw[xm (hin k hk)];exact hx);have hy':=h.closed _ (zP (by rw[←xg o f];exact hk)) y (by rw[xm (hin k hk)];exact hy);have h1:=hf.tos _ _ x hx;have h2:=hf.tos _ _ y hy;have:=ZF hx' hy' bO;omega

theorem FunD.order {f:FunL} (hf:FunD f):jW (Qy f).blocks=List.range (jW f.blocks).length:=by
 have h:=hf.toFunS.ordC;have hd:=hf.keep h;obtain⟨o,ho⟩:=nZ (jW f.blocks);have hle:o.length<=f.blocks.length:=by rw[ho];exact jl _ _ h.once h.inb
 unfold Qy;rw[←ho]at h hd ⊢;have hI:=KJ (R:=fun b=>b∈o) (p:=fun b=>o.idxOf b) (t1:=tosB f.blocks) (t2:=tosB (zX o f).blocks) (fun x y hx hy e=>ZF hx hy e) (fun x hx=>⟨h.closed x hx,VQ h hx⟩) (f.blocks.length+1) 0 (fun _=>false,[]) (fun _=>false,[]) h.pos.2.2 ⟨fun _ _=>rfl,rfl⟩;rw[h.pos.2.1]at hI;have hm:=JU (n:=(zX o f).blocks.length) hd.tosB (f.blocks.length+1) ((zX o f).blocks.length+1) 0 (fun _=>false,[]) (by have h5:j6 (zX o f).blocks.length (fun _=>false)<=_:=vY (zX o f).blocks.length (fun _=>false);have h6:=xg o f;show j6 _ (fun _=>false)<_;omega) (Nat.lt_succ_of_le (vY _ _)) hd.n1 rfl
 have e1:ko (zX o f).blocks=(ko f.blocks).map fun x=>(o.idxOf x.toNat:Int):=by
  unfold ko;rw[←hm,hI.left]
 have e2:jW (zX o f).blocks=o.map fun x=>o.idxOf x:=by
  have e3:jW (zX o f).blocks=(jW f.blocks).map fun x=>o.idxOf x:=by
   unfold jW jR;rw[e1,←List.map_reverse,yy,yy];exact ya fun x _=>by simp
  rw[e3,←ho]
 rw[e2];refine yV bV fun i h1 h2=>?_;simp only[xE,List.getElem_range];exact h.once.idxOf_getElem i (by simpa using h1)

theorem KK {l m:List (Int×(Bool×Int))} (hp:l.Perm m) (hm:m.Pairwise fun a b=>a.1<b.1):sortK l=m:=by
 refine List.Perm.eq_of_pairwise (le:=fun a b=>decide (a.1<=b.1)=true) (fun a b ha hb h1 h2=>?_) ?_ ?_ ((List.mergeSort_perm _ _).trans hp)
 ·have ha':a∈m:=hp.mem_iff.1 ((List.mergeSort_perm _ _).mem_iff.1 ha);have h1:=of_decide_eq_true h1;have h2:=of_decide_eq_true h2;obtain⟨i,hi,e1⟩:=yp.1 ha';obtain⟨j,hj,e2⟩:=yp.1 hb;rw[List.pairwise_iff_getElem]at hm
  by_cases e:i=j
  ·subst e;rw[←e1,←e2]
  rcases Nat.lt_or_gt_of_ne e with g|g
  ·have:=hm i j hi hj g;rw[e1,e2]at this;omega
  have:=hm j i hj hi g;rw[e1,e2]at this;omega
 ·exact List.pairwise_mergeSort (fun a b c h1 h2=>by simp only[yY]at h1 h2 ⊢;omega) (fun a b=>by simp only[Bool.or_eq_true,yY];omega) l
 exact hm.imp fun h=>by simp only[yY];omega

theorem KL {o:List Nat} (ah:List Nat) (g:Nat->Bool×Int):KF (qE o) ah (ah.map g)=(ah.filter fun a=>decide (a∈o)).map fun a=>((o.idxOf a:Int),g a):=by
 unfold KF
 induction ah with
 | nil=>rfl
 | cons a l ih=>
  simp only[yS,List.zip_cons_cons,List.filter_cons]
  by_cases h:a∈o
  ·rw[zZ (by rw[jc h];simp),zZ (by simpa using h),yS,ih,jc h]
  have e:qE o a = -1:=by unfold qE;rw[zQ h]
  rw[zQ (by rw[e];simp),zQ (by simpa using h),ih]

theorem QA {f:FunL} (hf:FunD f) {o:List Nat} (h:OrdC f o) {b:Nat} (hb:b∈o) {j:Nat}:j∈insN (zX o f) (o.idxOf b)↔∃hj:j<o.length,o[j]∈insN f b:=by
 rw[(hf.keep h).mem,xg];constructor
 ·rintro⟨hj,hm⟩;refine⟨hj,hf.mem.2 ⟨h.inb _ (zP hj),?_⟩⟩;rw[Qz h hj]at hm;obtain⟨t,ht,e⟩:=yD.1 hm;have h1:=h.closed _ (zP hj) t ht;have h2:=ZF h1 hb bO;have h3:=hf.tosB _ (h.inb _ (zP hj)) t ht;rw[←h2,show((t.toNat:Nat):Int)=t by omega];exact ht
 rintro⟨hj,hm⟩;refine⟨hj,?_⟩;rw[Qz h hj];exact yD.2 ⟨_,(hf.mem.1 hm).2,by simp⟩
theorem jn {f:FunL} (hf:FunD f) (c:Nat):(insN f c).Pairwise (·<·):=by
 rw[hf.insN];exact List.pairwise_lt_range.filter _

theorem JW {f:FunL} (hf:FunD f) {o:List Nat} (h:OrdC f o) {b:Nat} (hb:b∈o) (g:Nat->Bool×Int):srcK (qE o) (insN f b) ((insN f b).map g)=(insN (zX o f) (o.idxOf b)).map fun j=>g (o.getD j 0):=by
 have hd:=hf.keep h;unfold srcK;rw[KL,KK (m:=(insN (zX o f) (o.idxOf b)).map fun(j:Nat)=>((j:Int),g (o.getD j 0)))]
 ·rw[yy];rfl
 ·have hg:∀j,j∈insN (zX o f) (o.idxOf b)->∃hj:j<o.length,o.getD j 0=o[j]/\o.idxOf o[j]=j/\o[j]∈insN f b:=fun j hj=>by
   obtain⟨h1,h2⟩:=(QA hf h hb).1 hj;exact⟨h1,by simp[h1],h.once.idxOf_getElem j h1,h2⟩
  have e1:((insN (zX o f) (o.idxOf b)).map fun(j:Nat)=>((j:Int),g (o.getD j 0)))=((insN (zX o f) (o.idxOf b)).map fun j=>o.getD j 0).map fun a=>((o.idxOf a:Int),g a):=by
   rw[yy];refine ya fun j hj=>?_;obtain⟨h1,h2,h3,_⟩:=hg j hj;show _=((o.idxOf (o.getD j 0):Int),g (o.getD j 0));rw[h2,h3]
  rw[e1];refine List.Perm.map _ ?_;refine(List.perm_ext_iff_of_nodup ((hf.insD b).filter _) ?_).2 fun a=>?_
  ·refine List.pairwise_map.2 (List.Pairwise.imp_of_mem (fun {x y} hx hy ne e=>ne ?_) (hd.insD (o.idxOf b)));obtain⟨h1,h2,h3,_⟩:=hg x hx;obtain⟨k1,k2,k3,_⟩:=hg y hy;rw[h2,k2]at e;rw[←h3,←k3,e]
  rw[yu,yD];constructor
  ·rintro⟨h1,h2⟩;have h2:a∈o:=(by simpa using h2);obtain⟨h3,h4⟩:=ja h2;refine⟨o.idxOf a,(QA hf h hb).2 ⟨h3,by rw[h4];exact h1⟩,by simp[h3,h4]⟩
  rintro⟨j,hj,rfl⟩;obtain⟨h1,h2,h3,h4⟩:=hg j hj;rw[h2];exact⟨h4,by simp⟩
 exact List.pairwise_map.2 ((jn hd _).imp fun h=>by show(_:Int)<_;omega)

def Zb (ah:List Nat) (src:List (Bool×Int)) (a:Nat):Bool×Int:=src.getD (ah.idxOf a) (false,0)
theorem fromR_row {ah:List Nat} (hd:ah.Nodup) {src:List (Bool×Int)} (h:src.length=ah.length):src=ah.map (Zb ah src):=by
 refine yV (by simp[h]) fun i h1 h2=>?_;simp only[xE];unfold Zb;rw[hd.idxOf_getElem i bO];simp[h1]
theorem fromR_map {ah:List Nat} (g:Nat->Bool×Int) {a:Nat} (h:a∈ah):Zb ah (ah.map g) a=g a:=by
 obtain⟨h1,h2⟩:=ja h;unfold Zb;simp[h1,h2]
end Go.Proofs.YtgjjhadbjmcnpaaGreatDoor
namespace Go.Proofs
open Go.Shelf Go.Sort Go.RowKit Go.Lib
def Tryz.srtf_ren:Go.Shelf.Ren:=⟨fun|6=>97|15=>109|14=>108|28=>124|29=>125|20=>116|21=>117|22=>118|23=>119|24=>120|25=>121|26=>122|27=>123|46=>128|47=>129|48=>130|49=>131|50=>132|57=>134|n=>n,fun|22=>140|24=>142|25=>144|3=>3|39=>151|0=>0|53=>162|55=>165|4=>4|46=>171|45=>170|50=>56|5=>5|9=>9|66=>179|70=>183|76=>186|77=>187|n=>n,fun n=>n⟩
theorem Tryz.srtf:SlLaysF0.n6 Tryz.prog Tryz.srtf_ren where
 mixed:=by kernel_rfl
 f6 := ⟨"slices.SortFunc[[]turnery/tidy.from,turnery/tidy.from]", by decide, Tryz.func97.trans (congrArg some (by kernel_rfl))⟩
 f14 := ⟨"slices.pdqsortCmpFunc[turnery/tidy.from]", by decide, Tryz.func108.trans (congrArg some (by kernel_rfl))⟩
 f15:=Tryz.func109.trans (congrArg some (by kernel_rfl))
 f20 := ⟨"slices.insertionSortCmpFunc[turnery/tidy.from]", by decide, Tryz.func116.trans (congrArg some (by kernel_rfl))⟩
 f21 := ⟨"slices.heapSortCmpFunc[turnery/tidy.from]", by decide, Tryz.func117.trans (congrArg some (by kernel_rfl))⟩
 f22 := ⟨"slices.breakPatternsCmpFunc[turnery/tidy.from]", by decide, Tryz.func118.trans (congrArg some (by kernel_rfl))⟩
 f23 := ⟨"slices.choosePivotCmpFunc[turnery/tidy.from]", by decide, Tryz.func119.trans (congrArg some (by kernel_rfl))⟩
 f24 := ⟨"slices.reverseRangeCmpFunc[turnery/tidy.from]", by decide, Tryz.func120.trans (congrArg some (by kernel_rfl))⟩
 f25 := ⟨"slices.partialInsertionSortCmpFunc[turnery/tidy.from]", by decide, Tryz.func121.trans (congrArg some (by kernel_rfl))⟩
 f26 := ⟨"slices.partitionEqualCmpFunc[turnery/tidy.from]", by decide, Tryz.func122.trans (congrArg some (by kernel_rfl))⟩
 f27 := ⟨"slices.partitionCmpFunc[turnery/tidy.from]", by decide, Tryz.func123.trans (congrArg some (by kernel_rfl))⟩
 f28:=Tryz.func124.trans (congrArg some (by kernel_rfl))
 f29:=Tryz.func125.trans (congrArg some (by kernel_rfl))
 f46 := ⟨"slices.siftDownCmpFunc[turnery/tidy.from]", by decide, Tryz.func128.trans (congrArg some (by kernel_rfl))⟩
 f47:=Tryz.func129.trans (congrArg some (by kernel_rfl))
 f48:=Tryz.func130.trans (congrArg some (by kernel_rfl))
 f49 := ⟨"slices.medianAdjacentCmpFunc[turnery/tidy.from]", by decide, Tryz.func131.trans (congrArg some (by kernel_rfl))⟩
 f50 := ⟨"slices.medianCmpFunc[turnery/tidy.from]", by decide, Tryz.func132.trans (congrArg some (by kernel_rfl))⟩
 f57 := ⟨"slices.order2CmpFunc[turnery/tidy.from]", by decide, Tryz.func134.trans (congrArg some (by kernel_rfl))⟩
 t0:=Tryz.underlying0
 a0:=Tryz.isAgg0
 z0:=Tryz.sizeOf0
 v0:=Tryz.zeroValue0
 t3:=Tryz.underlying3
 a3:=Tryz.isAgg3
 z3:=Tryz.sizeOf3
 v3:=Tryz.zeroValue3
 t4:=Tryz.underlying4
 a4:=Tryz.isAgg4
 z4:=Tryz.sizeOf4
 v4:=Tryz.zeroValue4
 t5:=Tryz.underlying5
 a5:=Tryz.isAgg5
 z5:=Tryz.sizeOf5
 v5:=Tryz.zeroValue5
 t9:=Tryz.underlying9
 a9:=Tryz.isAgg9
 z9:=Tryz.sizeOf9
 v9:=Tryz.zeroValue9
 t22:=Tryz.underlying140
 a22:=Tryz.isAgg140
 z22:=Tryz.sizeOf140
 v22:=Tryz.zeroValue140
 t25:=Tryz.underlying144
 a25:=Tryz.isAgg144
 z25:=Tryz.sizeOf144
 v25:=Tryz.zeroValue144
 t39:=Tryz.underlying151
 a39:=Tryz.isAgg151
 z39:=Tryz.sizeOf151
 v39:=Tryz.zeroValue151
 t45:=Tryz.underlying170
 a45:=Tryz.isAgg170
 z45:=Tryz.sizeOf170
 v45:=Tryz.zeroValue170
 t46:=Tryz.underlying171
 a46:=Tryz.isAgg171
 z46:=Tryz.sizeOf171
 v46:=Tryz.zeroValue171
 t50:=Tryz.underlying56
 a50:=Tryz.isAgg56
 z50:=Tryz.sizeOf56
 v50:=Tryz.zeroValue56
 t53:=Tryz.underlying162
 a53:=Tryz.isAgg162
 z53:=Tryz.sizeOf162
 v53:=Tryz.zeroValue162
 t55:=Tryz.underlying165
 a55:=Tryz.isAgg165
 z55:=Tryz.sizeOf165
 v55:=Tryz.zeroValue165
 t66:=Tryz.underlying179
 a66:=Tryz.isAgg179
 z66:=Tryz.sizeOf179
 v66:=Tryz.zeroValue179
 t70:=Tryz.underlying183
 a70:=Tryz.isAgg183
 z70:=Tryz.sizeOf183
 v70:=Tryz.zeroValue183
 t76:=Tryz.underlying186
 a76:=Tryz.isAgg186
 z76:=Tryz.sizeOf186
 v76:=Tryz.zeroValue186
 t77:=Tryz.underlying187
 a77:=Tryz.isAgg187
 z77:=Tryz.sizeOf187
 v77:=Tryz.zeroValue187
end Go.Proofs
namespace Go.Proofs.YtgjjhadbjmcnpaaGreatDoor
open Go.RowKit Go.Shelf Go.Sort

abbrev FrmL:=Int×(Bool×Int)
def FrmO:ElemO FrmL:=fun _ cs x _=>cs=[.int .i64 x.1,.bool x.2.1,.int .i64 x.2.2]/\(0<=x.1/\x.1<1000000)/\I64 x.2.2
theorem Xl:kY FrmO:=fun _ _ _ _ _ h _ _=>h
abbrev FrmS:={ x:FrmL // 0<=x.1/\x.1<1000000 }
instance:Inhabited FrmS:=⟨⟨(0,(false,0)),by decide⟩⟩
def KM (x:FrmS):List Value:=[.int .i64 x.1.1,.bool x.1.2.1,.int .i64 x.1.2.2]
def cmpF (x y:FrmS):Int:=x.1.1 - y.1.1
theorem ltF (x y:FrmS):ltOf cmpF x y=decide (x.1.1<y.1.1):=by
 unfold ltOf cmpF;rw[decide_eq_decide];omega
theorem swoF:SWO (ltOf cmpF) where
 irrefl x:=by rw[ltF];simp
 trans x y z h1 h2:=by rw[ltF]at *;simp at *;omega
 ntrans x y z h1 h2:=by rw[ltF]at *;simp at *;omega

theorem cmpF_any (x y:FrmS) (W:World):Calls Tryz.prog 98 #[.agg (KM x).toArray,.agg (KM y).toArray] W fun e w'=>e = .returned (.int .i64 (cmpF x y))/\∃q os',w'=grow (W.drewN q) os':=by
 obtain⟨⟨x1,x2,x3⟩,hx⟩:=x;obtain⟨⟨y1,y2,y3⟩,hy⟩:=y;simp only at hx hy;have hw:IntKind.i64.wrap (x1 - y1)=x1 - y1:=by rw[IntKind.wrap_i64];omega
 unfold KM cmpF
 go_enter Tryz.func98,Tryz.ntmps98
 go_wp2
 go_ret
 exact⟨rfl,0,_,by rw[alloc_eq_grow,alloc_eq_grow,grow_grow];rfl⟩

theorem RowAt.sorted {w:World} {e:TypeId} {g cap size:Nat} {cur:Array Value} (h:RowAt w e g cap size cur) {l:List Value} (hl:l.length<=cap*size) (q:Nat) (os:Array Obj) :
  (∃cur',RowAt (grow (putRow id (Sort.ahead w q) g 0 l.toArray) os) e g cap size cur'/\cur'.toList.take l.length=l)/\Kept (fun k=>k=g) w (grow (putRow id (Sort.ahead w q) g 0 l.toArray) os):=by
 have hg:=(Array.getElem?_eq_some_iff.1 h.1).1;refine⟨⟨putCells id 0 l.toArray cur,⟨?_,by simpa[putCells]using h.2.1,h.2.2⟩,?_⟩,⟨rfl,rfl,rfl,?_,fun k hk hn=>?_⟩⟩
 ·unfold grow putRow mapBlock Sort.ahead;simp only;rw[Array.getElem?_append_left (by simpa using hg),Array.getElem?_modify,if_pos rfl,h.1];rfl
 ·refine List.ext_getElem? fun j=>?_;rw[List.getElem?_take,Array.getElem?_toList]
  by_cases hj:j<l.length
  ·have hjc:j<cur.size:=(by have:=h.2.1;omega);rw[if_pos hj];simp only[putCells,Array.getElem?_mapIdx,Array.getElem?_eq_getElem hjc,Option.map_some];rw[if_pos (by simp;omega),List.getElem?_eq_getElem hj];simp[getElem!_pos,hj]
  rw[if_neg hj,List.getElem?_eq_none (by omega)]
 ·unfold grow putRow mapBlock Sort.ahead;simp
 unfold grow putRow mapBlock Sort.ahead;simp only;rw[Array.getElem?_append_left (by simpa using hk),Array.getElem?_modify,if_neg (fun e=>hn e.symm)]

theorem J3 {α:Type} {f:α->List Value}:∀{xs:List α} {cs:Nat->List Value},(∀i (h:i<xs.length),cs i=f xs[i])->(List.range xs.length).flatMap cs=xs.flatMap f
 | [],_,_=>rfl
 | x::xs,cs,h=>by
  rw[List.length_cons,List.range_succ_eq_map,List.flatMap_cons,h 0 (by simp)]
  have ih:=J3 (xs:=xs) (cs:=fun i=>cs (i+1)) fun i hi=>by
   have:=h (i+1) (by simpa using hi);simpa using this
  unfold List.flatMap at ih ⊢;rw[List.map_map];rw[show(List.range xs.length).map (cs∘Nat.succ)=(List.range xs.length).map (fun i=>cs (i+1))from rfl,ih];rfl
theorem KN {α:Type} [Inhabited α] (enc:α->List Value) (k:Nat) (hk0:0<k) (hk:∀x,(enc x).length=k) (d:Array α):(flatK enc k d).toList=d.toList.flatMap enc:=by
 have e1:(List.range d.toList.length).flatMap (fun i=>enc d[i]!)=d.toList.flatMap enc:=J3 fun i hi=>by
  rw[getElem!_pos d i (by simpa using hi)];rfl
 rw[←e1];refine List.ext_getElem? fun t=>?_;rcases Nat.lt_or_ge t (d.size*k)with g|g
 ·have hi:t / k<d.toList.length:=Nat.div_lt_of_lt_mul (by rw[Nat.mul_comm];simpa using g);have hj:=Nat.mod_lt t hk0;have e:t=t / k*k+t % k:=by rw[Nat.mul_comm];exact(Nat.div_add_mod t k).symm
  have h2:=xZ (cs:=fun i=>enc d[i]!) (size:=k) d.toList.length (fun i _=>hk _) _ _ hi hj;rw[←e]at h2;rw[h2,Array.getElem?_toList,Array.getElem?_eq_getElem (by simpa using g),←getElem!_pos (flatK enc k d) t (by simpa using g),get_flatK enc k d t g];rw[List.getElem?_eq_getElem (by rw[hk];exact hj),←getElem!_pos (enc d[t / k]!) (t % k) (by rw[hk];exact hj)]
 rw[List.getElem?_eq_none (by simpa using g),List.getElem?_eq_none (by rw[zR (size:=k) _ (fun i _=>hk _)];simpa using g)]
def kq (x:FrmL):List Value:=[.int .i64 x.1,.bool x.2.1,.int .i64 x.2.2]
def FrmH (x:FrmL):Prop:=(0<=x.1/\x.1<1000000)/\I64 x.2.2
theorem Xm (x:FrmL):∀u∈kq x,u.oneCell'=true:=by
 intro u hu;simp only[kq,List.mem_cons,List.not_mem_nil,or_false]at hu;rcases hu with rfl|rfl|rfl<;>rfl
theorem SlO.rowF {w:World} {v:Value} {xs:List FrmL} {S:Blks} (h:SlO 142 3 FrmO w v xs S):w.ownsRow 0 142 3 v xs.length (xs.flatMap kq)/\(∀x∈xs,FrmH x)/\(∀g,v.ownBlock=some g->S g)/\InB w S:=by
 obtain⟨cs,T,h⟩:=h;refine⟨?_,fun x hx=>?_,h.blk,h.inb⟩
 ·have:=h.own
  rwa [J3 (f:=kq) fun i hi=>(h.el i hi).1]at this
 obtain⟨i,hi,rfl⟩:=List.getElem_of_mem hx;exact⟨(h.el i hi).2.1,(h.el i hi).2.2⟩
theorem SlO.ofRowF {w:World} {v:Value} {xs:List FrmL} {S:Blks} (h:w.ownsRow 0 142 3 v xs.length (xs.flatMap kq)) (hx:∀x∈xs,FrmH x) (hv:∀g,v.ownBlock=some g->S g) (hS:InB w S):SlO 142 3 FrmO w v xs S:=by
 refine⟨fun i=>kq (xs.getD i (0,false,0)),fun _ _=>False,⟨?_,fun _ _=>rfl,fun i _=>Xm _,fun i hi=>⟨?_,(hx _ (List.getElem_mem hi)).1,(hx _ (List.getElem_mem hi)).2⟩,fun _ _ _ _ _ _ a _=>a,fun _ _ _ _ a=>a,hv,fun _ _ _ a=>a.elim,hS⟩⟩
 ·rw[J3 (f:=kq) fun i hi=>by simp[List.getD,hi]];exact h
 simp[kq,List.getD,hi]
theorem KO {w:World} {e:TypeId} {size:Nat} {v:Value} {n:Nat} {xs:List Value} (h:w.ownsRow 0 e size v n xs) (hn:0<n):∃g cap cur,v = .slice (some ⟨g,0,none⟩) n cap/\RowAt w e g cap size cur/\n<=cap/\cur.toList.take (n*size)=xs:=by
 rcases h.2 with⟨_,h2⟩|⟨g,cap,cur,hv,_,hg,h1,h2,h3,h4⟩
 ·omega
 exact⟨g,cap,cur,hv,⟨hg,h3,h2⟩,h1,h4⟩

theorem JX (p:Option Addr) (cap:Nat) (xs:List FrmL) (w:World) (S:Blks) (h:SlO 142 3 FrmO w (.slice p xs.length cap) xs S) (hlen:xs.length<=100000) :
  Calls Tryz.prog 97 #[.slice p xs.length cap,.func (.func 98) #[] #[]] w fun e w'=>e = .returned (.tuple #[])/\(∃ys:List FrmL,ys.Perm xs/\ys.Pairwise (fun a b=>a.1<=b.1)/\SlO 142 3 FrmO w' (.slice p xs.length cap) ys S)/\Kept S w w':=by
 obtain⟨hrow,hx,hSb,hIn⟩:=h.rowF;rcases Nat.eq_zero_or_pos xs.length with h0|h0
 ·rw[h0];have hxs:=List.length_eq_zero_iff.1 h0;subst hxs;refine(AnyF.slices_SortFunc_none Tryz.srtf p cap _ w).mono ?_;rintro e w' ⟨rfl,rfl⟩;exact⟨rfl,⟨[],List.Perm.refl _,.nil,h⟩,Kept.refl _ _⟩
 obtain⟨g,c',cur,hv,hr,hn,htk⟩:=KO hrow h0;injection hv with hp _ hc;subst hp hc;obtain⟨d,hd⟩:∃d:List FrmS,d.map (·.1)=xs:=⟨xs.attach.map fun x=>⟨x.1,(hx _ x.2).1⟩,by rw[List.map_map];exact List.attach_map_subtype_val xs⟩;have hdl:d.length=xs.length:=by rw[←hd];simp
 have hfl:∀d:List FrmS,d.flatMap KM=(d.map (·.1)).flatMap kq:=fun d=>by
  rw[List.flatMap_map];rfl
 have hH:HoldsK KM 3 w g 0 d.toArray:=by
  intro j hj;rw[size_flatK]at hj;have hj2:j<xs.length*3:=by rw[←hdl];simpa using hj
  have hjc:j<cur.size:=by rw[hr.2.1];omega
  have e1:(flatK KM 3 d.toArray)[j]! = cur[j]:=by
   rw[getElem!_pos _ j (by rw[size_flatK];exact hj),←Array.getElem_toList]
   have e2:(flatK KM 3 d.toArray).toList=cur.toList.take (xs.length*3):=by
    rw[KN KM 3 (by omega) (fun _=>rfl),htk,hfl,hd]
   have e3:(flatK KM 3 d.toArray).toList[j]?=cur.toList[j]?:=by
    rw[e2,List.getElem?_take,if_pos hj2]
   rw[List.getElem?_eq_getElem (by simpa using hj),List.getElem?_eq_getElem (by simpa using hjc)]at e3;exact Option.some.inj e3
  rw[Nat.zero_add,e1,hr.cell,Array.getElem?_eq_getElem hjc];exact⟨rfl,(blk hr.1).2 j⟩
 have eg:∀args w,(callFunc 98 args).run Tryz.prog w = .ok (.enter 98 args) w:=enters_of Tryz.func98 (by kernel_rfl) rfl;have hcon:=AnyQ.slices_SortFunc Tryz.srtf 3 Tryz.isAgg142 Tryz.sizeOf142 KM (fun _=>rfl) (fun x=>Xm x.1) cmpF swoF 98 #[] g 0 cap d.toArray w eg (fun m os dk _ x y=>cmpF_any x y _) hH (Array.getElem?_eq_some_iff.1 hr.1).1 (by simp;omega);have hds:d.toArray.size=xs.length:=by simpa using hdl
 rw[hds]at hcon;refine hcon.mono ?_;rintro e w' ⟨rfl,d',n,os,hpm,hso,rfl⟩;have hhf:d'.size=xs.length:=by rw[hpm.1];exact hds
 have hperm:d'.toList.Perm d:=by
  have:=hpm.2.2
  rwa [show d'.extract 0 xs.length=d' by rw[←hhf];exact Array.extract_size,show d.toArray.extract 0 xs.length=d.toArray by rw[←hds];exact Array.extract_size]at this
 have hys:(d'.toList.map (·.1)).Perm xs:=by rw[←hd];exact hperm.map _
 have hyl:(d'.toList.map (·.1)).length=xs.length:=by simpa using hhf
 obtain⟨⟨cur',hr',hrj⟩,hK⟩:=hr.sorted (l:=(flatK KM 3 d').toList) (by simp[hhf];omega) n os;have hcl:(flatK KM 3 d').toList=(d'.toList.map (·.1)).flatMap kq:=by rw[KN KM 3 (by omega) (fun _=>rfl),hfl]
 refine⟨rfl,⟨d'.toList.map (·.1),hys,?_,?_⟩,hK.mono fun i _ e=>hSb i (by rw[e];rfl)⟩
 ·rw[List.pairwise_map,List.pairwise_iff_getElem];intro i j hi hj hij;have hi':i<d'.size:=by simpa using hi
  have hj':j<d'.size:=by simpa using hj
  have:=hso i j (Nat.zero_le _) hij (by omega);rw[getElem!_pos d' j hj',getElem!_pos d' i hi',ltF]at this;simp only[decide_eq_false_iff_not,Int.not_lt]at this;simpa using this
 refine SlO.ofRowF ?_ (fun x hx'=>hx x (hys.subset hx')) hSb (hIn.mono hK.size);rw[hyl];refine hr'.own hn (by rw[←hcl];simp[hhf]) ?_;rw[←hcl];have hl3:(flatK KM 3 d').toList.length=xs.length*3:=by simp[hhf]
 rw[←hl3];exact hrj
end Go.Proofs.YtgjjhadbjmcnpaaGreatDoor
namespace Go.Proofs.YtgjjhadbjmcnpaaGreatDoor
open Go.RowKit

theorem I64.nat {n:Nat} (h:n<=9223372036854775807):I64 (n:Int):=by
 unfold I64;omega

end Go.Proofs.YtgjjhadbjmcnpaaGreatDoor
