/-
  Plain: what a function of a fine unit is, as far as its blocks' graph goes; places in an o
-/
import Derived.Maps.OwnIn
import Derived.Test.YtecdphhdmjmmnaaGreatDoorJDomF
import Derived.Laws.EntriesVeiled
import Derived.Shelf.Slices.Reverse
set_option maxRecDepth 100000
set_option maxHeartbeats 16000000
namespace Go.Proofs.YtecdphhdmjmmnaaGreatDoor
open Go.RowKit Go.Shelf
attribute [local go_sem] Oper.semAt_some

def tosB (bs:List BlkL) (b:Nat):List Int:=match bs[b]? with|some x=>x.fin.to|none=>[]
theorem zk {bs:List BlkL} {b:Nat} (h:b<bs.length):tosB bs b=bs[b].fin.to:=by
 unfold tosB
 rw[List.getElem?_eq_getElem h]

theorem PostI.off {W0 W:World} {lv0 lv:Value} {V L n B:Nat} {tb ti tl:TypeId} {s s0:PostS} (_h:PostI W0 lv0 V L n B tb ti tl lv s W) (h0:PostM W0 V L n B tb ti tl lv0 s0) {k:Nat} {o:Obj} (hk:W0.heap[k]?=some o) (ho:o.isCells=false):¬ (k=V∨k=L∨some k=lv0.ownBlock):=by
 rintro(e|e|e)
 ·subst e
  obtain⟨cs,hcs⟩:=h0.seen
  rw[hcs.1]at hk
  cases hk;cases ho
 ·subst e
  rw[h0.var]at hk
  cases hk;cases ho
 rcases h0.own.2 with⟨hv,_⟩|⟨g,cap,cur,hv,_,hh,_⟩
 ·rw[hv]at e;cases e
 rw[hv]at e
 injection e with e
 subst e
 rw[hh]at hk
 cases hk;cases ho
theorem PostI.keeps {W0 W:World} {lv0 lv:Value} {V L n B:Nat} {tb ti tl:TypeId} {s s0:PostS} (h:PostI W0 lv0 V L n B tb ti tl lv s W) (h0:PostM W0 V L n B tb ti tl lv0 s0) (B':Nat):KeepsFrom B' W0 W:=
 ⟨h.kept.size,fun k _ _ hk ho=>(h.kept.block k (Array.getElem?_eq_some_iff.1 hk).1 (h.off h0 hk ho)).trans hk⟩

theorem ZL (bs:List BlkL) (fp:Option Addr) (fc:Nat) (w1:World) (hl:bs.length≤100000) (h2:∀k (h:k<bs.length),bs[k].fin.to.length≤2) (hT:∀b,b<bs.length→∀x∈tosB bs b,0≤x∧x<(bs.length:Int)) (V H G X L:Nat)
  (hVz:V<w1.heap.size) (hLz:L<w1.heap.size) (hVL:V≠L) (hHV:H≠V) (hHL:H≠L) (hGV:G≠V) (hGL:G≠L) (hXV:X≠V) (hXL:X≠L) (w00:World) (hkQ:Below w00.heap.size w00 w1) (hF0:SliceAt w00 6 (BlkR w00) fp bs) (hV0:w00.heap.size≤V) (hL0:w00.heap.size≤L)
  (cH:w1.cell? ⟨H,0,none⟩=some (.slice (some ⟨V,0,none⟩) bs.length bs.length)) (cG:w1.cell? ⟨G,3,none⟩=some (.slice fp bs.length fc)) (cX:w1.cell? ⟨X,0,none⟩=some (.func (.func 128) #[] #[.pointer (some ⟨H,0,none⟩),.pointer (some ⟨G,0,none⟩),.pointer (some ⟨X,0,none⟩),.pointer (some ⟨L,0,none⟩)])) :
  ∀(c:Nat) (s:PostS) (lv:Value) (W:World) (b:Nat),xg bs.length s.1<c→b<bs.length→s.1 b=false→s.2.length+xg bs.length s.1≤bs.length→Kept (fun k=>k=V∨k=L) w1 W→PostM W V L bs.length w1.heap.size 4 3 44 lv s→
   Calls Tryz.prog 128 #[.int .i64 b,.pointer (some ⟨H,0,none⟩),.pointer (some ⟨G,0,none⟩),.pointer (some ⟨X,0,none⟩),.pointer (some ⟨L,0,none⟩)] W fun e W'=>e = .returned (.tuple #[])∧∃lv',PostI W lv V L bs.length w1.heap.size 4 3 44 lv' (jy (tosB bs) c b s) W':=by
 obtain⟨i1,k1,k2,k3,k4⟩:=info_parts infoInt3
 have HF0:=q7 hF0
 have HT:=q7 hT
 have H2:=q7 h2
 have hhI:=q7 hkQ
 clear hF0 hT h2 hkQ
 intro c
 induction c with
 | zero=>intro s lv W b h;omega
 | succ c ih=>
  intro s lv W b hc hb hs hm hk hM
  have IH:=q7 ih
  have hmk:=ju (n:=bs.length) hb hs
  have gH:=hk.cell (p:=⟨H,0,none⟩) (q8 cH) (fun e=>e.elim hHV hHL)
  have gG:=hk.cell (p:=⟨G,3,none⟩) (q8 cG) (fun e=>e.elim hGV hGL)
  rw[cH]at gH
  rw[cG]at gG
  have zV:=hM.seen.lt
  have cV:=hM.seen.cell hb
  have fV:=hM.seen.frozen b
  have zG:=q8 gG
  have zH:=q8 gH
  have hdx:Below w00.heap.size w00 W:=hhI.out.trans (Kept.below (S:=fun k=>k=V∨k=L) hk hhI.out.size (fun i e=>by rcases e with e|e<;>omega))
  obtain⟨fb,fo,q1,c1,q2,c2,q3,c3,hp,e0,_,_,_,_,e5,_,_,_,_,_,_,_,hts⟩:=zE HF0.out (Below.refl _ _) hb
  have hbb:fb<w00.heap.size:=q8 e0
  subst hp
  have hfV:fb≠V:=by omega
  have e5:=(hdx.cell (p:=⟨fb,fo+b*6+5,none⟩) hbb).trans e5
  have zfb:fb<W.heap.size:=q8 e5
  have HM:=q7 hM
  have HK:=q7 hk
  have HTS:=q7 hts
  have HS:=q7 hs
  have HW0:=q7 hdx
  have HVL:=q7 hVL
  have HMK:=q7 hmk
  clear ih hk hM hts e0 hs hdx hmk
  refine(callsIn_wide (n:=3)).1 ?_
  refine callsIn_of_wp_marks Tryz.func128 rfl trivial ?_ rfl
  simp only[Tryz.ntmps128,List.size_toArray,List.length_cons,List.length_nil,Nat.reduceAdd,Nat.reduceSub,Array.replicate_succ,Array.replicate_zero,List.push_toArray,List.append_toArray,List.nil_append,List.cons_append]
  have hsN:=hfV.symm
  have hsQ:=hHV.symm
  have hsS:=hGV.symm
  gi_wp2_with (refine⟨trivial,?_⟩;gi_at_call 129;refine((callsIn_wide (n:=2)).2 (XC _ _ _ _)).mono ?_;rintro e w2 ⟨rfl,rfl⟩)
  gi_wp2
  obtain⟨W0,hW0⟩:∃W0,W0=(W.setCell ⟨V,b,none⟩ (.bool true)).alloc (.cells #[.slice q3 bs[b].fin.to.length c3] 44):=⟨_,rfl⟩
  rw[←hW0]
  have hz0:W0.heap.size=W.heap.size+1:=by rw[hW0];simp
  have hgW:W.grownBy (W.setCell ⟨V,b,none⟩ (.bool true)) (some V):=⟨rfl,rfl,rfl,by rw[Go.Deep.nblk_setCell];exact Nat.le_refl _,fun i _ hne=>Go.Deep.blk_setCell_other _ _ _ _ (fun e=>hne (by rw[e]))⟩
  have hM1:PostM (W.setCell ⟨V,b,none⟩ (.bool true)) V L bs.length w1.heap.size 4 3 44 lv (zY b s):=by
   refine⟨(HM.out.seen.set b (.bool true)).congr fun j _=>?_,(hgW.block L (q9 HM.out.var) (fun e=>HVL.out (by injection e with e;exact e.symm))).trans HM.out.var,HM.out.own.kept hgW (.inr fun e=>?_)⟩
   ·show(if j=b then Value.bool true else Value.bool (s.1 j))=Value.bool (if j=b then true else s.1 j)
    split<;>rfl
   have:=(HM.out.own.lt V e).1
   omega
  have hP0:PostI W lv V L bs.length w1.heap.size 4 3 44 lv (zY b s) W0:=by
   have h1:PostI W lv V L bs.length w1.heap.size 4 3 44 lv (zY b s) (W.setCell ⟨V,b,none⟩ (.bool true)):=⟨hM1,Kept.of_grown hgW (fun g e=>.inl (by injection e with e;exact e.symm)),.inl rfl⟩
   rw[hW0]
   exact h1.below ((Below.refl _ _).alloc (Nat.le_refl _) _)
  have hb0:Below w00.heap.size w00 W0:=by
   rw[hW0]
   exact(HW0.out.setCell (by exact hV0) _).alloc (by have:=HW0.out.size;simp;omega) _
  have hkR:W0.cell? ⟨W.heap.size,0,none⟩=some (.slice q3 bs[b].fin.to.length c3):=by
   rw[hW0]
   exact(blk (qh (w:=W.setCell ⟨V,b,none⟩ (.bool true)) (by simp))).1 0
  have hsh:BackSh W.heap.size q3 c3 bs[b].fin.to W0:=⟨hkR,fun i hi=>by
   obtain⟨b',o',h1,h2,_⟩:=Qn HTS.out hb0 hi
   exact⟨b',o',h1,h2⟩⟩
  have hq3:∀b' o',q3=some ⟨b',o',none⟩→0<bs[b].fin.to.length→b'<w00.heap.size:=fun b' o' e h0=>by
   obtain⟨b2,o2,h1,h2,_⟩:=Qn HTS.out (Below.refl _ _) h0
   rw[e]at h1
   cases h1
   exact q8 h2
  have HTB:Hid (tosB bs b=bs[b].fin.to):=zk hb
  have hl2:=H2.out b hb
  have hTb:=HT.out b hb
  rw[HTB.out]at hTb
  have HP0:=q7 hP0
  have HSH:=q7 hsh
  have HQ3:=q7 hq3
  have HTb:=q7 hTb
  clear hW0 hP0 hsh hb0 hkR hM1 hgW hq3 hTb e5
  generalize hto:bs[b].fin.to=tq at *
  clear hto
  refine Xy rfl (by omega) (gf:=160) (lb:=#[.pointer (some ⟨W.heap.size,0,none⟩)]) rfl trivial (enters_of Tryz.func160 (by kernel_rfl) rfl)
   (back_at Fence.wide 2 trivial rfl (by omega) W.heap.size c3 q3 tq W0 (by omega) HSH.out) (fun h k x=>k (h x)) (fun W l o o' _ hl ho _ h=>h.putObj o' hl ho) (Below.refl _ _) (fun i _=>rfl)
   (fun i W'=>(∃lv',PostI W0 lv V L bs.length w1.heap.size 4 3 44 lv' (zN (jy (tosB bs) c) tq (zY b s) i) W')∧BackSh W.heap.size q3 c3 tq W') (fun _ _ _=>False)
   ((V7 (Nat.le_refl _) _).and own_back) (fun _ _ _ _ _ hs _ _=>hs) ⟨⟨lv,PostI.here HP0.out.st⟩,HSH.out⟩
   (fun i=>{ tmps:=#[.int .i64 b,.pointer (some ⟨H,0,none⟩),.pointer (some ⟨G,0,none⟩),.pointer (some ⟨X,0,none⟩),.pointer (some ⟨L,0,none⟩),undef,undef,.int .i64 (tq.getD (tq.length - 1 - i) 0),.slice (some ⟨V,0,none⟩) bs.length bs.length,.int .i64 b,.pointer (some ⟨V,b,none⟩),.pointer (some ⟨G,3,none⟩),.slice (some ⟨fb,fo,none⟩) bs.length fc,.int .i64 b,.pointer (some ⟨fb,fo+b*6,none⟩),.pointer (some ⟨fb,fo+b*6+2,none⟩),.pointer (some ⟨fb,fo+b*6+2+3,none⟩),.slice q3 tq.length c3,.func (.func 160) #[] #[.pointer (some ⟨W.heap.size,0,none⟩)],.int .i64 ((tq.length - 1 - i:Nat):Int),.int .i64 (tq.getD (tq.length - 1 - i) 0),undef,undef,undef,undef,undef,undef,undef,undef,undef,undef,undef,undef],defers:=[] }) ?assign ?body ?fin ?stop
  case assign=>
   intro l i W K hi hK
   unfold V6
   gi_wp2
   exact hK
  case body=>
   rintro l i Wi hl hi ⟨⟨lv',hPi⟩,hSi⟩
   have hk1:tq.length - 1 - i<tq.length:=by omega
   have hok:=Qb (n:=bs.length) (rec:=jy (tosB bs) c) HTb.out (s:=zY b s) (fun b' s' hb' h' _=>JC HT.out c b' s' hb' h') i (by omega)
   have hx:=HTb.out _ (List.getElem_mem hk1)
   have hgd:tq.getD (tq.length - 1 - i) 0=tq[tq.length - 1 - i]:=by
    rw[List.getD_eq_getElem?_getD,List.getElem?_eq_getElem hk1]
    rfl
   have HSU:Hid (zN (jy (tosB bs) c) tq (zY b s) (i+1)=zJ (jy (tosB bs) c) (zN (jy (tosB bs) c) tq (zY b s) i) (tq[tq.length - 1 - i])):=by
    show _=zJ _ _ _
    rw[←hgd]
    rfl
   rw[hgd]
   obtain⟨t,ht⟩:∃t:Nat,tq[tq.length - 1 - i]=(t:Int):=⟨tq[tq.length - 1 - i].toNat,by omega⟩
   rw[ht]at hx HSU
   rw[ht]
   have htn:t<bs.length:=by omega
   generalize zN (jy (tosB bs) c) tq (zY b s) i=S at *
   have hkb:=hPi.base HP0.out.st (Nat.le_refl _) (HP0.out.base HM.out (Nat.le_refl _) HK.out)
   have gH:=(hkb.cell (p:=⟨H,0,none⟩) (q8 cH) (fun e=>e.elim hHV hHL)).trans cH
   have gX:=(hkb.cell (p:=⟨X,0,none⟩) (q8 cX) (fun e=>e.elim hXV hXL)).trans cX
   have gS:=hPi.st.seen.cell htn
   have hlo:xg bs.length S.1≤xg bs.length (zY b s).1:=kT hok.up
   have hhJ:=hok.many
   have hsl:(zY b s).2.length=s.2.length:=rfl
   have hdl:=HMK.out
   have HPi:=q7 hPi
   have HSi:=q7 hSi
   have HKb:=q7 hkb
   clear hgd ht hok hPi hSi hkb
   cases hst:S.1 t
   ·rw[hst]at gS
    have HST:=q7 hst
    clear hst
    gi_wp2_with (refine⟨trivial,?_⟩;refine(CallsIn.inRound l (callsIn_wide.2 (IH.out S lv' Wi t (by omega) htn HST.out (by omega) HKb.out HPi.out.st))).mono ?_;rintro e W3 ⟨rfl,lv3,hP3⟩)
    gi_wp2
    have hkS:BackSh W.heap.size q3 c3 tq W3:=HSi.out.other fun b' o' v hc hor=>(hP3.kept.cell (p:=⟨b',o',none⟩) (q8 hc) (fun e=>by
     have hw1:=HK.out.size
     have hw0:=hhI.out.size
     rcases hor with h|⟨o2,h⟩
     ·rcases e with e|e|e
      ·have e2:b'=V:=e
       omega
      ·have e2:b'=L:=e
       omega
      have e2:some b'=lv'.ownBlock:=e
      rcases HPi.out.blk with g|⟨q,g,hq⟩
      ·have:=(HM.out.own.lt b' (g.symm.trans e2.symm)).2
       omega
      rw[g]at e2
      injection e2 with e2
      omega
     have h1:=HQ3.out b' o2 h (by omega)
     rcases e with e|e|e
     ·have e2:b'=V:=e
      omega
     ·have e2:b'=L:=e
      omega
     have:=(HPi.out.st.own.lt b' (show lv'.ownBlock=some b' from e.symm)).1
     omega)).trans hc
    refine⟨hP3.keeps HPi.out.st _,fun _=>hkS,⟨lv3,?_⟩,hkS⟩
    rw[HSU.out]
    unfold zJ
    rw[show(t:Int).toNat=t from rfl,HST.out]
    exact HPi.out.trans hP3
   rw[hst]at gS
   have HST:=q7 hst
   clear hst
   gi_wp2
   refine⟨KeepsFrom.refl _ _,fun h=>h,⟨lv',?_⟩,HSi.out⟩
   rw[HSU.out]
   unfold zJ
   rw[show(t:Int).toNat=t from rfl,HST.out]
   exact HPi.out
  case fin=>
   rintro D W2 hD ⟨⟨lv',hPi⟩,hSi⟩ hDl
   have hok:=Qb (n:=bs.length) (rec:=jy (tosB bs) c) HTb.out (s:=zY b s) (fun b' s' hb' h' _=>JC HT.out c b' s' hb' h') tq.length (Nat.le_refl _)
   have HVF:Hid (jy (tosB bs) (c+1) b s=((zN (jy (tosB bs) c) tq (zY b s) tq.length).1,(zN (jy (tosB bs) c) tq (zY b s) tq.length).2++[(b:Int)])):=by
    show _=_
    rw[←HTB.out]
    rfl
   have hhJ:=hok.many
   have hsl:(zY b s).2.length=s.2.length:=rfl
   have hdl:=HMK.out
   clear hok
   generalize zN (jy (tosB bs) c) tq (zY b s) tq.length=S at *
   obtain⟨m,d,hvv⟩:=j8 hPi.st.own
   subst hvv
   have cL:=(blk hPi.st.var).1 0
   have zL:=q9 hPi.st.var
   have fL:=(blk hPi.st.var).2
   have HPi:=q7 hPi
   have HDl:=q7 hDl
   clear hPi hSi hDl
   generalize hln:S.2.length=ln at *
   have HLN:=q7 hln
   clear hln
   gi_wp2_with (gi_at_builtin;refine wpListIn_append_own_at _ rfl _ _ 44 rfl w1.heap.size 3 i1 (.int .i64 0) 1 8 VQ k1 k2 k3 k4 rfl (by decide) _ _ _ rfl (show World.ownsRow _ _ _ _ _ _ _ from vT HPi.out.st.own ((Below.refl _ _).alloc (Nat.le_refl _) _)) ⟨W2.heap.size,0,none⟩ 1 1 [.int .i64 b] rfl rfl (xq _ _ _ _ rfl) (by simp[Value.oneCell']) ?_ ?_ ?_ ?_)
   ·have:=HLN.out
    unfold maxLen
    omega
   ·have:=HLN.out
    omega
   ·have:=HK.out.size
    have:=HPi.out.kept.size
    simp;omega
   intro v' W5 hown' hgrow _ hat
   obtain⟨g',cap',hv'⟩:=jA hown'
   subst hv'
   have hWz:W0.heap.size≤W2.heap.size:=HPi.out.kept.size
   have hsT:=HK.out.size
   have hhK:∀k,(Value.slice m ln d).ownBlock=some k→w1.heap.size≤k∧k<W2.heap.size:=fun k e=>HPi.out.st.own.lt k e
   have hPa:=HPi.out.below (W':=W2.alloc (.cells #[.int .i64 b] 3)) ((Below.refl _ _).alloc (Nat.le_refl _) _)
   have hbF:=hPa.st.seen.of_block (hgrow.block V hPa.st.seen.lt (fun e=>by have:=(hhK V e.symm).1;omega))
   have hbG:=(hgrow.block L (q9 hPa.st.var) (fun e=>by have:=(hhK L e.symm).1;omega)).trans hPa.st.var
   have hk5:Kept (fun k=>k=V∨k=L∨some k=(Value.slice m ln d).ownBlock) W2 W5:=((Kept.refl _ W2).alloc _).trans (Kept.of_grown (S:=fun k=>some k=(Value.slice m ln d).ownBlock) hgrow (fun g e=>e.symm)) (fun i _ e=>.inr (.inr e))
   have hgS:W5.grownBy (W5.setCell ⟨L,0,none⟩ (.slice (some ⟨g',0,none⟩) (S.2.length+1) cap')) (some L):=⟨rfl,rfl,rfl,by rw[Go.Deep.nblk_setCell];exact Nat.le_refl _,fun i _ hne=>Go.Deep.blk_setCell_other _ _ _ _ (fun e=>hne (by rw[e]))⟩
   have hP5:PostI W2 (.slice m ln d) V L bs.length w1.heap.size 4 3 44 (.slice (some ⟨g',0,none⟩) (S.2.length+1) cap') (S.1,S.2++[(b:Int)]) (W5.setCell ⟨L,0,none⟩ (.slice (some ⟨g',0,none⟩) (S.2.length+1) cap')):=by
    refine⟨⟨hbF.of_block (hgS.block V hbF.lt (fun e=>HVL.out (by injection e))),?_,?_⟩,hk5.setCell (.inr (.inl rfl)) _,?_⟩
    ·have:=ZC hbG 0 (.slice (some ⟨g',0,none⟩) (S.2.length+1) cap')
     simpa using this
    ·have h1:W5.ownsRow w1.heap.size 3 1 (.slice (some ⟨g',0,none⟩) (S.2.length+1) cap') (S.2++[(b:Int)]).length ((S.2++[(b:Int)]).map (.int .i64)):=by
      rw[List.length_append,List.map_append]
      exact hown'
     exact h1.kept hgS (.inr fun e=>by have:=(h1.lt L e).1;omega)
    rcases hat with e|e
    ·exact .inl e
    exact .inr ⟨_,e,by simp⟩
   have hD5:(W5.setCell ⟨L,0,none⟩ (.slice (some ⟨g',0,none⟩) (S.2.length+1) cap')).heap[D]?=some (.deferred (some [])):=(hP5.kept.block D (q9 HDl.out) ((PostI.here HPi.out.st).off HPi.out.st HDl.out rfl)).trans HDl.out
   have hPZ:=(HP0.out.trans HPi.out).trans hP5
   have cL5:=(blk hbG).1 0
   have fL5:=(blk hbG).2
   have zL5:=q9 hbG
   have HPZ:=q7 hPZ
   have HD5:=q7 hD5
   clear hown' hgrow hat hPa hbF hk5 hgS hP5 hD5 hPZ hbG hhK
   gi_wp2
   show LeavesInM _ _ _ _ _ _ (marks [D]) .returning _
   refine xP W0.heap.size [D] _ (by simp) (fun E hE=>?_) (fun w' h1 h2 h3 h4 h5=>⟨_,results_none rfl _ _ _,rfl,?_⟩)
   ·rw[List.mem_singleton]at hE
    subst hE
    exact⟨hD,HD5.out⟩
   rw[HVF.out]
   refine V7 (B':=W0.heap.size) (by omega) (fun _=>(S.1,S.2++[(b:Int)])) 0 _ w' (some D) ⟨_,HPZ.out⟩ ⟨h1,h2,h3,h4,fun k _ hne=>h5 k (fun hk=>hne (by rw[List.mem_singleton]at hk;rw[hk]))⟩ (fun r e=>?_)
   injection e with e
   subst e
   exact⟨hD,_,HD5.out,rfl⟩
  case stop=>
   rintro D c i W2 _ _ h _
   exact h.elim
end Go.Proofs.YtecdphhdmjmmnaaGreatDoor
namespace Go.Proofs.YtecdphhdmjmmnaaGreatDoor
open Go.RowKit Go.Shelf

theorem QB:Tryz.prog.underlying 111=some (.slice 4):=by kernel_rfl
theorem XD:(Tryz.prog.info? 4).map (fun i=>(i.zero,i.size,i.bytes))=some (some (.bool false),1,1):=by kernel_rfl

def jD (bs:List BlkL):List Int:=(jy (tosB bs) (bs.length+1) 0 (fun _=>false,[])).2
theorem jE (n:Nat) (p:Nat→Bool):xg n p≤n:=by
 unfold xg
 exact Nat.le_trans (List.length_filter_le _ _) (by simp)

theorem post_any (f:FunL) (fp:Option Addr) (fc:Nat) (w:World) (hn:0<f.blocks.length) (hl:f.blocks.length≤100000) (h2:∀k (h:k<f.blocks.length),f.blocks[k].fin.to.length≤2) (hT:∀b,b<f.blocks.length→∀x∈tosB f.blocks b,0≤x∧x<(f.blocks.length:Int)) (hF:SliceAt w 6 (BlkR w) fp f.blocks) :
  Calls Tryz.prog 105 #[.agg #[.string f.name,.int .i64 f.params,.int .i64 f.regs,.slice fp f.blocks.length fc]] w fun e w'=>∃v,e = .returned v∧w'.ownsRow w.heap.size 3 1 v (jD f.blocks).length ((jD f.blocks).map (.int .i64))∧Below w.heap.size w w':=by
 obtain⟨i1,k1,k2,k3,k4⟩:=info_parts XD
 have hmk:=run_make_row 111 4 i1 (.bool false) QB k1 k2 k3 rfl .i64 .i64 f.blocks.length (by rw[k4];omega) (by omega)
 have HF:=q7 hF
 have H2:=q7 h2
 have HT:=q7 hT
 clear hF h2 hT
 go_enter Tryz.func105,Tryz.ntmps105
 go_wp2_with fail
 refine(ZL f.blocks fp fc _ hl H2.out HT.out (w.heap.size+1+1) (w.heap.size+1+1+1) w.heap.size (w.heap.size+1+1+1+1) (w.heap.size+1) (by simp) (by simp) (by omega) (by omega) (by omega) (by omega) (by omega) (by omega) (by omega) w bZ HF.out (by omega) (by omega) ?_ ?_ ?_ (f.blocks.length+1) (fun _=>false,[]) (.slice none 0 0) _ 0 (by have:=jE f.blocks.length (fun _=>false);exact Nat.lt_succ_of_le this) hn rfl (by have:=jE f.blocks.length (fun _=>false);simpa using this) (Kept.refl _ _) ?_).mono ?_
 ·exact(blk (qj (qh (by simp)))).1 0
 ·exact(blk (qj (qj (qj (qj (qr w _)))))).1 3
 ·exact(blk (qh (by simp))).1 0
 ·refine⟨?_,qj (qj (qj (qh (by simp)))),World.ownsRow_nil _ _ _ _⟩
  have hM:=World.rowIs_made ((w.alloc (.cells #[.string f.name,.int .i64 f.params,.int .i64 f.regs,.slice fp f.blocks.length fc] 37)).alloc (.cells #[.slice none 0 0] 44)) (.bool false) f.blocks.length 4
  have e:((w.alloc (.cells #[.string f.name,.int .i64 f.params,.int .i64 f.regs,.slice fp f.blocks.length fc] 37)).alloc (.cells #[.slice none 0 0] 44)).heap.size=w.heap.size+1+1:=by simp
  rw[e]at hM
  exact(hM.alloc _).alloc _
 rintro e w2 ⟨rfl,lv,hP⟩
 obtain⟨m,d,hv⟩:=j8 hP.st.own
 subst hv
 have cL:=(blk hP.st.var).1 0
 have hb:Below w.heap.size w w2:=Below.trans bZ (hP.kept.below (by simp;omega) fun i e=>by
  rcases e with e|e|e
  ·omega
  ·omega
  cases e)
 have HB:=q7 hb
 have HO:=q7 (jS hP.st.own (B:=w.heap.size) (by simp;omega))
 clear hP hb
 go_wp2
 exact bodyPost_ret (results_tmp (t:=2) rfl _ _ _) rfl ⟨_,rfl,HO.out,HB.out⟩
end Go.Proofs.YtecdphhdmjmmnaaGreatDoor
namespace Go.Proofs.YtecdphhdmjmmnaaGreatDoor

def Beh (tos:Nat→List Int) (P:Nat→Prop):List Nat→Prop
 | []=>True
 | x::l=>(P x∨∃p∈l,(x:Int)∈tos p)∧Beh tos P l
theorem Beh.append {tos:Nat→List Int} {P:Nat→Prop}:∀{l m:List Nat},Beh tos P l→Beh tos P m→Beh tos P (l++m)
 | [],_,_,h=>h
 | _::_,_,h,k=>⟨h.1.imp id fun⟨p,hp,e⟩=>⟨p,List.mem_append_left _ hp,e⟩,h.2.append k⟩
theorem Beh.mono {tos:Nat→List Int} {P Q:Nat→Prop} (hq:∀x,P x→Q x):∀{l:List Nat},Beh tos P l→Beh tos Q l
 | [],_=>trivial
 | _::_,h=>⟨h.1.imp (hq _) id,h.2.mono hq⟩
theorem Beh.snoc {tos:Nat→List Int} {b:Nat}:∀{l:List Nat},Beh tos (fun x=>(x:Int)∈tos b) l→Beh tos (fun x=>x=b) (l++[b])
 | [],_=>⟨.inl rfl,trivial⟩
 | _::l,h=>⟨.inr (h.1.elim (fun e=>⟨b,by simp,e⟩) fun⟨p,hp,e⟩=>⟨p,List.mem_append_left _ hp,e⟩),h.2.snoc⟩

structure VisP (n:Nat) (tos:Nat→List Int) (P:Nat→Prop) (s s':PostS) (l:List Nat):Prop where
 left:s'.2=s.2++l.map fun(x:Nat)=>(x:Int)
 seen:∀j,s'.1 j=true↔s.1 j=true∨j∈l
 fresh:∀j∈l,s.1 j=false∧j<n
 once:l.Nodup
 beh:Beh tos P l
theorem VisP.refl {n:Nat} {tos:Nat→List Int} {P:Nat→Prop} (s:PostS):VisP n tos P s s []:=⟨by simp,by simp,by simp,List.nodup_nil,trivial⟩
theorem VisP.trans {n:Nat} {tos:Nat→List Int} {P:Nat→Prop} {a b c:PostS} {l m:List Nat} (h:VisP n tos P a b l) (k:VisP n tos P b c m):VisP n tos P a c (l++m) where
 left:=by rw[k.left,h.left,List.map_append,List.append_assoc]
 seen:=fun j=>by rw[k.seen,h.seen,List.mem_append,or_assoc]
 fresh:=fun j hj=>by
  rcases List.mem_append.1 hj with g|g
  ·exact h.fresh j g
  obtain⟨h1,h2⟩:=k.fresh j g
  refine⟨?_,h2⟩
  cases e:a.1 j with
  | false=>rfl
  | true=>rw[(h.seen j).2 (.inl e)]at h1;cases h1
 once:=List.nodup_append.2 ⟨h.once,k.once,fun x hx y hy e=>by
  subst e
  have h1:=(k.fresh x hy).1
  rw[(h.seen x).2 (.inr hx)]at h1
  cases h1⟩
 beh:=h.beh.append k.beh
theorem VisP.mono {n:Nat} {tos:Nat→List Int} {P Q:Nat→Prop} {a b:PostS} {l:List Nat} (h:VisP n tos P a b l) (hq:∀x,P x→Q x):VisP n tos Q a b l:=⟨h.left,h.seen,h.fresh,h.once,h.beh.mono hq⟩
theorem VisP.up {n:Nat} {tos:Nat→List Int} {P:Nat→Prop} {a b:PostS} {l:List Nat} (h:VisP n tos P a b l):xg n b.1≤xg n a.1:=kT fun j e=>(h.seen j).2 (.inl e)

theorem visTo_p {n:Nat} {tos:Nat→List Int} {rec:Nat→PostS→PostS} {xs:List Int} (hx:∀x∈xs,0≤x∧x<(n:Int)) {s:PostS}
  (h:∀b s',b<n→s'.1 b=false→xg n s'.1≤xg n s.1→∃l,VisP n tos (fun x=>x=b) s' (rec b s') l):∀i,i≤xs.length→∃l,VisP n tos (fun x=>(x:Int)∈xs) s (zN rec xs s i) l
 | 0,_=>⟨[],VisP.refl s⟩
 | i+1,hi=>by
  obtain⟨l,ih⟩:=visTo_p hx h i (by omega)
  show ∃l,VisP n tos _ s (zJ rec (zN rec xs s i) (xs.getD (xs.length - 1 - i) 0)) l
  have hk:xs.length - 1 - i<xs.length:=by omega
  have hm:=hx _ (List.getElem_mem hk)
  have hg:xs.getD (xs.length - 1 - i) 0=xs[xs.length - 1 - i]:=by
   rw[List.getD_eq_getElem?_getD,List.getElem?_eq_getElem hk];rfl
  rw[hg]
  unfold zJ
  cases e:(zN rec xs s i).1 (xs[xs.length - 1 - i]).toNat
  ·obtain⟨m,h2⟩:=h (xs[xs.length - 1 - i]).toNat _ (by omega) e ih.up
   refine⟨l++m,ih.trans (h2.mono fun x hxe=>?_)⟩
   have:(x:Int)=xs[xs.length - 1 - i]:=by omega
   rw[this]
   exact List.getElem_mem hk
  exact⟨l,ih⟩
theorem V8 {n:Nat} {tos:Nat→List Int} (hT:∀b,b<n→∀x∈tos b,0≤x∧x<(n:Int)):∀(c b:Nat) (s:PostS),xg n s.1<c→b<n→s.1 b=false→∃l,VisP n tos (fun x=>x=b) s (jy tos c b s) (l++[b])
 | 0,_,_,h,_,_=>by omega
 | c+1,b,s,hc,hb,hs=>by
  have h1:=ju (n:=n) hb hs
  obtain⟨l,h2⟩:=visTo_p (n:=n) (tos:=tos) (rec:=jy tos c) (xs:=tos b) (hT b hb) (s:=zY b s) (fun b' s' hb' h' hle=>by
   obtain⟨l,h⟩:=V8 hT c b' s' (by omega) hb' h'
   exact⟨_,h⟩) (tos b).length (Nat.le_refl _)
  have hfr:∀j∈l,j≠b∧s.1 j=false∧j<n:=fun j hj=>by
   obtain⟨h3,h4⟩:=h2.fresh j hj
   have h5:(if j=b then true else s.1 j)=false:=h3
   by_cases e:j=b
   ·rw[if_pos e]at h5;cases h5
   rw[if_neg e]at h5
   exact⟨e,h5,h4⟩
  refine⟨l,?_,fun j=>?_,fun j hj=>?_,?_,h2.beh.snoc⟩
  ·show(zN (jy tos c) (tos b) (zY b s) (tos b).length).2++[(b:Int)]=_
   rw[h2.left,List.map_append,←List.append_assoc]
   rfl
  ·show(zN (jy tos c) (tos b) (zY b s) (tos b).length).1 j=true↔_
   rw[h2.seen]
   show(if j=b then true else s.1 j)=true∨j∈l↔_
   by_cases e:j=b
   ·simp[e]
   simp[e]
  ·rcases List.mem_append.1 hj with g|g
   ·exact(hfr j g).2
   rw[List.mem_singleton]at g
   subst g
   exact⟨hs,hb⟩
  refine List.nodup_append.2 ⟨h2.once,by simp,fun x hx y hy e=>?_⟩
  rw[List.mem_singleton]at hy
  exact(hfr x hx).1 (e.trans hy)

theorem postL_is {bs:List BlkL} (h0:0<bs.length) (hT:∀b,b<bs.length→∀x∈tosB bs b,0≤x∧x<(bs.length:Int)) :
  ∃l:List Nat,jD bs=(l++[0]).map (fun(x:Nat)=>(x:Int))∧(l++[0]).Nodup∧(∀x∈l++[0],x<bs.length)∧Beh (tosB bs) (fun x=>x=0) (l++[0]):=by
 obtain⟨l,h⟩:=V8 (n:=bs.length) hT (bs.length+1) 0 (fun _=>false,[]) (Nat.lt_succ_of_le (jE _ _)) h0 rfl
 refine⟨l,?_,h.once,fun x hx=>(h.fresh x hx).2,h.beh⟩
 have:=h.left
 unfold jD
 simpa using this
end Go.Proofs.YtecdphhdmjmmnaaGreatDoor
namespace Go.Proofs
open Go.Shelf Go.Sort Go.RowKit Go.Lib
def Tryz.lays112_ren:Go.Shelf.Ren:=⟨fun|112=>106|n=>n,fun|28=>44|3=>3|0=>0|4=>4|n=>n,fun|n=>n⟩
theorem Tryz.lays112:Go.Proofs.Lays.n112 Tryz.prog Tryz.lays112_ren:={
 mixed:=by kernel_rfl
 f112:=Tryz.func106.trans (congrArg some (by kernel_rfl))
 t0:=Tryz.underlying0
 a0:=Tryz.isAgg0
 z0:=Tryz.sizeOf0
 v0:=Tryz.zeroValue0
 t3:=Tryz.underlying3
 a3:=Tryz.isAgg3
 z3:=Tryz.sizeOf3
 v3:=Tryz.zeroValue3
 t4:=Tryz.underlying4
 a4:=Tryz.isAgg4
 z4:=Tryz.sizeOf4
 v4:=Tryz.zeroValue4
 t28:=Tryz.underlying44
 a28:=Tryz.isAgg44
 z28:=Tryz.sizeOf44
 v28:=Tryz.zeroValue44 }
end Go.Proofs
namespace Go.Proofs.YtecdphhdmjmmnaaGreatDoor
open Go.RowKit Go.Shelf Go.Lib Go.Sort

theorem JD (B:Nat) (p:Option Addr) (c:Nat) (zs:List Int) (n:Nat) (w:World) (h:w.ownsRow B 3 1 (.slice p n c) n (zs.map (.int .i64))) (hn:n≤1000000) :
  Calls Tryz.prog 106 #[.slice p n c] w fun e w'=>e = .returned (.tuple #[])∧w'.ownsRow B 3 1 (.slice p n c) n (zs.reverse.map (.int .i64))∧w.grownBy w' (Value.slice p n c).ownBlock:=by
 by_cases hv:(Value.slice p n c) = .slice none 0 0
 ·cases hv
  have hz:zs=[]:=by have:=h.1;simpa using this
  subst hz
  refine(Any.slices_Reverse_int_empty Tryz.lays112 none 0 w).mono ?_
  rintro e w' ⟨rfl,rfl⟩
  exact⟨rfl,(by simpa using h),⟨rfl,rfl,rfl,Nat.le_refl _,fun _ _ _=>rfl⟩⟩
 obtain⟨g,cap,hg,hb,hlt,hc,hm,hl,hH⟩:=holds_of_ownsRow h hv
 cases hg
 subst hl
 refine(Any.slices_Reverse_int Tryz.lays112 g 0 c zs w hH (by omega)).mono ?_
 rintro e w' ⟨rfl,q,rfl⟩
 have h1:=ownsRow_putRow (ys:=zs.reverse) (q:=q) (k:=zs.length) h (by simp) (Nat.le_refl _)
 have e1:zs.reverse.take zs.length=zs.reverse:=List.take_of_length_le (by simp)
 rw[e1]at h1
 exact⟨rfl,h1,XB⟩

def j9 (bs:List BlkL):List Int:=(jD bs).reverse

theorem QC (f:FunL) (fp:Option Addr) (fc:Nat) (w:World) (hn:0<f.blocks.length) (hl:f.blocks.length≤100000) (h2:∀k (h:k<f.blocks.length),f.blocks[k].fin.to.length≤2) (hT:∀b,b<f.blocks.length→∀x∈tosB f.blocks b,0≤x∧x<(f.blocks.length:Int)) (hF:SliceAt w 6 (BlkR w) fp f.blocks) (hpl:(jD f.blocks).length≤1000000) :
  Calls Tryz.prog 65 #[.agg #[.string f.name,.int .i64 f.params,.int .i64 f.regs,.slice fp f.blocks.length fc]] w fun e w'=>∃v,e = .returned v∧w'.ownsRow w.heap.size 3 1 v (j9 f.blocks).length ((j9 f.blocks).map (.int .i64))∧Below w.heap.size w w':=by
 have HF:=q7 hF
 have H2:=q7 h2
 have HT:=q7 hT
 clear hF h2 hT
 go_enter Tryz.func65,Tryz.ntmps65
 go_wp2_with fail
 refine(post_any f fp fc _ hn hl H2.out HT.out (zF HF.out bZ)).mono ?_
 rintro e w2 ⟨v,rfl,hO,hb⟩
 obtain⟨m,d,hv⟩:=j8 hO
 subst hv
 have HB:=q7 (show Below w.heap.size w w2 from Below.trans bZ (hb.mono (by simp)))
 have hO:=jS hO (B:=w.heap.size) (by simp)
 have HLo:=q7 (fun k (e:(Value.slice m (jD f.blocks).length d).ownBlock=some k)=>(hO.lt k e).1)
 have hzz:=HB.out.size
 have HO:=q7 hO
 clear hO hb
 go_wp2_with fail
 refine(JD _ _ _ _ _ _ HO.out hpl).mono ?_
 rintro e w3 ⟨rfl,hO3,hg3⟩
 have HO3:=q7 hO3
 have HB3:=q7 (HB.out.grown hg3 (by omega) fun k e=>HLo.out k e)
 clear hO3 hg3
 go_wp2
 refine bodyPost_ret (results_tmp (t:=2) rfl _ _ _) rfl ⟨_,rfl,?_,HB3.out⟩
 unfold j9
 rw[List.length_reverse]
 exact HO3.out
end Go.Proofs.YtecdphhdmjmmnaaGreatDoor
namespace Go.Proofs.YtecdphhdmjmmnaaGreatDoor

inductive Ch (up:Nat→Nat):Nat→Nat→Prop where
 | refl (c):Ch up c c
 | step {c x}:c≠0→Ch up (up c) x→Ch up c x

structure DomI (R:Nat→Prop) (pl:Nat→Nat) (mk:Nat→Prop) (up:Nat→Nat):Prop where
 one:∀a b,R a→R b→pl a=pl b→a=b
 root:R 0
 rootAt:pl 0=0
 mk0:mk 0
 up0:up 0=0
 reach:∀c,mk c→R c
 mkUp:∀c,mk c→mk (up c)
 less:∀c,mk c→c≠0→pl (up c)<pl c

section
variable {R : Nat → Prop} {pl : Nat → Nat} {mk : Nat → Prop} {up : Nat → Nat}

theorem DomI.pos (h:DomI R pl mk up) {c:Nat} (hc:R c) (h0:c≠0):0<pl c:=by
 rcases Nat.eq_zero_or_pos (pl c)with e|e
 ·exact absurd (h.one _ _ hc h.root (by rw[e,h.rootAt])) h0
 exact e
theorem Ch.trans {a b c:Nat} (h:Ch up a b) (h2:Ch up b c):Ch up a c:=by
 induction h with
 | refl=>exact h2
 | step h0 _ ih=>exact .step h0 (ih h2)
theorem DomI.ch (h:DomI R pl mk up) {c x:Nat} (hx:Ch up c x):mk c→mk x∧pl x≤pl c:=by
 induction hx with
 | refl=>intro hc;exact⟨hc,Nat.le_refl _⟩
 | step h0 _ ih=>
  intro hc
  have h1:=ih (h.mkUp _ hc)
  have h2:=h.less _ hc h0
  exact⟨h1.1,by omega⟩
theorem DomI.chLess (h:DomI R pl mk up) {c x:Nat} (hc:mk c) (hx:Ch up c x) (hne:x≠c):pl x<pl c:=by
 cases hx with
 | refl=>exact absurd rfl hne
 | step h0 h1=>
  have h2:=h.less _ hc h0
  have h3:=(h.ch h1 (h.mkUp _ hc)).2
  omega
theorem DomI.line (h:DomI R pl mk up) {c x y:Nat} (hx:Ch up c x):mk c→Ch up c y→pl y≤pl x→Ch up x y:=by
 induction hx with
 | refl=>intro _ hy _;exact hy
 | step h0 h1 ih=>
  intro hc hy hl
  cases hy with
  | refl=>
   have h2:=h.less _ hc h0
   have h3:=(h.ch h1 (h.mkUp _ hc)).2
   omega
  | step _ hy=>exact ih (h.mkUp _ hc) hy hl
structure Meets (up:Nat→Nat) (a b m:Nat):Prop where
 left:Ch up a m
 right:Ch up b m
 all:∀x,Ch up a x→Ch up b x→Ch up m x

def JE (up pl:Nat→Nat):Nat→Nat→Nat→Nat
 | 0,a,_=>a
 | k+1,a,b=>if a=b then a else if pl a<pl b then JE up pl k (up b) a else JE up pl k (up a) b

theorem DomI.meet (h:DomI R pl mk up):∀(k a b:Nat),pl a+pl b<k→mk a→mk b→Meets up a b (JE up pl k a b)
 | 0,_,_,hk,_,_=>by omega
 | k+1,a,b,hk,ha,hb=>by
  unfold JE
  by_cases e:a=b
  ·subst e
   rw[if_pos rfl]
   exact⟨.refl _,.refl _,fun x hx _=>hx⟩
  have hne:pl a≠pl b:=fun e2=>e (h.one _ _ (h.reach _ ha) (h.reach _ hb) e2)
  rw[if_neg e]
  by_cases hl:pl a<pl b
  ·have hb0:b≠0:=fun e0=>by
    rw[e0,h.rootAt]at hl;omega
   have h2:=h.less _ hb hb0
   rw[if_pos hl]
   have ih:=h.meet k (up b) a (by omega) (h.mkUp _ hb) ha
   refine⟨ih.right,.step hb0 ih.left,fun x hx hy=>ih.all x ?_ hx⟩
   cases hy with
   | refl=>have:=(h.ch hx ha).2;omega
   | step _ hy=>exact hy
  have ha0:a≠0:=fun e0=>by
   rw[e0,h.rootAt]at hl hne;omega
  have h2:=h.less _ ha ha0
  rw[if_neg hl]
  have ih:=h.meet k (up a) b (by omega) (h.mkUp _ ha) hb
  refine⟨.step ha0 ih.left,ih.right,fun x hx hy=>ih.all x ?_ hy⟩
  cases hx with
  | refl=>have:=(h.ch hy hb).2;omega
  | step _ hx=>exact hx

def Z3 (up:Nat→Nat) (c m:Nat) (a:Nat):Nat:=if a=c then m else up a
theorem jv {c m:Nat}:Z3 up c m c=m:=by simp[Z3]
theorem zZ {c m a:Nat} (h:a≠c):Z3 up c m a=up a:=by simp[Z3,h]

structure DomJ (R:Nat→Prop) (pl:Nat→Nat) (ins:Nat→List Nat) (par:Nat→Nat) (j:Nat) (mk:Nat→Prop) (up:Nat→Nat):Prop extends DomI R pl mk up where
 parIn:∀c,R c→c≠0→par c∈ins c∧R (par c)∧pl (par c)<pl c
 down:∀c d,mk c→R d→pl d≤pl c→mk d
 past:∀d,R d→pl d<j→mk d
 two:∀c,mk c→c≠0→∀x,(∀p∈ins c,mk p→Ch up p x)→pl x≤pl (up c)
 calm:∀c,mk c→c≠0→(j≤pl (up c)∨pl c<j)→Ch up (par c) (up c)
 busy:∀c,mk c→c≠0→pl (up c)<j→j≤pl c→∀x,Ch up (par c) x→pl x≤pl (up c)→Ch up (up c) x

structure BestOf (ins:Nat→List Nat) (mk:Nat→Prop) (up:Nat→Nat) (c m:Nat):Prop where
 on:∀p∈ins c,mk p→Ch up p m
 all:∀x,(∀p∈ins c,mk p→Ch up p x)→Ch up m x

variable {ins : Nat → List Nat} {par : Nat → Nat} {j : Nat}

theorem DomJ.rise (h:DomJ R pl ins par j mk up) {c m:Nat} (hj:pl c=j) (h0:c≠0) (hb:BestOf ins mk up c m) (hc:mk c):Ch up (up c) m:=by
 have hl:=h.less _ hc h0
 obtain⟨h1,h2,h3⟩:=h.parIn c (h.reach _ hc) h0
 have hp:mk (par c):=h.past _ h2 (by omega)
 exact h.busy c hc h0 (by omega) (by omega) m (hb.on _ h1 hp) (h.two c hc h0 m hb.on)

theorem DomJ.turn (h:DomJ R pl ins par j mk up) {c m:Nat} (hR:R c) (hj:pl c=j) (h0:c≠0) (hb:BestOf ins mk up c m) :
  DomJ R pl ins par (j+1) (fun a=>a=c∨mk a) (Z3 up c m):=by
 obtain⟨q1,q2,q3⟩:=h.parIn c hR h0
 have hp:mk (par c):=h.past _ q2 (by omega)
 have hm:=h.ch (hb.on _ q1 hp) hp
 -- ways up only shrink
 have shrink:∀a x,Ch (Z3 up c m) a x→mk a→Ch up a x:=by
  intro a x hx
  induction hx with
  | refl=>intro _;exact .refl _
  | @step a x ha0 _ ih=>
   intro ha
   by_cases e:a=c
   ·subst e
    rw[jv]at ih
    exact .step ha0 ((h.rise hj h0 hb ha).trans (ih hm.1))
   rw[zZ e]at ih
   exact .step ha0 (ih (h.mkUp _ ha))
 have keep:∀a x,Ch up a x→mk a→(pl c≤pl x∨pl a<pl c)→Ch (Z3 up c m) a x:=by
  intro a x hx
  induction hx with
  | refl=>intro _ _;exact .refl _
  | @step a x ha0 hx ih=>
   intro ha hor
   have h1:=h.less _ ha ha0
   have h2:=(h.ch hx (h.mkUp _ ha)).2
   have e:a≠c:=fun e=>by subst e;omega
   refine .step ha0 ?_
   rw[zZ e]
   exact ih (h.mkUp _ ha) (by omega)
 have base:DomI R pl (fun a=>a=c∨mk a) (Z3 up c m):={
  one:=h.one,root:=h.root,rootAt:=h.rootAt,mk0:=.inr h.mk0
  up0:=by rw[zZ (Ne.symm h0)];exact h.up0
  reach:=fun a ha=>by
   rcases ha with e|ha
   ·rw[e];exact hR
   exact h.reach _ ha
  mkUp:=fun a ha=>by
   by_cases e:a=c
   ·rw[e,jv];exact .inr hm.1
   rw[zZ e]
   exact .inr (h.mkUp _ (ha.resolve_left e))
  less:=fun a ha ha0=>by
   by_cases e:a=c
   ·rw[e,jv];omega
   rw[zZ e]
   exact h.less _ (ha.resolve_left e) ha0 }
 refine { base with parIn:=h.parIn,down:=?_,past:=?_,two:=?_,calm:=?_,busy:=?_ }
 ·intro a d ha hd hl
  rcases ha with e|ha
  ·subst e
   by_cases e:d=a
   ·exact .inl e
   have:pl d≠pl a:=fun e2=>e (h.one _ _ hd hR e2)
   exact .inr (h.past _ hd (by omega))
  exact .inr (h.down _ _ ha hd hl)
 ·intro d hd hl
  by_cases e:d=c
  ·exact .inl e
  have:pl d≠pl c:=fun e2=>e (h.one _ _ hd hR e2)
  exact .inr (h.past _ hd (by omega))
 ·intro a ha ha0 x hx
  have hx2:∀p∈ins a,mk p→Ch up p x:=fun p hp hmp=>shrink _ _ (hx p hp (.inr hmp)) hmp
  by_cases e:a=c
  ·subst e
   rw[jv]
   exact(h.ch (hb.all x hx2) hm.1).2
  rw[zZ e]
  exact h.two a (ha.resolve_left e) ha0 x hx2
 ·intro a ha ha0 hor
  by_cases e:a=c
  ·subst e
   rw[jv]
   exact keep _ _ (hb.on _ q1 hp) hp (.inr q3)
  have ha:=ha.resolve_left e
  rw[zZ e]at hor ⊢
  have hne:pl a≠pl c:=fun e2=>e (h.one _ _ (h.reach _ ha) hR e2)
  obtain⟨r1,r2,r3⟩:=h.parIn a (h.reach _ ha) ha0
  have hmp:mk (par a):=h.down _ _ ha r2 (by omega)
  exact keep _ _ (h.calm a ha ha0 (by omega)) hmp (by omega)
 intro a ha ha0 h1 h2 x hx hl
 by_cases e:a=c
 ·subst e;omega
 have ha:=ha.resolve_left e
 rw[zZ e]at h1 hl ⊢
 obtain⟨r1,r2,r3⟩:=h.parIn a (h.reach _ ha) ha0
 have hmp:mk (par a):=h.down _ _ ha r2 (by omega)
 have hmu:=h.mkUp _ ha
 by_cases hv:pl (up a)<j
 ·exact keep _ _ (h.busy a ha ha0 hv (by omega) x (shrink _ _ hx hmp) hl) hmu (by omega)
 exact base.line (keep _ _ (h.calm a ha ha0 (by omega)) hmp (by omega)) (.inr hmp) hx hl

theorem DomJ.wrap {n:Nat} (h:DomJ R pl ins par n mk up) (hn:∀c,R c→pl c<n):DomJ R pl ins par 1 mk up:=by
 refine { h with past:=fun d hd _=>h.past _ hd (hn _ hd),calm:=?_,busy:=?_ }
 ·intro c hc h0 _
  exact h.calm c hc h0 (.inr (hn _ (h.reach _ hc)))
 intro c hc h0 h1 _ x hx hl
 obtain⟨r1,r2,r3⟩:=h.parIn c (h.reach _ hc) h0
 have hmp:mk (par c):=h.down _ _ hc r2 (by omega)
 have hmx:=(h.ch hx hmp).1
 have e1:up c=x:=h.one _ _ (h.reach _ (h.mkUp _ hc)) (h.reach _ hmx) (by omega)
 rw[e1];exact .refl _

theorem DomJ.start (one:∀a b,R a→R b→pl a=pl b→a=b) (root:R 0) (rootAt:pl 0=0) (haJ:∀c,R c→c≠0→par c∈ins c∧R (par c)∧pl (par c)<pl c) (hu:up 0=0) :
  DomJ R pl ins par 1 (fun a=>a=0) up where
 one:=one
 root:=root
 rootAt:=rootAt
 mk0:=rfl
 up0:=hu
 reach:=fun c hc=>by rw[hc];exact root
 mkUp:=fun c hc=>by rw[hc];exact hu
 less:=fun c hc h0=>absurd hc h0
 parIn:=haJ
 down:=fun c d hc hd hl=>one _ _ hd root (by rw[hc]at hl;omega)
 past:=fun d hd hl=>one _ _ hd root (by omega)
 two:=fun c hc h0=>absurd hc h0
 calm:=fun c hc h0=>absurd hc h0
 busy:=fun c hc h0=>absurd hc h0
end

def upN (u:Nat→Int) (c:Nat):Nat:=(u c).toNat
def mkN (u:Nat→Int) (c:Nat):Prop:=0≤u c
def Jj (u:Nat→Int) (c:Nat) (m:Int) (a:Nat):Int:=if a=c then m else u a
def QD (u:Nat→Int) (pl:Nat→Nat) (b:Int) (p:Nat):Int:=
 if u p<0 then b else if b<0 then(p:Int) else(JE (upN u) pl (pl b.toNat+pl p+1) b.toNat p:Nat)
def XE (u:Nat→Int) (pl:Nat→Nat) (l:List Nat):Int:=l.foldl (QD u pl) (-1)

section
variable {R : Nat → Prop} {pl : Nat → Nat} {u : Nat → Int}

structure BestTo (u:Nat→Int) (b:Int) (l:List Nat) (r:Int):Prop where
 made:0≤r∧mkN u r.toNat
 had:0≤b→Ch (upN u) b.toNat r.toNat
 on:∀p∈l,mkN u p→Ch (upN u) p r.toNat
 all:∀x,(0≤b→Ch (upN u) b.toNat x)→(∀p∈l,mkN u p→Ch (upN u) p x)→Ch (upN u) r.toNat x

theorem DomI.bests (h:DomI R pl (mkN u) (upN u)):∀(l:List Nat) (b:Int),(0≤b→mkN u b.toNat)→(0≤b∨∃p∈l,mkN u p)→BestTo u b l (l.foldl (QD u pl) b)
 | [],b,hb,hor=>by
  have h0:0≤b:=hor.resolve_right (by simp)
  exact⟨⟨h0,hb h0⟩,fun _=>.refl _,(by simp),fun x hx _=>hx h0⟩
 | p::l,b,hb,hor=>by
  show BestTo u b (p::l) (l.foldl (QD u pl) (QD u pl b p))
  by_cases hp:u p<0
  ·have e:QD u pl b p=b:=by unfold QD;rw[if_pos hp]
   have np:¬ mkN u p:=fun hm=>by unfold mkN at hm;omega
   rw[e]
   have ih:=h.bests l b hb (by
    rcases hor with h0|⟨q,hq,hm⟩
    ·exact .inl h0
    rcases List.mem_cons.1 hq with e|hq
    ·subst e;exact absurd hm np
    exact .inr ⟨q,hq,hm⟩)
   refine⟨ih.made,ih.had,fun q hq hm=>?_,fun x h1 h2=>ih.all x h1 fun q hq=>h2 q (List.mem_cons_of_mem _ hq)⟩
   rcases List.mem_cons.1 hq with e|hq
   ·subst e;exact absurd hm np
   exact ih.on q hq hm
  have hm:mkN u p:=by unfold mkN;omega
  by_cases h0:b<0
  ·have e:QD u pl b p=(p:Int):=by unfold QD;rw[if_neg hp,if_pos h0]
   rw[e]
   have ih:=h.bests l (p:Int) (fun _=>hm) (.inl (by omega))
   refine⟨ih.made,fun hb0=>by omega,fun q hq hmq=>?_,fun x _ h2=>ih.all x (fun _=>h2 p List.mem_cons_self hm) fun q hq=>h2 q (List.mem_cons_of_mem _ hq)⟩
   rcases List.mem_cons.1 hq with e|hq
   ·subst e;exact ih.had (by omega)
   exact ih.on q hq hmq
  have hb0:0≤b:=by omega
  have hmb:=hb hb0
  have hbH:=h.meet (pl b.toNat+pl p+1) b.toNat p (by omega) hmb hm
  have e:QD u pl b p=((JE (upN u) pl (pl b.toNat+pl p+1) b.toNat p:Nat):Int):=by unfold QD;rw[if_neg hp,if_neg h0]
  rw[e]
  generalize JE (upN u) pl (pl b.toNat+pl p+1) b.toNat p=m at hbH
  have hmm:=(h.ch hbH.right hm).1
  have ih:=h.bests l (m:Int) (fun _=>hmm) (.inl (by omega))
  have hh:Ch (upN u) m (l.foldl (QD u pl) (m:Int)).toNat:=ih.had (by omega)
  refine⟨ih.made,fun _=>hbH.left.trans hh,fun q hq hmq=>?_,fun x h1 h2=>ih.all x (fun _=>hbH.all x (h1 hb0) (h2 p List.mem_cons_self hm)) fun q hq=>h2 q (List.mem_cons_of_mem _ hq)⟩
  rcases List.mem_cons.1 hq with e|hq
  ·subst e;exact hbH.right.trans hh
  exact ih.on q hq hmq

variable {ins : Nat → List Nat} {par : Nat → Nat} {j : Nat}
theorem DomJ.best (h:DomJ R pl ins par j (mkN u) (upN u)) {c:Nat} (hR:R c) (hj:pl c=j) (h0:c≠0) :
  ∃m:Nat,XE u pl (ins c)=(m:Int)∧BestOf ins (mkN u) (upN u) c m∧mkN u m∧pl m<pl c:=by
 obtain⟨q1,q2,q3⟩:=h.parIn c hR h0
 have hp:mkN u (par c):=h.past _ q2 (by omega)
 have hb:=h.bests (ins c) (-1) (fun hn=>by omega) (.inr ⟨_,q1,hp⟩)
 refine⟨(XE u pl (ins c)).toNat,?_,⟨hb.on,fun x hx=>hb.all x (fun hn=>by omega) hx⟩,hb.made.2,?_⟩
 ·have:=hb.made.1
  unfold XE
  omega
 have:=(h.ch (hb.on _ q1 hp) hp).2
 unfold XE
 omega

def ZM (pl:Nat→Nat) (n:Nat) (u:Nat→Int) (c:Nat):Nat:=if u c<0 then n else pl (u c).toNat
def Q6 (pl:Nat→Nat) (n:Nat) (l:List Nat) (u:Nat→Int):Nat:=(l.map (ZM pl n u)).sum

theorem vV {n c a:Nat} {m:Int} (h:a≠c):ZM pl n (Jj u c m) a=ZM pl n u a:=by
 unfold ZM Jj;simp[h]
theorem kq {n c:Nat} {m:Nat}:ZM pl n (Jj u c (m:Int)) c=pl m:=by
 unfold ZM Jj
 rw[if_pos rfl,if_neg (by omega)]
 rfl
theorem V9 {n c m:Nat} (hle:pl m≤ZM pl n u c):∀l:List Nat,Q6 pl n l (Jj u c (m:Int))≤Q6 pl n l u
 | []=>Nat.le_refl _
 | a::l=>by
  have ih:=V9 hle l
  unfold Q6 at ih ⊢
  simp only[List.map_cons,List.sum_cons]
  by_cases e:a=c
  ·subst e;rw[kq];omega
  rw[vV e];omega
theorem Va {n c m:Nat} (hle:pl m<ZM pl n u c):∀l:List Nat,c∈l→Q6 pl n l (Jj u c (m:Int))<Q6 pl n l u
 | [],hc=>by cases hc
 | a::l,hc=>by
  have ih0:=V9 (Nat.le_of_lt hle) l
  have ih:c∈l→_:=Va hle l
  unfold Q6 at ih ih0 ⊢
  simp only[List.map_cons,List.sum_cons]
  by_cases e:a=c
  ·subst e;rw[kq];omega
  rw[vV e]
  have:=ih ((List.mem_cons.1 hc).resolve_left (fun h=>e h.symm))
  omega

theorem DomJ.falls {n:Nat} (h:DomJ R pl ins par j (mkN u) (upN u)) (hn:∀c,R c→pl c<n) {c m:Nat} (hR:R c) (hj:pl c=j) (h0:c≠0) (hb:BestOf ins (mkN u) (upN u) c m) (hlt:pl m<pl c) (hne:u c≠(m:Int)) (l:List Nat) (hc:c∈l) :
  Q6 pl n l (Jj u c (m:Int))<Q6 pl n l u:=by
 refine Va ?_ l hc
 unfold ZM
 by_cases hu:u c<0
 ·rw[if_pos hu]
  have:=hn c hR
  omega
 rw[if_neg hu]
 have hm:mkN u c:=by unfold mkN;omega
 refine h.chLess (h.mkUp _ hm) (h.rise hj h0 hb hm) fun e=>hne ?_
 unfold upN at e
 omega

theorem mkN_put {c:Nat} {m:Nat}:mkN (Jj u c (m:Int))=fun a=>a=c∨mkN u a:=by
 funext a
 unfold mkN Jj
 by_cases e:a=c
 ·simp[e]
 simp[e]
theorem upN_put {c:Nat} {m:Nat}:upN (Jj u c (m:Int))=Z3 (upN u) c m:=by
 funext a
 unfold upN Jj Z3
 by_cases e:a=c<;>simp[e]
theorem DomJ.turnI (h:DomJ R pl ins par j (mkN u) (upN u)) {c m:Nat} (hR:R c) (hj:pl c=j) (h0:c≠0) (hb:BestOf ins (mkN u) (upN u) c m) :
  DomJ R pl ins par (j+1) (mkN (Jj u c (m:Int))) (upN (Jj u c (m:Int))):=by
 rw[mkN_put,upN_put]
 exact h.turn hR hj h0 hb
theorem putI_same {c:Nat}:Jj u c (u c)=u:=by
 funext a
 unfold Jj
 by_cases e:a=c<;>simp[e]
end

theorem Beh.at {tos:Nat→List Int} {P:Nat→Prop}:∀{l:List Nat},Beh tos P l→∀i (h:i<l.length),P l[i]∨∃j,∃h2:j<l.length,i<j∧(l[i]:Int)∈tos l[j]
 | [],_,i,h=>by simp at h
 | x::l,hB,0,h=>by
  rcases hB.1 with g|⟨p,hp,e⟩
  ·exact .inl g
  obtain⟨k,hk,rfl⟩:=List.getElem_of_mem hp
  exact .inr ⟨k+1,by simp;omega,by omega,by simpa using e⟩
 | x::l,hB,i+1,h=>by
  rcases hB.2.at i (by simpa using h)with g|⟨j,hj,hl,e⟩
  ·exact .inl (by simpa using g)
  exact .inr ⟨j+1,by simp;omega,by omega,by simpa using e⟩

def plN (o:List Nat) (b:Nat):Nat:=if b∈o then o.idxOf b else 0
theorem jU {o:List Nat} (ho:o.Nodup) {i:Nat} (h:i<o.length):plN o o[i]=i:=by
 unfold plN
 rw[if_pos (List.getElem_mem h)]
 exact ho.idxOf_getElem i h

structure OrdOk (bs:List BlkL) (o:List Nat):Prop where
 ints:j9 bs=o.map fun(x:Nat)=>(x:Int)
 once:o.Nodup
 root:∃l,o=0::l
 inb:∀x∈o,x<bs.length
 par:∀i (h:i<o.length),o[i]≠0→∃j,∃h2:j<o.length,j<i∧(o[i]:Int)∈tosB bs o[j]

theorem orderB_ok {bs:List BlkL} (h0:0<bs.length) (hT:∀b,b<bs.length→∀x∈tosB bs b,0≤x∧x<(bs.length:Int)):∃o,OrdOk bs o:=by
 obtain⟨l,h1,h2,h3,h4⟩:=postL_is h0 hT
 refine⟨(l++[0]).reverse,by unfold j9;rw[h1,List.map_reverse],by unfold List.Nodup;exact List.pairwise_reverse.2 (h2.imp fun h=>Ne.symm h),⟨l.reverse,by simp⟩,fun x hx=>h3 x (List.mem_reverse.1 hx),fun i h hne=>?_⟩
 rw[List.length_reverse]at h
 have e:∀k (hk:k<(l++[0]).length) (hk2:k<(l++[0]).reverse.length),(l++[0]).reverse[k]=(l++[0])[(l++[0]).length - 1 - k]:=fun k hk hk2=>List.getElem_reverse _
 rw[e i h]at hne
 rcases h4.at ((l++[0]).length - 1 - i) (by omega)with g|⟨j,hj,hl,g⟩
 ·exact absurd g hne
 refine⟨(l++[0]).length - 1 - j,by rw[List.length_reverse];omega,by omega,?_⟩
 rw[e i h,e _ (by omega)]
 have e2:(l++[0]).length - 1 - ((l++[0]).length - 1 - j)=j:=by omega
 simp only[e2]
 exact g

theorem OrdOk.start {bs:List BlkL} {o:List Nat} (h:OrdOk bs o) (ins:Nat→List Nat) (hins:∀(b c:Nat),b<bs.length→(c:Int)∈tosB bs b→b∈ins c) {up:Nat→Nat} (hu:up 0=0) :
  ∃par,DomJ (fun b=>b∈o) (plN o) ins par 1 (fun a=>a=0) up:=by
 obtain⟨l,hl⟩:=h.root
 have h0:0∈o:=by rw[hl];simp
 have haJ:∀c,∃p,c∈o→c≠0→p∈ins c∧p∈o∧plN o p<plN o c:=fun c=>by
  by_cases hc:c∈o
  ·obtain⟨i,hi,rfl⟩:=List.getElem_of_mem hc
   by_cases hne:o[i]=0
   ·exact⟨0,fun _ g=>absurd hne g⟩
   obtain⟨j,hj,hlt,e⟩:=h.par i hi hne
   exact⟨o[j],fun _ _=>⟨hins _ _ (h.inb _ (List.getElem_mem hj)) e,List.getElem_mem hj,by rw[jU h.once hi,jU h.once hj];exact hlt⟩⟩
  exact⟨0,fun g=>absurd g hc⟩
 refine⟨fun c=>(haJ c).choose,DomJ.start (fun a b ha hb e=>?_) h0 ?_ (fun c hc hne=>(haJ c).choose_spec hc hne) hu⟩
 ·obtain⟨i,hi,rfl⟩:=List.getElem_of_mem ha
  obtain⟨j,hj,rfl⟩:=List.getElem_of_mem hb
  rw[jU h.once hi,jU h.once hj]at e
  subst e;rfl
 have:=jU h.once (i:=0) (by rw[hl];simp)
 simpa[hl]using this

def VS (pl:Nat→Nat) (ins:Nat→List Nat) (u:Nat→Int) (c:Nat):Nat→Int:=Jj u c (XE u pl (ins c))
def vW (pl:Nat→Nat) (ins:Nat→List Nat) (o:List Nat) (u:Nat→Int):Nat→Nat→Int
 | 0=>u
 | 1=>u
 | i+2=>VS pl ins (vW pl ins o u (i+1)) (o.getD (i+1) 0)

variable {bs : List BlkL} {o : List Nat} {ins : Nat → List Nat} {par : Nat → Nat} {u : Nat → Int}
theorem OrdOk.round (h:OrdOk bs o) (hJ:DomJ (fun b=>b∈o) (plN o) ins par 1 (mkN u) (upN u)):∀i,i+1≤o.length→
  DomJ (fun b=>b∈o) (plN o) ins par (i+1) (mkN (vW (plN o) ins o u (i+1))) (upN (vW (plN o) ins o u (i+1)))∧
   (vW (plN o) ins o u (i+1)=u∨Q6 (plN o) o.length o (vW (plN o) ins o u (i+1))<Q6 (plN o) o.length o u)
 | 0,_=>⟨hJ,.inl rfl⟩
 | i+1,hi=>by
  obtain⟨h1,h2⟩:=h.round hJ i (by omega)
  have hlt:i+1<o.length:=by omega
  have hg:o.getD (i+1) 0=o[i+1]:=by
   rw[List.getD_eq_getElem?_getD,List.getElem?_eq_getElem hlt];rfl
  have hc:o[i+1]∈o:=List.getElem_mem hlt
  have hp:=jU h.once hlt
  have h0:o[i+1]≠0:=fun e=>by
   obtain⟨l,hl⟩:=h.root
   have hz:=jU h.once (i:=0) (by omega)
   have e0:o[0]'(by omega)=0:=by simp[hl]
   rw[e0]at hz
   rw[e]at hp
   omega
  show DomJ _ _ _ _ (i+1+1) (mkN (VS (plN o) ins (vW (plN o) ins o u (i+1)) (o.getD (i+1) 0))) (upN (VS (plN o) ins (vW (plN o) ins o u (i+1)) (o.getD (i+1) 0)))∧
   (VS (plN o) ins (vW (plN o) ins o u (i+1)) (o.getD (i+1) 0)=u∨Q6 (plN o) o.length o (VS (plN o) ins (vW (plN o) ins o u (i+1)) (o.getD (i+1) 0))<Q6 (plN o) o.length o u)
  rw[hg]
  unfold VS
  generalize vW (plN o) ins o u (i+1)=v at *
  obtain⟨m,hm,hb,_,hml⟩:=h1.best hc hp h0
  rw[hm]
  refine⟨h1.turnI hc hp h0 hb,?_⟩
  by_cases e:v o[i+1]=(m:Int)
  ·rw[←e,putI_same]
   exact h2
  have h3:=h1.falls (n:=o.length) (fun c hc'=>by
   obtain⟨k,hk,rfl⟩:=List.getElem_of_mem hc'
   rw[jU h.once hk];exact hk) hc hp h0 hb hml e o hc
  rcases h2 with h2|h2
  ·rw[h2]at h3 ⊢;exact .inr h3
  exact .inr (Nat.lt_trans h3 h2)

variable {bs : List BlkL} {o : List Nat} {ins : Nat → List Nat} {par : Nat → Nat} {u : Nat → Int}
theorem OrdOk.getD (h:OrdOk bs o) {i:Nat} (hi:i+1<o.length):o.getD (i+1) 0=o[i+1]∧o[i+1]∈o∧plN o o[i+1]=i+1∧o[i+1]≠0∧o[i+1]<bs.length:=by
 have hc:o[i+1]∈o:=List.getElem_mem hi
 have hp:=jU h.once hi
 refine⟨by rw[List.getD_eq_getElem?_getD,List.getElem?_eq_getElem hi];rfl,hc,hp,fun e=>?_,h.inb _ hc⟩
 obtain⟨l,hl⟩:=h.root
 have hz:=jU h.once (i:=0) (by omega)
 have e0:o[0]'(by omega)=0:=by simp[hl]
 rw[e0]at hz
 rw[e]at hp
 omega
theorem OrdOk.pos (h:OrdOk bs o):0<o.length:=by
 obtain⟨l,hl⟩:=h.root
 rw[hl];simp
theorem OrdOk.lt (h:OrdOk bs o) {c:Nat} (hc:c∈o):plN o c<o.length:=by
 obtain⟨k,hk,rfl⟩:=List.getElem_of_mem hc
 rw[jU h.once hk];exact hk

def xG (bs:List BlkL):List Nat:=(j9 bs).map Int.toNat
theorem OrdOk.nats (h:OrdOk bs o):xG bs=o:=by
 unfold xG
 rw[h.ints,List.map_map]
 exact(List.map_congr_left (g:=id) fun x _=>by simp).trans (by simp)
end Go.Proofs.YtecdphhdmjmmnaaGreatDoor
namespace Go.Proofs.YtecdphhdmjmmnaaGreatDoor
open Go.RowKit

theorem ChkOk.bodyZ {u:UniL} (h:ChkOk u) {k:Nat} (hk:k<u.funcs.length):jK u u.funcs[k]=0:=(Zx hk).symm.trans (h.body k hk)
theorem Zd {u:UniL} {f:FunL} (h:jK u f=0):qA (f.blocks.map fun b=>V1 f b.fin)=0∧qA ((List.range f.blocks.length).map (Jo u f))=0:=by
 unfold jK at h
 by_cases e:qA (f.blocks.map fun b=>V1 f b.fin)=0
 ·rw[if_pos e]at h;exact⟨e,h⟩
 rw[if_neg e]at h;exact absurd h e
theorem bodyE_end {u:UniL} {f:FunL} (h:jK u f=0) {b:Nat} (hb:b<f.blocks.length):V1 f f.blocks[b].fin=0:=
 xe (Zd h).1 _ (List.mem_map.2 ⟨_,List.getElem_mem hb,rfl⟩)
theorem XF {u:UniL} {f:FunL} (h:jK u f=0) {b:Nat} (hb:b<f.blocks.length) :
  (∀p∈f.blocks[b].phis,Xn f b (qP (xp f) b).length p=0)∧∀x∈f.blocks[b].list,insL u f x=0:=by
 have h1:=xe (Zd h).2 (Jo u f b) (List.mem_map.2 ⟨b,List.mem_range.2 hb,rfl⟩)
 rw[Qo hb]at h1
 unfold blkE at h1
 by_cases e:qA (f.blocks[b].phis.map (Xn f b (qP (xp f) b).length))=0
 ·rw[if_pos e]at h1
  exact⟨fun p hp=>xe e _ (List.mem_map.2 ⟨p,hp,rfl⟩),fun x hx=>xe h1 _ (List.mem_map.2 ⟨x,hx,rfl⟩)⟩
 rw[if_neg e]at h1;exact absurd h1 e
def ValOk (regs:Int) (r:Bool) (n:Int):Prop:=r=true→0≤n∧n<regs
theorem valE_zero {regs:Int} {r:Bool} {n:Int} (h:zX regs r n=0):ValOk regs r n:=by
 intro hr
 unfold zX at h
 by_cases e:r=true∧¬(0≤n∧n≤regs - 1)
 ·rw[if_pos e]at h;cases h
 rcases Decidable.em (0≤n∧n≤regs - 1)with g|g
 ·omega
 exact absurd ⟨hr,g⟩ e
theorem Ze (T:List (List Int)):∀(n i:Nat) (t:Int),i<n→t∈T.getD i []→(t.toNat,i)∈qJ T n
 | 0,i,t,h,_=>by omega
 | n+1,i,t,h,ht=>by
  unfold qJ
  rcases Nat.lt_or_ge i n with g|g
  ·exact List.mem_append_left _ (Ze T n i t g ht)
  obtain rfl:i=n:=by omega
  exact List.mem_append_right _ (List.mem_map.2 ⟨t,ht,rfl⟩)
theorem rowOf_mem {ps:List (Nat×Nat)} {t i:Nat} (h:(t,i)∈ps):i∈qP ps t:=by
 unfold qP
 exact List.mem_map.2 ⟨(t,i),List.mem_filter.2 ⟨h,by simp⟩,rfl⟩
theorem row_mem {f:FunL} {b:Nat} (hb:b<f.blocks.length) {t:Int} (ht:t∈f.blocks[b].fin.to):b∈qP (xp f) t.toNat:=
 rowOf_mem (Ze _ _ _ _ hb (by rw[vw f b hb];exact ht))

structure FunS (f:FunL):Prop where
 n1:0<f.blocks.length
 n40:f.blocks.length≤40
 two:∀k (h:k<f.blocks.length),f.blocks[k].fin.to.length≤2
 tos:∀k (h:k<f.blocks.length),∀t∈f.blocks[k].fin.to,1≤t∧t<(f.blocks.length:Int)
theorem FunS.tosB {f:FunL} (h:FunS f):∀b,b<f.blocks.length→∀x∈tosB f.blocks b,0≤x∧x<(f.blocks.length:Int):=fun b hb x hx=>by
 rw[zk hb]at hx
 have:=h.tos b hb x hx
 omega
theorem FunS.tosD {f:FunL} (h:FunS f):∀i,i<f.blocks.length→((kL f).getD i []).length≤2∧∀t∈(kL f).getD i [],1≤t∧t<(f.blocks.length:Int):=fun i hi=>by
 rw[vw f i hi]
 exact⟨h.two i hi,h.tos i hi⟩
theorem xl:∀(n:Nat) (l:List Nat),l.Nodup→(∀x∈l,x<n)→l.length≤n
 | 0,l,_,h=>by
  cases l with
  | nil=>simp
  | cons x l=>have:=h x List.mem_cons_self;omega
 | n+1,l,hd,h=>by
  by_cases hn:n∈l
  ·have h1:=xl n (l.erase n) (hd.erase n) (fun x hx=>by
    have h2:=hd.mem_erase_iff.1 hx
    have:=h x h2.2
    have:=h2.1
    omega)
   rw[List.length_erase_of_mem hn]at h1
   omega
  have h1:=xl n l hd (fun x hx=>by
   have:=h x hx
   have:x≠n:=fun e=>hn (e ▸ hx)
   omega)
  omega
theorem XG {T:List (List Int)}:∀{n:Nat} {p:Nat×Nat},p∈qJ T n→p.2<n∧∃t∈T.getD p.2 [],p.1=t.toNat
 | 0,p,h=>by unfold qJ at h;cases h
 | n+1,p,h=>by
  unfold qJ at h
  rcases List.mem_append.1 h with h|h
  ·obtain⟨h1,h2⟩:=XG h
   exact⟨by omega,h2⟩
  obtain⟨t,ht,rfl⟩:=List.mem_map.1 h
  exact⟨by simp,t,ht,rfl⟩
theorem row_lt {f:FunL} {c p:Nat} (h:p∈qP (xp f) c):p<f.blocks.length:=by
 unfold qP at h
 obtain⟨q,hq,rfl⟩:=List.mem_map.1 h
 exact(XG (List.mem_filter.1 hq).1).1
def insN (f:FunL) (c:Nat):List Nat:=qP (xp f) c
theorem ins_of {f:FunL} (b c:Nat) (hb:b<f.blocks.length) (h:(c:Int)∈tosB f.blocks b):b∈insN f c:=by
 rw[zk hb]at h
 have:=row_mem hb h
 rw[Int.toNat_natCast]at this
 exact this
theorem Vb {f:FunL} (h:FunS f) (c:Nat):(insN f c).length≤80:=by
 have h1:=Qa (xp f) c
 have h2:(xp f).length≤2*f.blocks.length:=ke (kL f) _ _ (Nat.le_refl _) (fun i hi=>(h.tosD i hi).1)
 have:=h.n40
 show(qP _ _).length≤_
 omega
theorem FunS.ord {f:FunL} (h:FunS f):OrdOk f.blocks (xG f.blocks):=by
 obtain⟨o,ho⟩:=orderB_ok h.n1 h.tosB
 rw[ho.nats]
 exact ho
theorem FunS.ordLen {f:FunL} (h:FunS f):(xG f.blocks).length≤f.blocks.length:=xl _ _ h.ord.once h.ord.inb
theorem FunS.postLen {f:FunL} (h:FunS f):(jD f.blocks).length≤1000000:=by
 have h1:(j9 f.blocks).length=(xG f.blocks).length:=by unfold xG;simp
 have h2:(j9 f.blocks).length=(jD f.blocks).length:=by unfold j9;simp
 have:=h.ordLen
 have:=h.n40
 omega

end Go.Proofs.YtecdphhdmjmmnaaGreatDoor
