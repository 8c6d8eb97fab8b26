/-
  The contracts of turnerysame.Block, Func, Globals, Units, None: of what reads as the same 
-/
import Derived.Test.YtecdphhdmjmmnaaGreatDoorRndA
import Derived.Test.YtecdphhdmjmmnaaGreatDoorJTdoA
set_option maxRecDepth 100000
set_option maxHeartbeats 16000000
namespace Go.Proofs.YtecdphhdmjmmnaaGreatDoor
open Go.RowKit Go.Shelf

structure OutT (L O g c:Nat) (p1:Option Addr) (c1:Nat) (gl:List GloL) (xs:List FunL) (S1 S2:Blks) (W:World):Prop where
 out:W.heap[O]?=some (.cells #[.slice p1 gl.length c1,.slice (some ⟨g,0,none⟩) xs.length c] 25 (0,0))
 glo:SlQ 68 3 48 GloO W (.slice p1 gl.length c1) gl S1
 fn:SlO 37 4 FunO W (.slice (some ⟨g,0,none⟩) xs.length c) xs S2
 ap:Apart S1 S2
 l1:∀k,S1 k→L≤k∧k≠O
 l2:∀k,S2 k→L≤k∧k≠O
section
variable {L O g c c1 : Nat} {p1 : Option Addr} {gl : List GloL} {xs : List FunL} {S1 S2 : Blks} {W W' : World}
theorem OutT.lt (h:OutT L O g c p1 c1 gl xs S1 S2 W):O<W.heap.size:=q9 h.out
theorem OutT.put (h:OutT L O g c p1 c1 gl xs S1 S2 W) {xs':List FunL} {S2':Blks} (hL:L≤W.heap.size) (hl:xs'.length=xs.length) (hk:Kept S2 W W') (hs:SlO 37 4 FunO W' (.slice (some ⟨g,0,none⟩) xs.length c) xs' S2') (h2:∀b,S2' b→S2 b∨W.heap.size≤b):OutT L O g c p1 c1 gl xs' S1 S2' W':=by
 have zO:=h.lt
 refine⟨?_,⟨h.glo.sl.loc zC (fun b hb=>hk.block b (h.glo.sl.inb b hb) (h.ap b hb)) hk.size,h.glo.bd⟩,by rw[hl];exact hs,fun b x y=>?_,h.l1,fun b hb=>?_⟩
 ·rw[hl]
  exact(hk.block O zO fun hu=>(h.l2 O hu).2 rfl).trans h.out
 ·rcases h2 b y with z|z
  ·exact h.ap b x z
  have:=h.glo.sl.inb b x;omega
 rcases h2 b hb with z|z
 ·exact h.l2 b z
 omega
theorem OutT.below (h:OutT L O g c p1 c1 gl xs S1 S2 W) (hL:L≤W.heap.size) (hb:Below W.heap.size W W'):OutT L O g c p1 c1 gl xs S1 S2 W':=
 h.put hL rfl (Kept.of_below hb) (h.fn.below zj hb) fun _ hb=>.inl hb
theorem OutT.cO (h:OutT L O g c p1 c1 gl xs S1 S2 W):W.cell? ⟨O,0,none⟩=some (.slice p1 gl.length c1)∧W.cell? ⟨O,1,none⟩=some (.slice (some ⟨g,0,none⟩) xs.length c):=⟨(blk h.out).1 0,(blk h.out).1 1⟩
end

theorem Jc {xs:List FunL} {m:Nat} (h:vP xs=some m):m<xs.length:=by
 unfold vP at h
 exact List.mem_range.1 (List.mem_of_find?_eq_some h)

def tlJ (j:Nat) (xs:List FunL):List FunL:=xs.mapIdx fun i f=>if i<j then tailF qO i f else f
theorem jg (j:Nat) (xs:List FunL):(tlJ j xs).length=xs.length:=by simp[tlJ]
theorem tlJ_zero (xs:List FunL):tlJ 0 xs=xs:=by
 refine List.ext_getElem (jg _ _) fun i h1 h2=>?_
 simp[tlJ]
theorem tlJ_full (u:UniL):tlJ u.funcs.length u.funcs=(xW qO u).funcs:=by
 refine List.ext_getElem (by rw[jg,jd]) fun i h1 h2=>?_
 rw[jg]at h1
 simp[tlJ,xW,h1]
theorem tlJ_at {j:Nat} {xs:List FunL} (h:j<xs.length):(tlJ j xs)[j]'(by rw[jg];exact h)=xs[j]:=by simp[tlJ]
theorem VA {j:Nat} {xs:List FunL} (h:j<xs.length):(tlJ j xs).set j (tailF qO j xs[j])=tlJ (j+1) xs:=by
 refine List.ext_getElem (by rw[List.length_set,jg,jg]) fun i h1 h2=>?_
 rw[jg]at h2
 rw[List.getElem_set]
 by_cases e:j=i
 ·subst e
  simp[tlJ]
 rw[if_neg e]
 have a1:∀m (hm:i<(tlJ m xs).length),(tlJ m xs)[i]=if i<m then tailF qO i xs[i]else xs[i]:=fun m hm=>by simp[tlJ]
 rw[a1,a1]
 by_cases h3:i<j
 ·rw[if_pos h3,if_pos (by omega)]
 rw[if_neg h3,if_neg (by omega)]
theorem tlJ_stay {j:Nat} {xs:List FunL} (h:j<xs.length) (hs:tailF qO j xs[j]=xs[j]):tlJ (j+1) xs=tlJ j xs:=by
 rw[←VA h,hs,←tlJ_at h,List.set_getElem_self]
theorem funGetF {w w':World} {p:Option Addr} {xs:List FunL} (h:SliceAt w 4 (FunR w) p xs) (hb:Below w.heap.size w w') {i:Nat} (hi:i<xs.length) :
  ∃b o q c,p=some ⟨b,o,none⟩∧w'.cell? ⟨b,o+i*4,none⟩=some (.string xs[i].name)∧w'.cell? ⟨b,o+i*4+1,none⟩=some (.int .i64 xs[i].params)∧w'.cell? ⟨b,o+i*4+2,none⟩=some (.int .i64 xs[i].regs)∧w'.cell? ⟨b,o+i*4+3,none⟩=some (.slice q xs[i].blocks.length c)∧
   xs[i].name.size≤reachBytes∧SlF w' 6 96 (BlkR w') (.slice q xs[i].blocks.length c) xs[i].blocks:=by
 rcases h with rfl|⟨b,o,hp,h⟩
 ·simp at hi
 obtain⟨cs,_,hc,hr⟩:=h i hi
 obtain⟨v,rfl,w0,w1,w2,q,c,rfl,a1,a2,a3,a4⟩:=hr
 have h0:w.cell? ⟨b,o+i*4,none⟩=some (.string xs[i].name):=hc 0 (by omega)
 have hl:=q8 h0
 have g:∀j,j<4→w'.cell? ⟨b,o+i*4+j,none⟩=w.cell? ⟨b,o+i*4+j,none⟩:=fun j _=>hb.cell (p:=⟨b,_,none⟩) hl
 exact⟨b,o,q,c,hp,(g 0 (by omega)).trans h0,(g 1 (by omega)).trans (hc 1 (by omega)),(g 2 (by omega)).trans (hc 2 (by omega)),(g 3 (by omega)).trans (hc 3 (by omega)),w0,⟨q,c,rfl,a1,a2,a3,zF a4 hb⟩⟩

theorem fun_new {W W1:World} {g c k:Nat} {xs:List FunL} {S2 T':Blks} {f':FunL} {v:Value} (h:SlO 37 4 FunO W (.slice (some ⟨g,0,none⟩) xs.length c) xs S2) (hk:k<xs.length) (hb:Below W.heap.size W W1)
  (hf:FunO W1 [.string f'.name,.int .i64 f'.params,.int .i64 f'.regs,v] f' T') (hT:∀b,T' b→W.heap.size≤b∧b<W1.heap.size) :
  g<W.heap.size∧S2 g∧(∀o,W1.frozen? ⟨g,o,none⟩=false)∧(∀j,j<4→∃u,W1.cell? ⟨g,k*4+j,none⟩=some u)∧SlO 37 4 FunO (quad W1 g (k*4) (.string f'.name) (.int .i64 f'.params) (.int .i64 f'.regs) v) (.slice (some ⟨g,0,none⟩) xs.length c) (xs.set k f') (fun b=>S2 b∨T' b):=by
 obtain⟨g',c',cs',T0,hv',hjR,hhs,hcl',hF',hjS,hjT,haX,hjU,⟨cur,hau⟩,hput⟩:=h.focus zj (by omega) hk
 obtain rfl:g=g':=by
  injection hv' with a
  injection a with a
  injection a
 obtain⟨v0,hcs,hnm,i1,i2,hB⟩:=hF'
 have hg1:=hb.block g hjR
 have hv:∃w2,v=w2:=⟨v,rfl⟩
 obtain⟨vv,hvv,n1,n2,n3,hBn⟩:=hf
 obtain rfl:v=vv:=by simpa using hvv
 have hK:=QX W1 g (k*4) (.string f'.name) (.int .i64 f'.params) (.int .i64 f'.regs) v
 refine⟨hjR,hhs,fun o=>(World.frozen?_of_block (a:=⟨g,o,none⟩) hg1).trans (hjU o),fun j hj=>⟨_,((World.cell?_of_block (a:=⟨g,k*4+j,none⟩) hg1).trans (haX j hj)).trans (List.getElem?_eq_getElem (by omega))⟩,?_⟩
 obtain⟨p0,d0,rfl,_⟩:=hBn.sl.val
 exact hput _ _ f' T' ((RowPut.same hau hg1 haX).quad hcl' _ _ _ _) rfl (fun u hu=>by
   simp only[List.mem_cons,List.not_mem_nil,or_false]at hu
   rcases hu with rfl|rfl|rfl|rfl<;>rfl) (Nat.le_trans hb.size hK.size) (fun i h1 h2 h3=>(hK.block i (Nat.lt_of_lt_of_le (h.inb i h1) hb.size) h3).trans (hb.block i (h.inb i h1)))
  ⟨_,rfl,n1,n2,n3,⟨hBn.sl.kept qE hK (fun b h1 h2=>by have:=hT b h2;omega),hBn.bd⟩⟩ (fun b hb'=>⟨.inr (hT b hb').1,Nat.lt_of_lt_of_le (hT b hb').2 hK.size⟩)

theorem tld_bad (u:UniL) (gp fp:Option Addr) (gc fc:Nat) (w:World) (hgl:u.globals.length*48≤140737488351232) (hG:SliceAt w 3 (GloR w) gp u.globals) (hfl:u.funcs.length*56≤140737488351232) (hF:SliceAt w 4 (FunR w) fp u.funcs) (hw0:Ways w) (h:(chk u).1≠0) :
  Calls Tryz.prog 9 #[.agg #[.slice gp u.globals.length gc,.slice fp u.funcs.length fc]] w fun e w'=>e = .returned (.tuple #[.agg #[.slice none 0 0,.slice none 0 0],.agg #[.int .i64 (chk u).1,.int .i64 (chk u).2]])∧Below w.heap.size w w':=by
 have HG:=q7 hG
 have HF:=q7 hF
 have HW:=q7 hw0
 have hne:((chk u).1 == 0&&(chk u).2 == 0)=false:=by simp[h]
 have hq:∀w,(binOp .neq 27 (.agg #[.int .i64 (chk u).1,.int .i64 (chk u).2]) (.agg #[.int .i64 0,.int .i64 0])).run Tryz.prog w = .ok (.bool true) w:=fun w=>by rw[xE,hne];rfl
 clear hG hF hw0 h hne
 go_enter Tryz.func9,Tryz.ntmps9
 go_wp2_with fail
 refine(js u _ _ _ _ _ hgl (zS HG.out bZ) hfl (xI HF.out bZ) (HW.out.below bZ)).mono ?_
 rintro e w1 ⟨rfl,hb1⟩
 have HB1:Hid (Below w.heap.size w w1):=Below.trans bZ (hb1.mono (by simp;omega))
 have hR:=qd hb1 (k:=w.heap.size+1) (by simp) (qj (qh (w:=w.alloc (.cells #[.slice gp u.globals.length gc,.slice fp u.funcs.length fc] 25)) (o:=.cells #[.slice none 0 0,.slice none 0 0] 25) (by simp)))
 have hR2:=qd hb1 (k:=w.heap.size+1+1) (by simp) (qh (w:=(w.alloc (.cells #[.slice gp u.globals.length gc,.slice fp u.funcs.length fc] 25)).alloc (.cells #[.slice none 0 0,.slice none 0 0] 25)) (o:=.cells #[.int .i64 0,.int .i64 0] 27) (by simp))
 obtain⟨hcc,hcf⟩:=blk hR
 obtain⟨hkM,hkO⟩:=blk hR2
 have z1:=q9 hR
 have z2:=q9 hR2
 clear hb1
 go_wp2_with fail
 go_region
 all_goals go_wp2
 all_goals
  refine bodyPost_ret (v:=.tuple #[.agg #[.slice none 0 0,.slice none 0 0],.agg #[.int .i64 (chk u).1,.int .i64 (chk u).2]]) ?_ rfl ⟨rfl,?_⟩
  ·simp[results,Tryz.results9,go_sem, *]
  exact bZ

theorem tld_ret {w W:World} {c1 c2:Nat} {p1 p2:Option Addr} {a:Act} {x:UniL} {S:Blks} {A0 A1 B0 B1:Value} {G F:Nat} (hR:W.heap[w.heap.size+1]?=some (.cells #[A0,A1] 25 (0,0))) (hE:W.heap[w.heap.size+1+1]?=some (.cells #[B0,B1] 27 (0,0)))
  (h2:a.tmps[2]?.getD undef = .pointer (some ⟨w.heap.size+1,0,none⟩)) (h3:a.tmps[3]?.getD undef = .pointer (some ⟨w.heap.size+1+1,0,none⟩)) (hd:a.defers=[]) (hb:Below w.heap.size w W) (hS:UniO W [.slice p1 G c1,.slice p2 F c2] x S) (hL:∀i,S i→w.heap.size+1+1<i) :
  bodyPost Tryz.prog Tryz.f9 (fun e w'=>(∃p1 c1 p2 c2,e = .returned (.tuple #[.agg #[.slice p1 G c1,.slice p2 F c2],.agg #[.int .i64 0,.int .i64 0]])∧∃S,UniO w' [.slice p1 G c1,.slice p2 F c2] x S∧LoB w.heap.size S)∧Below w.heap.size w w') .ret a
   ((((W.setCell ⟨w.heap.size+1,0,none⟩ (.slice p1 G c1)).setCell ⟨w.heap.size+1,1,none⟩ (.slice p2 F c2)).setCell ⟨w.heap.size+1+1,0,none⟩ (.int .i64 0)).setCell ⟨w.heap.size+1+1,1,none⟩ (.int .i64 0)):=by
 obtain⟨WF,hWF⟩:∃WF,WF=(((W.setCell ⟨w.heap.size+1,0,none⟩ (.slice p1 G c1)).setCell ⟨w.heap.size+1,1,none⟩ (.slice p2 F c2)).setCell ⟨w.heap.size+1+1,0,none⟩ (.int .i64 0)).setCell ⟨w.heap.size+1+1,1,none⟩ (.int .i64 0):=⟨_,rfl⟩
 rw[←hWF]
 have hK:Kept (fun i=>i=w.heap.size+1∨i=w.heap.size+1+1) W WF:=by
  rw[hWF]
  have h0:Kept (fun i=>i=w.heap.size+1∨i=w.heap.size+1+1) W W:=Kept.refl _ _
  have h1:=h0.setCell (p:=⟨w.heap.size+1,0,none⟩) (.inl rfl) (.slice p1 G c1)
  have h2:=h1.setCell (p:=⟨w.heap.size+1,1,none⟩) (.inl rfl) (.slice p2 F c2)
  have h3:=h2.setCell (p:=⟨w.heap.size+1+1,0,none⟩) (.inr rfl) (.int .i64 0)
  exact h3.setCell (p:=⟨w.heap.size+1+1,1,none⟩) (.inr rfl) (.int .i64 0)
 have hRA:WF.heap[w.heap.size+1]?=some (.cells #[.slice p1 G c1,.slice p2 F c2] 25 (0,0)):=by
  rw[hWF,Go.Deep.blk_setCell_other _ ⟨w.heap.size+1+1,1,none⟩ _ _ (by show w.heap.size+1≠w.heap.size+1+1;omega),Go.Deep.blk_setCell_other _ ⟨w.heap.size+1+1,0,none⟩ _ _ (by show w.heap.size+1≠w.heap.size+1+1;omega),qg (qg hR 0 _) 1 _]
  rfl
 have hRE:WF.heap[w.heap.size+1+1]?=some (.cells #[.int .i64 0,.int .i64 0] 27 (0,0)):=by
  have h0:((W.setCell ⟨w.heap.size+1,0,none⟩ (.slice p1 G c1)).setCell ⟨w.heap.size+1,1,none⟩ (.slice p2 F c2)).heap[w.heap.size+1+1]?=some (.cells #[B0,B1] 27 (0,0)):=by
   rw[Go.Deep.blk_setCell_other _ ⟨w.heap.size+1,1,none⟩ _ _ (by show w.heap.size+1+1≠w.heap.size+1;omega),Go.Deep.blk_setCell_other _ ⟨w.heap.size+1,0,none⟩ _ _ (by show w.heap.size+1+1≠w.heap.size+1;omega)]
   exact hE
  rw[hWF,qg (qg h0 0 _) 1 _]
  rfl
 clear hWF
 obtain⟨ra,_⟩:=blk hRA
 obtain⟨re,_⟩:=blk hRE
 have ra0:=ra 0
 have ra1:=ra 1
 have re0:=re 0
 have re1:=re 1
 simp only[List.getElem?_toArray,List.getElem?_cons_zero,List.getElem?_cons_succ]at ra0 ra1 re0 re1
 have hz:=q9 hE
 refine bodyPost_ret (v:=.tuple #[.agg #[.slice p1 G c1,.slice p2 F c2],.agg #[.int .i64 0,.int .i64 0]]) ?_ hd ⟨⟨p1,c1,p2,c2,rfl,S,?_,fun i hi=>?_⟩,?_⟩
 ·simp[results,Tryz.results9,go_sem,h2,h3,ra0,ra1,re0,re1]
 ·obtain⟨v1,v2,S1,S2,h0,h1,h2,h3,g1,g2⟩:=hS
  exact⟨v1,v2,S1,S2,h0,⟨h1.sl.kept zC hK (fun i a b=>by have:=hL i (g1 i b);omega),h1.bd⟩,⟨h2.sl.kept zj hK (fun i a b=>by have:=hL i (g2 i b);omega),h2.bd⟩,h3,g1,g2⟩
 ·have:=hL i hi
  omega
 exact hb.trans (hK.below hb.size (fun i e=>by omega))

theorem tld_ok (u:UniL) (gp fp:Option Addr) (gc fc:Nat) (w:World) (hgl:u.globals.length*48≤140737488351232) (hG:SlF w 3 48 (GloR w) (.slice gp u.globals.length gc) u.globals) (hfl:u.funcs.length*56≤140737488351232) (hF:SlF w 4 56 (FunR w) (.slice fp u.funcs.length fc) u.funcs) (hw0:Ways w) (h:(chk u).1=0) :
  Calls Tryz.prog 9 #[.agg #[.slice gp u.globals.length gc,.slice fp u.funcs.length fc]] w fun e w'=>(∃p1 c1 p2 c2,e = .returned (.tuple #[.agg #[.slice p1 u.globals.length c1,.slice p2 u.funcs.length c2],.agg #[.int .i64 0,.int .i64 0]])∧
   ∃S,UniO w' [.slice p1 u.globals.length c1,.slice p2 u.funcs.length c2] (xB (xW qO (xB u))) S∧LoB w.heap.size S)∧Below w.heap.size w w':=by
 have hG':SliceAt w 3 (GloR w) gp u.globals:=by
  obtain⟨p,c,e,_,_,h⟩:=hG.outC
  cases e
  exact h
 have hF':SliceAt w 4 (FunR w) fp u.funcs:=by
  obtain⟨p,c,e,_,_,h⟩:=hF.outC
  cases e
  exact h
 have HGs:=q7 hG
 have HFs:=q7 hF
 have HG:=q7 hG'
 have HF:=q7 hF'
 have HW:=q7 hw0
 have HH:=q7 h
 have hck:=(ki h).2
 obtain⟨hvc,hvk⟩:=hck.tidy
 obtain⟨V,hV⟩:∃V,V=xB u:=⟨_,rfl⟩
 rw[←hV]at hvc hvk
 have hVl:V.funcs.length=u.funcs.length:=by rw[hV];simp[xB]
 have hVg:V.globals=u.globals:=by rw[hV];rfl
 have hpos:0<u.funcs.length:=by
  obtain⟨m,hm,_⟩:=hck.main
  exact Nat.lt_of_le_of_lt (Nat.zero_le _) (Jc hm)
 have hnO:Vl qO:=fun f hp b hb=>by
  cases e:f.blocks.any Kd with
  | true=>rw[X4 e]at hp;cases hp
  | false=>exact(QW e).1 b hb
 have HVk:=q7 hvk
 have HVc:=q7 (show(chk V).1=0 by rw[hvc])
 have HV:=q7 hV
 have HVl:=q7 hVl
 have HVg:=q7 hVg
 have HPl:=q7 hnO
 have hne:((chk u).1 == 0&&(chk u).2 == 0)=true:=by rw[(ki h).1];rfl
 have hq:∀w,(binOp .neq 27 (.agg #[.int .i64 (chk u).1,.int .i64 (chk u).2]) (.agg #[.int .i64 0,.int .i64 0])).run Tryz.prog w = .ok (.bool false) w:=fun w=>by rw[xE,hne];rfl
 have hq0:∀w,(binOp .neq 27 (.agg #[.int .i64 0,.int .i64 0]) (.agg #[.int .i64 0,.int .i64 0])).run Tryz.prog w = .ok (.bool false) w:=fun w=>by rw[xE];rfl
 clear hG hF hG' hF' hw0 h hne hck hvc hvk hV hVl hVg hnO
 go_enter Tryz.func9,Tryz.ntmps9
 go_wp2_with fail
 refine(js u _ _ _ _ _ hgl (zS HG.out bZ) hfl (xI HF.out bZ) (HW.out.below bZ)).mono ?_
 rintro e w1 ⟨rfl,hb1⟩
 have HB1:Hid (Below w.heap.size w w1):=Below.trans bZ (hb1.mono (by simp;omega))
 have hU:=qd hb1 (k:=w.heap.size) (by simp;omega) (qj (qj (qr w _)))
 have hR:=qd hb1 (k:=w.heap.size+1) (by simp) (qj (qh (w:=w.alloc (.cells #[.slice gp u.globals.length gc,.slice fp u.funcs.length fc] 25)) (o:=.cells #[.slice none 0 0,.slice none 0 0] 25) (by simp)))
 have hR2:=qd hb1 (k:=w.heap.size+1+1) (by simp) (qh (w:=(w.alloc (.cells #[.slice gp u.globals.length gc,.slice fp u.funcs.length fc] 25)).alloc (.cells #[.slice none 0 0,.slice none 0 0] 25)) (o:=.cells #[.int .i64 0,.int .i64 0] 27) (by simp))
 have HU:=q7 hU
 have HR:=q7 hR
 have HR2:=q7 hR2
 obtain⟨hcu,hfu⟩:=blk hU
 have zu:=q9 hU
 have z1:=q9 hR
 have z2:=q9 hR2
 clear hb1 hR hR2 hU
 go_wp2_with fail
 obtain⟨w2,hw2⟩:∃w2,w2=w1.alloc (.cells #[.int .i64 (chk u).1,.int .i64 (chk u).2] 27):=⟨_,rfl⟩
 rw[←hw2]
 have hb2:Below w1.heap.size w1 w2:=by rw[hw2];exact bZ
 have HB2:=q7 hb2
 have haO:=q7 (HB1.out.trans (hb2.mono (by omega)))
 clear hw2 hb2
 have hgm:=SlF.mono HGs.out haO.out (by omega) fun _ _ h=>h.below haO.out
 have hfm:=SlF.mono HFs.out haO.out (by omega) fun _ _ h=>h.below haO.out
 refine(Vz u gp fp gc fc w2 hgl hgm hfl hfm (HW.out.below haO.out) HH.out).mono ?_
 rintro e w3 ⟨⟨p1,c1,p2,c2,rfl,S,hS,hL⟩,hb3⟩
 have hz2:=HB2.out.size
 have hU:=(hb3.block _ (by omega)).trans ((HB2.out.block _ zu).trans HU.out)
 have hR:=(hb3.block _ (by omega)).trans ((HB2.out.block _ z1).trans HR.out)
 have hR2:=(hb3.block _ (by omega)).trans ((HB2.out.block _ z2).trans HR2.out)
 have HU3:=q7 hU
 have HR3:=q7 hR
 have HE3:=q7 hR2
 rw[←HV.out,←HVl.out,←HVg.out]at hS
 rw[←HVl.out,←HVg.out]
 have HS:=q7 hS
 have HL:=q7 (show ∀i,S i→w2.heap.size≤i from hL)
 have HB3:=q7 (haO.out.trans (hb3.mono haO.out.size))
 have hz3:=hb3.size
 have hoV:w.heap.size+1+1<w2.heap.size:=by omega
 obtain⟨ub,uf⟩:=blk hU
 have ub0:=ub 0
 have ub1:=ub 1
 have uz:=q9 hU
 simp only[List.getElem?_toArray,List.getElem?_cons_zero,List.getElem?_cons_succ]at ub0 ub1
 clear hS hL hb3 hgm hfm hR hR2 hU ub hcu hfu zu z1 z2 HU HR HR2 HB2 haO
 go_wp2_with fail
 obtain⟨W4,hW4⟩:∃W4,W4=((w3.setCell ⟨w.heap.size,0,none⟩ (.slice p1 V.globals.length c1)).setCell ⟨w.heap.size,1,none⟩ (.slice p2 V.funcs.length c2)).alloc (.cells #[.int .i64 0,.int .i64 0] 27):=⟨_,rfl⟩
 rw[←hW4]
 have hk4:Kept (fun b=>b=w.heap.size) w3 W4:=by
  rw[hW4]
  exact(((Kept.refl (fun b=>b=w.heap.size) w3).setCell (p:=⟨w.heap.size,0,none⟩) rfl _).setCell (p:=⟨w.heap.size,1,none⟩) rfl _).alloc _
 have hU4:W4.heap[w.heap.size]?=some (.cells #[.slice p1 V.globals.length c1,.slice p2 V.funcs.length c2] 25 (0,0)):=by rw[hW4];exact qj (qg (qg HU3.out 0 _) 1 _)
 have hb4:Below w.heap.size w W4:=HB3.out.trans (hk4.below HB3.out.size (fun b e=>by omega))
 have hR4:=(hk4.block _ (q9 HR3.out) (by omega)).trans HR3.out
 have hE4:=(hk4.block _ (q9 HE3.out) (by omega)).trans HE3.out
 have hS4:UniO W4 [.slice p1 V.globals.length c1,.slice p2 V.funcs.length c2] V S:=by
  obtain⟨v1,v2,S1,S2,h0,h1,h2,h3,g1,g2⟩:=HS.out
  exact⟨v1,v2,S1,S2,h0,⟨h1.sl.kept zC hk4 (fun i a b=>by have:=HL.out i (g1 i b);omega),h1.bd⟩,⟨h2.sl.kept zj hk4 (fun i a b=>by have:=HL.out i (g2 i b);omega),h2.bd⟩,h3,g1,g2⟩
 obtain⟨hvg,hvf⟩:SlF W4 3 48 (GloR W4) (.slice p1 V.globals.length c1) V.globals∧SlF W4 4 56 (FunR W4) (.slice p2 V.funcs.length c2) V.funcs:=by
  obtain⟨v1,v2,h0,h1,h2⟩:=hS4.read
  simp only[List.cons.injEq,and_true]at h0
  obtain⟨rfl,rfl⟩:=h0
  exact⟨h1,h2⟩
 have hnP:SliceAt W4 3 (GloR W4) p1 V.globals:=by
  obtain⟨p,c,e,_,_,h⟩:=hvg.outC
  cases e
  exact h
 have hnQ:SliceAt W4 4 (FunR W4) p2 V.funcs:=by
  obtain⟨p,c,e,_,_,h⟩:=hvf.outC
  cases e
  exact h
 have HU4:=q7 hU4
 have HR4:=q7 hR4
 have HE4:=q7 hE4
 have HB4:=q7 hb4
 have hrI:=q7 hnP
 have hnV:=q7 hnQ
 have HVq:=q7 (And.intro hvg hvf)
 have hnW:V.globals.length*48≤140737488351232:=hvg.bdC
 have hnY:V.funcs.length*56≤140737488351232:=hvf.bdC
 have hz4:w.heap.size+1+1<W4.heap.size:=q9 hE4
 clear hW4 hk4 hU4 hb4 hR4 hE4 hS4 hvg hvf hnP hnQ HU3 HR3 HE3 HS HL HB3 HB1 ub0 ub1 uf uz hz2 hz3
 refine(copy_any V p1 p2 c1 c2 W4 HVq.out.1 HVq.out.2).mono ?_
 rintro e w5 ⟨⟨q1,d1,q2,d2,rfl,S,hS,hL⟩,hb5⟩
 obtain⟨v1,v2,S1,S2,h0,h1,h2,h3,g1,g2⟩:=hS
 simp only[List.cons.injEq,and_true]at h0
 obtain⟨rfl,rfl⟩:=h0
 obtain⟨g,c,_,_,hvq,hgz,_⟩:=h2.sl.focus zj (by omega) (i:=0) (by rw[HVl.out];exact hpos)
 obtain⟨rfl,rfl⟩:q2=some ⟨g,0,none⟩∧d2=c:=by injection hvq with h1 _ h2;exact⟨h1,h2⟩
 have hz5:=hb5.size
 have hU5:=(hb5.block _ (q9 HU4.out)).trans HU4.out
 obtain⟨ub,uf⟩:=blk hU5
 have ub0:=ub 0
 have ub1:=ub 1
 have uz:=q9 hU5
 simp only[List.getElem?_toArray,List.getElem?_cons_zero,List.getElem?_cons_succ]at ub0 ub1
 have HU5:=q7 hU5
 have HB5:=q7 hb5
 have H1:=q7 h1
 have H2:=q7 h2
 have H3:=q7 h3
 have HG:=q7 (show(∀b,S1 b→W4.heap.size≤b)∧∀b,S2 b→W4.heap.size≤b from⟨fun b hb=>hL b (g1 b hb),fun b hb=>hL b (g2 b hb)⟩)
 clear h1 h2 h3 g1 g2 hL hvq hb5 hU5 ub hgz
 go_wp2_with fail
 obtain⟨O,hO⟩:∃O,O=w5.heap.size:=⟨_,rfl⟩
 rw[←hO]
 obtain⟨W6,hW6⟩:∃W6,W6=w5.alloc (.cells #[.slice q1 V.globals.length d1,.slice (some ⟨g,0,none⟩) V.funcs.length d2] 25):=⟨_,rfl⟩
 rw[←hW6]
 have hhu:Below w5.heap.size w5 W6:=by rw[hW6];exact bZ
 have hOT:OutT W4.heap.size O g d2 q1 d1 V.globals (tlJ 0 V.funcs) S1 S2 W6:=by
  rw[tlJ_zero]
  exact⟨by rw[hW6,hO];exact qh rfl,⟨H1.out.sl.below zC hhu,H1.out.bd⟩,H2.out.sl.below zj hhu,H3.out,fun b hb=>⟨HG.out.1 b hb,by have:=H1.out.sl.inb b hb;omega⟩,fun b hb=>⟨HG.out.2 b hb,by have:=H2.out.sl.inb b hb;omega⟩⟩
 have hnZ:Below W4.heap.size W4 W6:=HB5.out.trans (hhu.mono hz5)
 have HOT:=q7 hOT
 have HB6:=q7 hnZ
 have HBd:=q7 (And.intro H1.out.bd H2.out.bd)
 clear hW6 hhu hOT hnZ hO H1 H2 H3 HG HU5 HB5 ub0 ub1 uf uz hz5
 go_loopg [32] V.funcs.length (fun qq i wr=>∃(j:Nat) (S2':Blks),j≤V.funcs.length∧qq=V.funcs.length - j∧i = .int .i64 j∧OutT W4.heap.size O g d2 q1 d1 V.globals (tlJ j V.funcs) S1 S2' wr∧Below W4.heap.size W4 wr)
 case atStart=>exact⟨0,S2,by omega,rfl,rfl,HOT.out,HB6.out⟩
 case round=>
  obtain⟨j,S2',hj,rfl,rfl,hT,hb⟩:=hrel
  obtain⟨wo,hwo⟩:∃wo,wo=wr:=⟨_,rfl⟩
  subst hwo
  have hzo:=hb.size
  have hUo:=(hb.block _ (q9 HU4.out)).trans HU4.out
  obtain⟨ub,uf⟩:=blk hUo
  have ub0:=ub 0
  have ub1:=ub 1
  have uz:=q9 hUo
  simp only[List.getElem?_toArray,List.getElem?_cons_zero,List.getElem?_cons_succ]at ub0 ub1
  have HT:=q7 hT
  have HB:=q7 hb
  have HUo:=q7 hUo
  clear hT hb hUo ub
  by_cases hlt:j<V.funcs.length
  rotate_left
  ·obtain rfl:j=V.funcs.length:=by omega
   have hTf:=HT.out
   rw[tlJ_full]at hTf
   have hcO:=(HVk.out.tail HPl.out).1
   have hbq:V.funcs.length*56≤reachBytes:=HBd.out.2
   have hff:SlF wo 4 56 (FunR wo) (.slice (some ⟨g,0,none⟩) (xW qO V).funcs.length d2) (xW qO V).funcs:=(SlQ.mk (bytes:=56) hTf.fn (by rw[jd];exact hbq)).read zj (by omega) fun _ _ _ h=>h.read
   have hgg:SlF wo 3 48 (GloR wo) (.slice q1 (xW qO V).globals.length d1) (xW qO V).globals:=hTf.glo.read zC (by omega) fun _ _ _ h=>h.read
   have htd:=Vz (xW qO V) q1 (some ⟨g,0,none⟩) d1 d2 wo hnW hgg (by rw[jd];exact hnY) hff (HW.out.below (HB4.out.trans (HB.out.mono HB4.out.size))) (by rw[hcO])
   rw[jd,show(xW qO V).globals=V.globals from rfl]at htd
   obtain⟨o0,o1⟩:=hTf.cO
   rw[jd]at o1
   have oz:=hTf.lt
   have hRo:=(HB.out.block _ (q9 HR4.out)).trans HR4.out
   have hEo:=(HB.out.block _ (q9 HE4.out)).trans HE4.out
   have HTd:=q7 htd
   have HRo:=q7 hRo
   have HEo:=q7 hEo
   clear hTf hcO hff hgg htd hRo hEo
   go_wp2_with fail
   refine HTd.out.mono ?_
   rintro e w9 ⟨⟨r1,e1,r2,e2,rfl,S9,hS9,hL9⟩,hb9⟩
   have hz9:=hb9.size
   have hR9:=(hb9.block _ (q9 HRo.out)).trans HRo.out
   have hE9:=(hb9.block _ (q9 HEo.out)).trans HEo.out
   obtain⟨ab,af⟩:=blk hR9
   have ab0:=ab 0
   have ab1:=ab 1
   have az:=q9 hR9
   obtain⟨eb,ef⟩:=blk hE9
   have eb0:=eb 0
   have eb1:=eb 1
   have ez:=q9 hE9
   simp only[List.getElem?_toArray,List.getElem?_cons_zero,List.getElem?_cons_succ]at ab0 ab1 eb0 eb1
   have HS9:=q7 hS9
   have HL9:=q7 (show ∀i,S9 i→wo.heap.size≤i from hL9)
   have HB9:=q7 ((HB4.out.trans (HB.out.mono HB4.out.size)).trans (hb9.mono (by have:=HB4.out.size;omega)))
   have HR9:=q7 hR9
   have HE9:=q7 hE9
   clear hS9 hL9 hb9 hR9 hE9 ab eb
   go_wp2_with fail
   rw[←HV.out,←HVl.out,←HVg.out]
   exact tld_ret HR9.out HE9.out rfl rfl rfl HB9.out HS9.out (fun i hi=>by have:=HL9.out i hi;omega)
  have hpl:=Kg V p1 p2 c1 c2 j wo hnW (zS hrI.out HB.out) hnY (xI hnV.out HB.out) (HW.out.below (HB4.out.trans (HB.out.mono HB4.out.size))) HVc.out hlt
  have hsu:=VA hlt
  have hst:=tlJ_stay hlt
  have hat:=tlJ_at hlt
  have hfc:=HVk.out.funC hlt
  have hpu:Z7 V j=V.funcs[j].params:=QL hlt
  obtain⟨fb,fo,q,cq,hp2,f0,f1,f2,f3,hnm,hsl⟩:=funGetF hnV.out HB.out hlt
  subst hp2
  have fz:=q8 f0
  have HPa:=q7 hpl
  have HSu:=q7 hsu
  have HSt:=q7 hst
  have HAt:=q7 hat
  have HFc:=q7 hfc
  have HPu:=q7 hpu
  have HSl:=q7 hsl
  generalize hf:V.funcs[j]=f at *
  obtain⟨pl,hpe⟩:∃pl,pl=qO f:=⟨_,rfl⟩
  rw[←hpe]at HPa
  have HPe:=q7 hpe
  clear hpl hsu hst hat hfc hpu hsl hpe
  cases pl
  ·go_wp2_with (go_at_call 22;refine HPa.out.mono ?_;rintro e w7 ⟨rfl,hb7⟩;have HB7:=q7 hb7;clear hb7)
   have htf:tailF qO j f=f:=by unfold tailF;rw[if_neg (fun h=>by rw[←HPe.out]at h;exact absurd h.1 (by decide))]
   have hj1:=HSt.out htf
   have HJ1:=q7 hj1
   clear htf hj1
   go_roundg (V.funcs.length - (j+1))
   case measure=>omega
   case rel=>exact⟨j+1,S2',by omega,rfl,by go_num,by rw[HJ1.out];exact HT.out.below (by omega) HB7.out,HB.out.trans (HB7.out.mono HB.out.size)⟩
  go_wp2_with fail
  refine HPa.out.mono ?_
  rintro e w7 ⟨rfl,hb7⟩
  have z7:=hb7.size
  have f0:=(hb7.cell (q8 f0)).trans f0
  have f1:=(hb7.cell (q8 f1)).trans f1
  have f2:=(hb7.cell (q8 f2)).trans f2
  have f3:=(hb7.cell (q8 f3)).trans f3
  have ub1:=(hb7.cell (q8 ub1)).trans ub1
  have uz:w.heap.size<w7.heap.size:=by omega
  have fz:fb<w7.heap.size:=by omega
  have HB7:=q7 hb7
  have ho4:SlF w7 6 96 (BlkR w7) (.slice q f.blocks.length cq) f.blocks:=SlF.mono HSl.out hb7 (by omega) fun _ _ h=>h.below hb7
  have hrJ:=q7 ho4
  have HT7:=q7 (HT.out.below (by omega) hb7)
  have hgU:=q7 (HB.out.trans (hb7.mono HB.out.size))
  clear hb7 ho4
  go_wp2_with fail
  refine(round_any f j HFc.out HPu.out q cq w7 hnm hrJ.out).mono ?_
  rintro e w8 ⟨hb8,hr⟩
  have z8:=hb8.size
  have HT8:=q7 (HT7.out.below (by omega) hb8)
  have HB8:=q7 hb8
  have he4:=q7 (hgU.out.trans (hb8.mono hgU.out.size))
  clear hb8
  rcases hr with⟨hm,rfl⟩|⟨hm,p9,c9,T9,rfl,hF9,hL9⟩
  ·have htf:tailF qO j f=f:=by unfold tailF;rw[if_neg (fun h=>by rw[hm]at h;exact absurd h.2 (by decide))]
   have hj1:=HSt.out htf
   have HJ1:=q7 hj1
   clear htf hj1 hm
   go_wp2_with fail
   go_roundg (V.funcs.length - (j+1))
   case measure=>omega
   case rel=>
    have hba:Below w8.heap.size w8 (w8.alloc (.cells #[.string f.name,.int .i64 f.params,.int .i64 f.regs,.slice q f.blocks.length cq] 37)):=(Below.refl _ w8).alloc (Nat.le_refl _) _
    exact⟨j+1,S2',by omega,rfl,by go_num,by rw[HJ1.out];exact HT8.out.below (by omega) hba,he4.out.trans (hba.mono he4.out.size)⟩
  have htf:tailF qO j f=jc j f:=by unfold tailF;rw[if_pos ⟨HPe.out.symm,hm⟩]
  have hsu:=HSu.out
  rw[htf]at hsu
  have hjl:j<(tlJ j V.funcs).length:=by rw[jg];exact hlt
  have h9i:∀b,T9 b→b<w8.heap.size:=by
   obtain⟨v,_,_,_,_,h4⟩:=hF9
   exact fun b hb=>h4.sl.inb b hb
  obtain⟨hgz,hSg,hfr,hce,hnew⟩:=fun_new (k:=j) (f':=jc j f) (v:=.slice p9 (f.blocks.length+1) c9) (T':=T9) HT7.out.fn hjl HB8.out hF9 (fun b hb=>⟨hL9 b hb,h9i b hb⟩)
  obtain⟨u0,hu0⟩:=hce 0 (by omega)
  obtain⟨u1,hu1⟩:=hce 1 (by omega)
  obtain⟨u2,hu2⟩:=hce 2 (by omega)
  obtain⟨u3,hu3⟩:=hce 3 (by omega)
  rw[Nat.add_zero]at hu0
  have htW:g<w8.heap.size:=by omega
  obtain⟨_,o1⟩:=HT8.out.cO
  rw[jg]at o1
  have oz:=HT8.out.lt
  rw[hsu]at hnew
  have hfin:OutT W4.heap.size O g d2 q1 d1 V.globals (tlJ (j+1) V.funcs) S1 (fun b=>S2' b∨T9 b) (quad w8 g (j*4) (.string f.name) (.int .i64 f.params) (.int .i64 (f.regs+f.params)) (.slice p9 (f.blocks.length+1) c9))∧Below W4.heap.size W4 (quad w8 g (j*4) (.string f.name) (.int .i64 f.params) (.int .i64 (f.regs+f.params)) (.slice p9 (f.blocks.length+1) c9)):=by
   have hK:=QX w8 g (j*4) (.string f.name) (.int .i64 f.params) (.int .i64 (f.regs+f.params)) (.slice p9 (f.blocks.length+1) c9)
   refine⟨HT7.out.put (by omega) (by rw[jg,jg]) ((Kept.of_below (S:=S2') HB8.out).trans hK (fun b _ e=>by rw[e];exact hSg)) hnew (fun b hb=>hb.imp id fun h=>hL9 b h),he4.out.trans (hK.below (by omega) (fun b e=>?_))⟩
   rw[e]
   exact(HT7.out.l2 g hSg).1
  have HFin:=q7 hfin
  clear hfin hnew hce hsu hjl hF9 hL9 h9i htf hm
  go_wp2_with fail
  go_roundg (V.funcs.length - (j+1))
  case measure=>omega
  case rel=>
   have hza:=HFin.out.2.size
   have hba:=(Below.refl (quad w8 g (j*4) (.string f.name) (.int .i64 f.params) (.int .i64 (f.regs+f.params)) (.slice p9 (f.blocks.length+1) c9)).heap.size (quad w8 g (j*4) (.string f.name) (.int .i64 f.params) (.int .i64 (f.regs+f.params)) (.slice p9 (f.blocks.length+1) c9))).alloc (Nat.le_refl _) (.cells #[.string f.name,.int .i64 f.params,.int .i64 (f.regs+f.params),.slice p9 (f.blocks.length+1) c9] 37)
   exact⟨j+1,fun b=>S2' b∨T9 b,by omega,rfl,by go_num,HFin.out.1.below hza hba,HFin.out.2.trans (hba.mono hza)⟩
end Go.Proofs.YtecdphhdmjmmnaaGreatDoor
namespace Go.Proofs.YtecdphhdmjmmnaaGreatDoor
open Go.RowKit

def ValsAt (w:World) (p:Option Addr) (l:Nat) (V:Nat→Bool×Int):Prop:=
 l=0∨∃b o,p=some ⟨b,o,none⟩∧∀i,i<l→w.cell? ⟨b,o+i*2,none⟩=some (.bool (V i).1)∧w.cell? ⟨b,o+i*2+1,none⟩=some (.int .i64 (V i).2)

theorem ValsAt.below {w w':World} {p:Option Addr} {l:Nat} {V:Nat→Bool×Int} (h:ValsAt w p l V) (hb:Below w.heap.size w w'):ValsAt w' p l V:=by
 rcases h with h|⟨b,o,rfl,h⟩
 ·exact .inl h
 refine .inr ⟨b,o,rfl,fun i hi=>?_⟩
 obtain⟨h0,h1⟩:=h i hi
 exact⟨(hb.cell (p:=⟨b,o+i*2,none⟩) (q8 h0)).trans h0,(hb.cell (p:=⟨b,o+i*2+1,none⟩) (q8 h0)).trans h1⟩

theorem vals_eq (b b' o o' n c d:Nat) (V V':Nat→Bool×Int) (w:World) (hn:n≤140737488355328)
  (h0:∀i,i<n→w.cell? ⟨b,o+i*2,none⟩=some (.bool (V i).1)) (h1:∀i,i<n→w.cell? ⟨b,o+i*2+1,none⟩=some (.int .i64 (V i).2))
  (g0:∀i,i<n→w.cell? ⟨b',o'+i*2,none⟩=some (.bool (V' i).1)) (g1:∀i,i<n→w.cell? ⟨b',o'+i*2+1,none⟩=some (.int .i64 (V' i).2)) :
  Calls Tryz.prog 107 #[.slice (some ⟨b,o,none⟩) n c,.slice (some ⟨b',o',none⟩) n d] w fun e w'=>e = .returned (.bool (decide (∀i,i<n→V i=V' i)))∧∃m,w'=w.drewN m:=by
 have hb:((n:Int) != (n:Int))=false:=by simp
 go_enter Tryz.func107,Tryz.ntmps107
 go_wp2
 go_loopw [5] (fun i wr=>∃k m:Nat,k≤n∧i = .int .i64 k∧wr=w.drewN m∧∀j,j<k→V j=V' j) (fun i _=>n - (intOf i).toNat)
 case atStart=>exact⟨0,0,by omega,rfl,rfl,fun j hj=>by omega⟩
 case round=>
  obtain⟨k,m,hk,rfl,rfl,hV⟩:=hrel
  by_cases hlt:k<n
  rotate_left
  ·go_wp2
   go_ret
   refine⟨?_,m,rfl⟩
   rw[decide_eq_true]
   ·rfl
   intro i hi
   exact hV i (by omega)
  have c0:=h0 k hlt
  have c1:=h1 k hlt
  have c2:=g0 k hlt
  have c3:=g1 k hlt
  have HV:Hid (∀j,j<k→V j=V' j):=hV
  clear hV h0 h1 g0 g1
  generalize hv:V k=v at c0 c1
  generalize hv':V' k=v' at c2 c3
  have Hv:Hid (V k=v):=hv
  have Hv':Hid (V' k=v'):=hv'
  clear hv hv'
  obtain⟨r,x⟩:=v
  obtain⟨r',x'⟩:=v'
  have hne:=Xf r r' x x'
  go_wp2_with fail
  go_quiet (fail)
  go_wp2_with fail
  ·rename_i hw
   go_ret
   refine⟨?_,m+nq,by simp⟩
   rw[decide_eq_false]
   ·rfl
   intro hall
   have hk2:=hall k hlt
   rw[Hv.out,Hv'.out]at hk2
   obtain⟨rfl,rfl⟩:=Prod.mk.inj hk2
   simp at hw
  rename_i hw
  refine⟨⟨k+1,m+nq,by omega,by go_num,rfl,fun j hj=>?_⟩,by simp[intOf];omega⟩
  by_cases hjk:j<k
  ·exact HV.out j hjk
  obtain rfl:j=k:=by omega
  rw[Hv.out,Hv'.out]
  simp at hw
  rw[hw.1,hw.2]
theorem vals_nil (p q:Option Addr) (c d:Nat) (w:World) :
  Calls Tryz.prog 107 #[.slice p 0 c,.slice q 0 d] w fun e w'=>e = .returned (.bool true)∧w'=w:=by
 go_enter Tryz.func107,Tryz.ntmps107
 go_wp2
 go_loop [5] (fun i=>i = .int .i64 0) (fun _=>0)
 case atStart=>rfl
 case round=>
  subst hrel
  go_wp2
  go_ret
  exact⟨rfl,rfl⟩

theorem Jd (p q:Option Addr) (l c d:Nat) (V:Nat→Bool×Int) (w:World) (hl:l≤140737488355328) (h:ValsAt w p l V) (g:ValsAt w q l V) :
  Calls Tryz.prog 107 #[.slice p l c,.slice q l d] w fun e w'=>e = .returned (.bool true)∧∃m,w'=w.drewN m:=by
 rcases Nat.eq_zero_or_pos l with rfl|hp
 ·exact(vals_nil p q c d w).mono fun e w' ⟨h1,h2⟩=>⟨h1,0,h2⟩
 rcases h with rfl|⟨b,o,rfl,h⟩
 ·exact absurd hp (by omega)
 rcases g with rfl|⟨b',o',rfl,g⟩
 ·exact absurd hp (by omega)
 refine(vals_eq b b' o o' l c d V V w hl (fun i hi=>(h i hi).1) (fun i hi=>(h i hi).2) (fun i hi=>(g i hi).1) (fun i hi=>(g i hi).2)).mono ?_
 rintro e w' ⟨rfl,hm⟩
 exact⟨by simp,hm⟩

theorem ins_same (o d n n' f:Int) (r r':Bool) (p q:Option Addr) (l c c':Nat) (V:Nat→Bool×Int) (w:World) (hl:l≤140737488355328) (h:ValsAt w p l V) (g:ValsAt w q l V) :
  Calls Tryz.prog 108 #[.agg #[.int .i64 o,.int .i64 d,.bool r,.int .i64 n,.bool r',.int .i64 n',.int .i64 f,.slice p l c],.agg #[.int .i64 o,.int .i64 d,.bool r,.int .i64 n,.bool r',.int .i64 n',.int .i64 f,.slice q l c']] w fun e w'=>e = .returned (.bool true)∧Below w.heap.size w w':=by
 have H:Hid (ValsAt w p l V):=h
 have G:Hid (ValsAt w q l V):=g
 clear h g
 go_enter Tryz.func108,Tryz.ntmps108
 go_wp2_with fail
 refine(Jd _ _ _ _ _ V _ hl (H.out.below ?_) (G.out.below ?_)).mono ?_
 ·exact bZ
 ·exact bZ
 rintro e w1 ⟨rfl,m,rfl⟩
 go_wp2
 go_ret
 refine⟨rfl,?_⟩
 exact bZ

theorem kI {w:World} {p:Option Addr} {xs:List (Bool×Int)} (h:SliceAt w 2 vO p xs):ValsAt w p xs.length fun i=>xs.getD i (false,0):=by
 rcases h with rfl|⟨b,o,hp,h⟩
 ·exact .inl rfl
 refine .inr ⟨b,o,hp,fun i hi=>?_⟩
 obtain⟨cs,_,hc,⟨rfl,_⟩⟩:=h i hi
 have h0:w.cell? ⟨b,o+i*2,none⟩=some (.bool xs[i].1):=hc 0 (by omega)
 have h1:w.cell? ⟨b,o+i*2+1,none⟩=some (.int .i64 xs[i].2):=hc 1 (by omega)
 have e:xs.getD i (false,0)=xs[i]:=by simp[List.getD,hi]
 show _=some (Value.bool (xs.getD i (false,0)).1)∧_=some (Value.int .i64 (xs.getD i (false,0)).2)
 rw[e]
 exact⟨h0,h1⟩
theorem valsS (xs:List (Bool×Int)) (p q:Option Addr) (c d:Nat) (w:World) (hl:xs.length*16≤reachBytes) (h:SliceAt w 2 vO p xs) (g:SliceAt w 2 vO q xs) :
  Calls Tryz.prog 107 #[.slice p xs.length c,.slice q xs.length d] w fun e w'=>e = .returned (.bool true)∧Below w.heap.size w w':=
 (Jd p q xs.length c d _ w (by unfold reachBytes at hl;omega) (kI h) (kI g)).mono fun e w' ⟨h1,m,h2⟩=>⟨h1,by rw[h2];exact below_drewN (Below.refl _ _) _⟩

theorem insSm (x:InsL) (p q:Option Addr) (c d:Nat) (w:World) (hl:x.args.length*16≤reachBytes) (h:SliceAt w 2 vO p x.args) (g:SliceAt w 2 vO q x.args) :
  Calls Tryz.prog 108 #[.agg #[.int .i64 x.op,.int .i64 x.dst,.bool x.ar,.int .i64 x.an,.bool x.br,.int .i64 x.bn,.int .i64 x.fn,.slice p x.args.length c],.agg #[.int .i64 x.op,.int .i64 x.dst,.bool x.ar,.int .i64 x.an,.bool x.br,.int .i64 x.bn,.int .i64 x.fn,.slice q x.args.length d]] w fun e w'=>e = .returned (.bool true)∧Below w.heap.size w w':=
 ins_same x.op x.dst x.an x.bn x.fn x.ar x.br p q x.args.length c d _ w (by unfold reachBytes at hl;omega) (kI h) (kI g)
theorem intsS (xs:List Int) (p q:Option Addr) (c d:Nat) (w:World) (hl:xs.length*8≤140737488351232) (hX:SliceAt w 1 xC p xs) (hY:SliceAt w 1 xC q xs) :
  Calls Tryz.prog 67 #[.slice p xs.length c,.slice q xs.length d] w fun e w'=>e = .returned (.bool true)∧Below w.heap.size w w':=
 (ints_any xs xs p q c d w (by omega) (by omega) hX hY).mono fun e w' h=>⟨by rw[h.1];simp,h.2⟩

theorem Kk (x:BlkL) (p1 p2 p3 q1 q2 q3:Option Addr) (c1 c2 c3 d1 d2 d3:Nat) (w:World) (hP:SlF w 2 32 (PhiR w) (.slice p1 x.phis.length c1) x.phis) (hI:SlF w 8 80 (InsR w) (.slice p2 x.list.length c2) x.list) (hT:SlF w 1 8 xC (.slice p3 x.fin.to.length c3) x.fin.to)
  (gP:SlF w 2 32 (PhiR w) (.slice q1 x.phis.length d1) x.phis) (gI:SlF w 8 80 (InsR w) (.slice q2 x.list.length d2) x.list) (gT:SlF w 1 8 xC (.slice q3 x.fin.to.length d3) x.fin.to) :
  Calls Tryz.prog 68 #[.agg #[.slice p1 x.phis.length c1,.slice p2 x.list.length c2,.int .i64 x.fin.kind,.bool x.fin.onr,.int .i64 x.fin.onn,.slice p3 x.fin.to.length c3],.agg #[.slice q1 x.phis.length d1,.slice q2 x.list.length d2,.int .i64 x.fin.kind,.bool x.fin.onr,.int .i64 x.fin.onn,.slice q3 x.fin.to.length d3]] w fun e w'=>e = .returned (.bool true)∧Below w.heap.size w w':=by
 have hlp:x.phis.length*32≤140737488351232:=hP.bdC
 have hli:x.list.length*80≤140737488351232:=hI.bdC
 have hrK:x.fin.to.length*8≤140737488351232:=hT.bdC
 have hP':SliceAt w 2 (PhiR w) p1 x.phis:=by obtain⟨_,_,e,_,_,h⟩:=hP.outC;cases e;exact h
 have hI':SliceAt w 8 (InsR w) p2 x.list:=by obtain⟨_,_,e,_,_,h⟩:=hI.outC;cases e;exact h
 have hT':SliceAt w 1 xC p3 x.fin.to:=by obtain⟨_,_,e,_,_,h⟩:=hT.outC;cases e;exact h
 have gP':SliceAt w 2 (PhiR w) q1 x.phis:=by obtain⟨_,_,e,_,_,h⟩:=gP.outC;cases e;exact h
 have gI':SliceAt w 8 (InsR w) q2 x.list:=by obtain⟨_,_,e,_,_,h⟩:=gI.outC;cases e;exact h
 have gT':SliceAt w 1 xC q3 x.fin.to:=by obtain⟨_,_,e,_,_,h⟩:=gT.outC;cases e;exact h
 have HP:=q7 hP'
 have HI:=q7 hI'
 have HT:=q7 hT'
 have GP:=q7 gP'
 have GI:=q7 gI'
 have GT:=q7 gT'
 clear hP hI hT gP gI gT hP' hI' hT' gP' gI' gT'
 go_enter Tryz.func68,Tryz.ntmps68
 go_wp2_with fail
 obtain⟨W0,hW0⟩:∃W0,W0=(w.alloc (.cells #[.slice p1 x.phis.length c1,.slice p2 x.list.length c2,.int .i64 x.fin.kind,.bool x.fin.onr,.int .i64 x.fin.onn,.slice p3 x.fin.to.length c3] 48)).alloc (.cells #[.slice q1 x.phis.length d1,.slice q2 x.list.length d2,.int .i64 x.fin.kind,.bool x.fin.onr,.int .i64 x.fin.onn,.slice q3 x.fin.to.length d3] 48):=⟨_,rfl⟩
 rw[←hW0]
 have hz0:W0.heap.size=w.heap.size+1+1:=by rw[hW0];simp
 have HB0:Hid (Below w.heap.size w W0):=q7 (by rw[hW0];exact bZ)
 have HA:Hid (W0.heap[w.heap.size]?=some (.cells #[.slice p1 x.phis.length c1,.slice p2 x.list.length c2,.int .i64 x.fin.kind,.bool x.fin.onr,.int .i64 x.fin.onn,.slice p3 x.fin.to.length c3] 48 (0,0))):=q7 (by rw[hW0];exact qj (qh rfl))
 have HB:Hid (W0.heap[w.heap.size+1]?=some (.cells #[.slice q1 x.phis.length d1,.slice q2 x.list.length d2,.int .i64 x.fin.kind,.bool x.fin.onr,.int .i64 x.fin.onn,.slice q3 x.fin.to.length d3] 48 (0,0))):=q7 (by rw[hW0];exact qh (by simp))
 clear hW0
 go_loopw [5] (fun i wr=>∃k:Nat,k≤x.phis.length∧i = .int .i64 k∧Below W0.heap.size W0 wr) (fun i _=>x.phis.length - (intOf i).toNat)
 case atStart=>exact⟨0,by omega,rfl,Below.refl _ _⟩
 case round=>
  obtain⟨k,hk,rfl,hb⟩:=hrel
  have HBr:=q7 hb
  have HBw:Hid (Below w.heap.size w wr):=HB0.out.trans (hb.mono (by omega))
  have hA:=(hb.block w.heap.size (by omega)).trans HA.out
  have hB:=(hb.block (w.heap.size+1) (by omega)).trans HB.out
  have a0:wr.cell? ⟨w.heap.size,0,none⟩=some (.slice p1 x.phis.length c1):=(blk hA).1 0
  have b0:wr.cell? ⟨w.heap.size+1,0,none⟩=some (.slice q1 x.phis.length d1):=(blk hB).1 0
  have za:=q9 hA
  have zb:=q9 hB
  have HA1:=q7 hA
  have HB1:=q7 hB
  clear hb hA hB
  by_cases hlt:k<x.phis.length
  ·obtain⟨bp,op,qa,ca,hp,e0,e1,_,l1,s1⟩:=phiGet HP.out HBw.out hlt
   obtain⟨bq,oq,qb,cb,hq,f0,f1,_,l2,s2⟩:=phiGet GP.out HBw.out hlt
   subst hp hq
   have hz1:=q8 e0
   have hz2:=q8 f0
   have HS1:=q7 s1
   have HS2:=q7 s2
   clear s1 s2
   have g1:(0:Int)≤(k:Int):=by omega
   have g2:(k:Int)<x.phis.length:=by omega
   go_wp2_with fail
   go_region_held3 (fun w'=>w'.cell? ⟨w.heap.size,0,none⟩=some (.slice (some ⟨bp,op,none⟩) x.phis.length c1)∧w'.cell? ⟨w.heap.size+1,0,none⟩=some (.slice (some ⟨bq,oq,none⟩) x.phis.length d1)∧w'.cell? ⟨bp,op+k*2,none⟩=some (.int .i64 x.phis[k].dst)∧w'.cell? ⟨bp,op+k*2+1,none⟩=some (.slice qa x.phis[k].src.length ca)∧w'.cell? ⟨bq,oq+k*2,none⟩=some (.int .i64 x.phis[k].dst)∧w'.cell? ⟨bq,oq+k*2+1,none⟩=some (.slice qb x.phis[k].src.length cb)) (go_keep)
    (first|(go_at_call 107;refine(valsS x.phis[k].src _ _ _ _ _ l1 (HS1.out.mono bZ (by omega) fun _ _ h=>h) (HS2.out.mono bZ (by omega) fun _ _ h=>h)).mono ?_;rintro e w2 ⟨rfl,hb2⟩;have hq1:=hb2.cell (p:=⟨bp,op+k*2,none⟩) (by simpa using hz1);have hq2:=hb2.cell (p:=⟨bp,op+k*2+1,none⟩) (by simpa using hz1);have hq3:=hb2.cell (p:=⟨bq,oq+k*2,none⟩) (by simpa using hz2);have hq4:=hb2.cell (p:=⟨bq,oq+k*2+1,none⟩) (by simpa using hz2);have hq5:=hb2.cell (p:=⟨w.heap.size,0,none⟩) (by simpa using za);have hq6:=hb2.cell (p:=⟨w.heap.size+1,0,none⟩) (by simpa using zb)))
   all_goals
    have HN:Hid (Below W0.heap.size W0 w2):=HBr.out.trans (Below.trans bZ (hb2.mono (by simp;exact HBr.out.size)))
    clear hb2 hq1 hq2 hq3 hq4 hq5 hq6
    go_wp2
    exact⟨⟨k+1,by omega,by go_num,HN.out⟩,by simp[intOf];omega⟩
  obtain rfl:k=x.phis.length:=by omega
  have a1:wr.cell? ⟨w.heap.size,1,none⟩=some (.slice p2 x.list.length c2):=(blk HA1.out).1 1
  have b1:wr.cell? ⟨w.heap.size+1,1,none⟩=some (.slice q2 x.list.length d2):=(blk HB1.out).1 1
  go_wp2_with fail
  clear a0 b0 a1 b1 za zb HBw
  obtain⟨W1,hW1⟩:∃W1,W1=wr:=⟨_,rfl⟩
  rw[←hW1]
  rw[←hW1]at HBr
  clear HA1 HB1 hW1
  have htX:=HBr.out.size
  go_loopw [6] (fun i wr=>∃k:Nat,k≤x.list.length∧i = .int .i64 k∧Below W0.heap.size W0 wr) (fun i _=>x.list.length - (intOf i).toNat)
  case atStart=>exact⟨0,by omega,rfl,HBr.out⟩
  case round=>
   obtain⟨k,hk,rfl,hb⟩:=hrel
   have HBr:=q7 hb
   have HBw:Hid (Below w.heap.size w wr):=HB0.out.trans (hb.mono (by omega))
   have hA:=(hb.block w.heap.size (by omega)).trans HA.out
   have hB:=(hb.block (w.heap.size+1) (by omega)).trans HB.out
   have a1:wr.cell? ⟨w.heap.size,1,none⟩=some (.slice p2 x.list.length c2):=(blk hA).1 1
   have b1:wr.cell? ⟨w.heap.size+1,1,none⟩=some (.slice q2 x.list.length d2):=(blk hB).1 1
   have za:=q9 hA
   have zb:=q9 hB
   have HA1:=q7 hA
   have HB1:=q7 hB
   clear hb hA hB
   by_cases hlt:k<x.list.length
   ·obtain⟨bp,op,qa,ca,hp,e0,e1,e2,e3,e4,e5,e6,e7,_,_,_,_,_,l1,s1⟩:=Q1 HI.out HBw.out hlt
    obtain⟨bq,oq,qb,cb,hq,f0,f1,f2,f3,f4,f5,f6,f7,_,_,_,_,_,l2,s2⟩:=Q1 GI.out HBw.out hlt
    subst hp hq
    have hz1:=q8 e0
    have hz2:=q8 f0
    have HS1:=q7 s1
    have HS2:=q7 s2
    clear s1 s2
    have g1:(0:Int)≤(k:Int):=by omega
    have g2:(k:Int)<x.list.length:=by omega
    go_wp2_with fail
    go_region_held3 (fun w'=>w'.cell? ⟨w.heap.size,1,none⟩=some (.slice (some ⟨bp,op,none⟩) x.list.length c2)∧w'.cell? ⟨w.heap.size+1,1,none⟩=some (.slice (some ⟨bq,oq,none⟩) x.list.length d2)∧w'.cell? ⟨bp,op+k*8,none⟩=some (.int .i64 x.list[k].op)∧w'.cell? ⟨bp,op+k*8+1,none⟩=some (.int .i64 x.list[k].dst)∧w'.cell? ⟨bp,op+k*8+2,none⟩=some (.bool x.list[k].ar)∧w'.cell? ⟨bp,op+k*8+3,none⟩=some (.int .i64 x.list[k].an)∧w'.cell? ⟨bp,op+k*8+4,none⟩=some (.bool x.list[k].br)∧w'.cell? ⟨bp,op+k*8+5,none⟩=some (.int .i64 x.list[k].bn)∧w'.cell? ⟨bp,op+k*8+6,none⟩=some (.int .i64 x.list[k].fn)∧w'.cell? ⟨bp,op+k*8+7,none⟩=some (.slice qa x.list[k].args.length ca)∧
      w'.cell? ⟨bq,oq+k*8,none⟩=some (.int .i64 x.list[k].op)∧w'.cell? ⟨bq,oq+k*8+1,none⟩=some (.int .i64 x.list[k].dst)∧w'.cell? ⟨bq,oq+k*8+2,none⟩=some (.bool x.list[k].ar)∧w'.cell? ⟨bq,oq+k*8+3,none⟩=some (.int .i64 x.list[k].an)∧w'.cell? ⟨bq,oq+k*8+4,none⟩=some (.bool x.list[k].br)∧w'.cell? ⟨bq,oq+k*8+5,none⟩=some (.int .i64 x.list[k].bn)∧w'.cell? ⟨bq,oq+k*8+6,none⟩=some (.int .i64 x.list[k].fn)∧w'.cell? ⟨bq,oq+k*8+7,none⟩=some (.slice qb x.list[k].args.length cb)) (go_keep)
     (first|(go_at_call 108;refine(insSm x.list[k] _ _ _ _ _ l1 (HS1.out.mono bZ (by omega) fun _ _ h=>h) (HS2.out.mono bZ (by omega) fun _ _ h=>h)).mono ?_;rintro e w2 ⟨rfl,hb2⟩;have hq1:=fun o=>hb2.cell (p:=⟨bp,o,none⟩) (by simpa using hz1);have hq2:=fun o=>hb2.cell (p:=⟨bq,o,none⟩) (by simpa using hz2);have hq5:=hb2.cell (p:=⟨w.heap.size,1,none⟩) (by simpa using za);have hq6:=hb2.cell (p:=⟨w.heap.size+1,1,none⟩) (by simpa using zb)))
    all_goals
     have HN:Hid (Below W0.heap.size W0 w2):=HBr.out.trans (Below.trans bZ (hb2.mono (by simp;exact HBr.out.size)))
     clear hb2 hq1 hq2 hq5 hq6
     go_wp2
     exact⟨⟨k+1,by omega,by go_num,HN.out⟩,by simp[intOf];omega⟩
   obtain rfl:k=x.list.length:=by omega
   have a2:wr.cell? ⟨w.heap.size,2,none⟩=some (.int .i64 x.fin.kind):=(blk HA1.out).1 2
   have b2:wr.cell? ⟨w.heap.size+1,2,none⟩=some (.int .i64 x.fin.kind):=(blk HB1.out).1 2
   have a3:wr.cell? ⟨w.heap.size,3,none⟩=some (.bool x.fin.onr):=(blk HA1.out).1 3
   have b3:wr.cell? ⟨w.heap.size+1,3,none⟩=some (.bool x.fin.onr):=(blk HB1.out).1 3
   have a4:wr.cell? ⟨w.heap.size,4,none⟩=some (.int .i64 x.fin.onn):=(blk HA1.out).1 4
   have b4:wr.cell? ⟨w.heap.size+1,4,none⟩=some (.int .i64 x.fin.onn):=(blk HB1.out).1 4
   have a5:wr.cell? ⟨w.heap.size,5,none⟩=some (.slice p3 x.fin.to.length c3):=(blk HA1.out).1 5
   have b5:wr.cell? ⟨w.heap.size+1,5,none⟩=some (.slice q3 x.fin.to.length d3):=(blk HB1.out).1 5
   go_wp2_with fail
   refine(intsS x.fin.to p3 q3 c3 d3 wr hrK (HT.out.mono HBw.out (by omega) fun _ _ h=>h) (GT.out.mono HBw.out (by omega) fun _ _ h=>h)).mono ?_
   rintro e w2 ⟨rfl,hb2⟩
   have HN:Hid (Below w.heap.size w w2):=HBw.out.trans (hb2.mono HBw.out.size)
   clear hb2
   go_wp2
   go_ret
   exact⟨rfl,HN.out⟩

theorem blkSlot {w:World} {p:Option Addr} {xs:List BlkL} (h:SliceAt w 6 (BlkR w) p xs) {i:Nat} (hi:i<xs.length):∃b o q1 c1 q2 c2 q3 c3,p=some ⟨b,o,none⟩∧w.cell? ⟨b,o+i*6,none⟩=some (.slice q1 xs[i].phis.length c1)∧w.cell? ⟨b,o+i*6+1,none⟩=some (.slice q2 xs[i].list.length c2)∧w.cell? ⟨b,o+i*6+2,none⟩=some (.int .i64 xs[i].fin.kind)∧w.cell? ⟨b,o+i*6+3,none⟩=some (.bool xs[i].fin.onr)∧w.cell? ⟨b,o+i*6+4,none⟩=some (.int .i64 xs[i].fin.onn)∧w.cell? ⟨b,o+i*6+5,none⟩=some (.slice q3 xs[i].fin.to.length c3)∧
  SlF w 2 32 (PhiR w) (.slice q1 xs[i].phis.length c1) xs[i].phis∧SlF w 8 80 (InsR w) (.slice q2 xs[i].list.length c2) xs[i].list∧SlF w 1 8 xC (.slice q3 xs[i].fin.to.length c3) xs[i].fin.to:=by
 rcases h with rfl|⟨b,o,hp,h⟩
 ·simp at hi
 obtain⟨cs,_,hc,hr⟩:=h i hi
 obtain⟨v1,v2,v3,rfl,_,_,h1,h2,h3⟩:=hr
 obtain⟨q1,c1,rfl,_⟩:=h1.outC
 obtain⟨q2,c2,rfl,_⟩:=h2.outC
 obtain⟨q3,c3,rfl,_⟩:=h3.outC
 exact⟨b,o,q1,c1,q2,c2,q3,c3,hp,hc 0 (by omega),hc 1 (by omega),hc 2 (by omega),hc 3 (by omega),hc 4 (by omega),hc 5 (by omega),h1,h2,h3⟩

theorem func_same (x:FunL) (p q:Option Addr) (c d:Nat) (w:World) (_hn:x.name.size≤reachBytes) (hl:x.blocks.length*96≤reachBytes) (hP:SliceAt w 6 (BlkR w) p x.blocks) (hQ:SliceAt w 6 (BlkR w) q x.blocks) :
  Calls Tryz.prog 36 #[.agg #[.string x.name,.int .i64 x.params,.int .i64 x.regs,.slice p x.blocks.length c],.agg #[.string x.name,.int .i64 x.params,.int .i64 x.regs,.slice q x.blocks.length d]] w fun e w'=>e = .returned (.bool true)∧Below w.heap.size w w':=by
 have hlb:x.blocks.length*96≤140737488351232:=hl
 have HP:=q7 hP
 have HQ:=q7 hQ
 clear hP hQ hl
 go_enter Tryz.func36,Tryz.ntmps36
 go_wp2_with fail
 obtain⟨W0,hW0⟩:∃W0,W0=(w.alloc (.cells #[.string x.name,.int .i64 x.params,.int .i64 x.regs,.slice p x.blocks.length c] 37)).alloc (.cells #[.string x.name,.int .i64 x.params,.int .i64 x.regs,.slice q x.blocks.length d] 37):=⟨_,rfl⟩
 rw[←hW0]
 have hz0:W0.heap.size=w.heap.size+1+1:=by rw[hW0];simp
 have HB0:Hid (Below w.heap.size w W0):=q7 (by rw[hW0];exact bZ)
 have HA:Hid (W0.heap[w.heap.size]?=some (.cells #[.string x.name,.int .i64 x.params,.int .i64 x.regs,.slice p x.blocks.length c] 37 (0,0))):=q7 (by rw[hW0];exact qj (qh rfl))
 have HB:Hid (W0.heap[w.heap.size+1]?=some (.cells #[.string x.name,.int .i64 x.params,.int .i64 x.regs,.slice q x.blocks.length d] 37 (0,0))):=q7 (by rw[hW0];exact qh (by simp))
 clear hW0
 go_loopw [5] (fun i wr=>∃k:Nat,k≤x.blocks.length∧i = .int .i64 k∧Below W0.heap.size W0 wr) (fun i _=>x.blocks.length - (intOf i).toNat)
 case atStart=>exact⟨0,by omega,rfl,Below.refl _ _⟩
 case round=>
  obtain⟨k,hk,rfl,hb⟩:=hrel
  have HBr:=q7 hb
  have HBw:Hid (Below w.heap.size w wr):=HB0.out.trans (hb.mono (by omega))
  have hA:=(hb.block w.heap.size (by omega)).trans HA.out
  have hB:=(hb.block (w.heap.size+1) (by omega)).trans HB.out
  have a0:wr.cell? ⟨w.heap.size,3,none⟩=some (.slice p x.blocks.length c):=(blk hA).1 3
  have b0:wr.cell? ⟨w.heap.size+1,3,none⟩=some (.slice q x.blocks.length d):=(blk hB).1 3
  have za:=q9 hA
  have zb:=q9 hB
  clear hb hA hB
  by_cases hlt:k<x.blocks.length
  rotate_left
  ·obtain rfl:k=x.blocks.length:=by omega
   go_wp2_with fail
   go_ret
   exact⟨rfl,HBw.out⟩
  obtain⟨bp,op,q1,c1,q2,c2,q3,c3,hp,e0,e1,e2,e3,e4,e5,s1,s2,s3⟩:=blkSlot (zF HP.out HBw.out) hlt
  obtain⟨bq,oq,r1,d1,r2,d2,r3,d3,hq,f0,f1,f2,f3,f4,f5,t1,t2,t3⟩:=blkSlot (zF HQ.out HBw.out) hlt
  subst hp hq
  have hz1:=q8 e0
  have hz2:=q8 f0
  have HS:=q7 (And.intro s1 (And.intro s2 (And.intro s3 (And.intro t1 (And.intro t2 t3)))))
  clear s1 s2 s3 t1 t2 t3
  have g1:(0:Int)≤(k:Int):=by omega
  have g2:(k:Int)<x.blocks.length:=by omega
  have hbl:∀W',Below wr.heap.size wr W'→SlF W' 2 32 (PhiR W') (.slice q1 x.blocks[k].phis.length c1) x.blocks[k].phis∧SlF W' 8 80 (InsR W') (.slice q2 x.blocks[k].list.length c2) x.blocks[k].list∧SlF W' 1 8 xC (.slice q3 x.blocks[k].fin.to.length c3) x.blocks[k].fin.to∧SlF W' 2 32 (PhiR W') (.slice r1 x.blocks[k].phis.length d1) x.blocks[k].phis∧SlF W' 8 80 (InsR W') (.slice r2 x.blocks[k].list.length d2) x.blocks[k].list∧SlF W' 1 8 xC (.slice r3 x.blocks[k].fin.to.length d3) x.blocks[k].fin.to:=fun W' h=>
   ⟨HS.out.1.mono h (by omega) fun _ _ g=>g.below h,HS.out.2.1.mono h (by omega) fun _ _ g=>g.below h,HS.out.2.2.1.mono h (by omega) fun _ _ g=>g,HS.out.2.2.2.1.mono h (by omega) fun _ _ g=>g.below h,HS.out.2.2.2.2.1.mono h (by omega) fun _ _ g=>g.below h,HS.out.2.2.2.2.2.mono h (by omega) fun _ _ g=>g⟩
  have HBl:=q7 hbl
  clear hbl
  go_wp2_with fail
  go_region_held3 (fun w'=>w'.cell? ⟨w.heap.size,3,none⟩=some (.slice (some ⟨bp,op,none⟩) x.blocks.length c)∧w'.cell? ⟨w.heap.size+1,3,none⟩=some (.slice (some ⟨bq,oq,none⟩) x.blocks.length d)∧w'.cell? ⟨bp,op+k*6,none⟩=some (.slice q1 x.blocks[k].phis.length c1)∧w'.cell? ⟨bp,op+k*6+1,none⟩=some (.slice q2 x.blocks[k].list.length c2)∧w'.cell? ⟨bp,op+k*6+2,none⟩=some (.int .i64 x.blocks[k].fin.kind)∧w'.cell? ⟨bp,op+k*6+3,none⟩=some (.bool x.blocks[k].fin.onr)∧w'.cell? ⟨bp,op+k*6+4,none⟩=some (.int .i64 x.blocks[k].fin.onn)∧w'.cell? ⟨bp,op+k*6+5,none⟩=some (.slice q3 x.blocks[k].fin.to.length c3)∧
    w'.cell? ⟨bq,oq+k*6,none⟩=some (.slice r1 x.blocks[k].phis.length d1)∧w'.cell? ⟨bq,oq+k*6+1,none⟩=some (.slice r2 x.blocks[k].list.length d2)∧w'.cell? ⟨bq,oq+k*6+2,none⟩=some (.int .i64 x.blocks[k].fin.kind)∧w'.cell? ⟨bq,oq+k*6+3,none⟩=some (.bool x.blocks[k].fin.onr)∧w'.cell? ⟨bq,oq+k*6+4,none⟩=some (.int .i64 x.blocks[k].fin.onn)∧w'.cell? ⟨bq,oq+k*6+5,none⟩=some (.slice r3 x.blocks[k].fin.to.length d3)) (go_keep)
   (first|(go_at_call 68;obtain⟨t1,t2,t3,t4,t5,t6⟩:=HBl.out wr.drew (Below.refl _ wr).drew;refine(Kk x.blocks[k] _ _ _ _ _ _ _ _ _ _ _ _ _ t1 t2 t3 t4 t5 t6).mono ?_;rintro e w2 ⟨rfl,hb2⟩;have hq1:=fun o=>hb2.cell (p:=⟨bp,o,none⟩) (by simpa using hz1);have hq2:=fun o=>hb2.cell (p:=⟨bq,o,none⟩) (by simpa using hz2);have hq5:=hb2.cell (p:=⟨w.heap.size,3,none⟩) (by simpa using za);have hq6:=hb2.cell (p:=⟨w.heap.size+1,3,none⟩) (by simpa using zb)))
  all_goals
   have HN:Hid (Below W0.heap.size W0 w2):=HBr.out.trans (Below.trans bZ (hb2.mono (by simp;exact HBr.out.size)))
   clear hb2 hq1 hq2 hq5 hq6
   go_wp2
   exact⟨⟨k+1,by omega,by go_num,HN.out⟩,by simp[intOf];omega⟩

theorem glosS {w:World} {p:Option Addr} {xs:List GloL} (h:SliceAt w 3 (GloR w) p xs) {i:Nat} (hi:i<xs.length):∃b o q c,p=some ⟨b,o,none⟩∧w.cell? ⟨b,o+i*3,none⟩=some (.string xs[i].name)∧w.cell? ⟨b,o+i*3+1,none⟩=some (.int .i64 xs[i].size)∧w.cell? ⟨b,o+i*3+2,none⟩=some (.slice q xs[i].init.length c)∧xs[i].init.length*8≤140737488351232∧SliceAt w 1 xC q xs[i].init:=by
 obtain⟨b,o,q,c,hp,h1,h2,h3,_,_,h4,h5⟩:=gloGet h (Below.refl _ _) hi
 exact⟨b,o,q,c,hp,h1,h2,h3,h4,h5⟩
theorem Je (xs:List GloL) (p q:Option Addr) (c d:Nat) (w:World) (hl:xs.length*48≤reachBytes) (hP:SliceAt w 3 (GloR w) p xs) (hQ:SliceAt w 3 (GloR w) q xs) :
  Calls Tryz.prog 35 #[.slice p xs.length c,.slice q xs.length d] w fun e w'=>e = .returned (.bool true)∧Below w.heap.size w w':=by
 have hlb:xs.length*48≤140737488351232:=hl
 have HP:=q7 hP
 have HQ:=q7 hQ
 clear hP hQ hl
 have hle:((xs.length:Int) != xs.length)=false:=by simp
 go_enter Tryz.func35,Tryz.ntmps35
 go_wp2_with fail
 go_loopw [5] (fun i wr=>∃k:Nat,k≤xs.length∧i = .int .i64 k∧Below w.heap.size w wr) (fun i _=>xs.length - (intOf i).toNat)
 case atStart=>exact⟨0,by omega,rfl,Below.refl _ _⟩
 case round=>
  obtain⟨k,hk,rfl,hb⟩:=hrel
  have HBr:=q7 hb
  clear hb
  by_cases hlt:k<xs.length
  ·obtain⟨bp,op,qa,ca,hp,e0,e1,e2,l1,s1⟩:=glosS (zS HP.out HBr.out) hlt
   obtain⟨bq,oq,qb,cb,hq,f0,f1,f2,l2,s2⟩:=glosS (zS HQ.out HBr.out) hlt
   subst hp hq
   have hz1:=q8 e0
   have hz2:=q8 f0
   have HS1:=q7 s1
   have HS2:=q7 s2
   clear s1 s2
   have g1:(0:Int)≤(k:Int):=by omega
   have g2:(k:Int)<xs.length:=by omega
   go_wp2_with fail
   go_region_held3 (fun w'=>w'.cell? ⟨bp,op+k*3,none⟩=some (.string xs[k].name)∧w'.cell? ⟨bp,op+k*3+1,none⟩=some (.int .i64 xs[k].size)∧w'.cell? ⟨bp,op+k*3+2,none⟩=some (.slice qa xs[k].init.length ca)∧w'.cell? ⟨bq,oq+k*3,none⟩=some (.string xs[k].name)∧w'.cell? ⟨bq,oq+k*3+1,none⟩=some (.int .i64 xs[k].size)∧w'.cell? ⟨bq,oq+k*3+2,none⟩=some (.slice qb xs[k].init.length cb)) (go_keep)
    (first|(go_at_call 67;refine(intsS xs[k].init _ _ _ _ _ l1 (HS1.out.mono bZ (by omega) fun _ _ h=>h) (HS2.out.mono bZ (by omega) fun _ _ h=>h)).mono ?_;rintro e w2 ⟨rfl,hb2⟩;have hq1:=fun o=>hb2.cell (p:=⟨bp,o,none⟩) (by simpa using hz1);have hq2:=fun o=>hb2.cell (p:=⟨bq,o,none⟩) (by simpa using hz2)))
   all_goals
    have HN:Hid (Below w.heap.size w w2):=HBr.out.trans (Below.trans bZ (hb2.mono (by simp;exact HBr.out.size)))
    clear hb2 hq1 hq2
    go_wp2
    exact⟨⟨k+1,by omega,by go_num,HN.out⟩,by simp[intOf];omega⟩
  obtain rfl:k=xs.length:=by omega
  go_wp2_with fail
  go_ret
  exact⟨rfl,HBr.out⟩
end Go.Proofs.YtecdphhdmjmmnaaGreatDoor
