/-
  The contracts of turneryref5.ManyOf and TooMuch.
-/
import Derived.Test.YtecdphhdmjmmnaaGreatDoorRndA
import Derived.Test.YtecdphhdmjmmnaaGreatDoorJTdoA
set_option maxRecDepth 100000
set_option maxHeartbeats 16000000
namespace Go.Proofs.YtecdphhdmjmmnaaGreatDoor
open Go.RowKit Go.Shelf

structure OutT (L O g c:Nat) (p1:Option Addr) (c1:Nat) (gl:List GloL) (xs:List FunL) (S1 S2:Blks) (W:World):Prop where
 out:W.heap[O]?=some (.cells #[.slice p1 gl.length c1,.slice (some ⟨g,0,none⟩) xs.length c] 25 (0,0))
 glo:SlQ 68 3 48 GloO W (.slice p1 gl.length c1) gl S1
 fn:SlO 37 4 FunO W (.slice (some ⟨g,0,none⟩) xs.length c) xs S2
 ap:Apart S1 S2
 l1:∀k,S1 k→L≤k∧k≠O
 l2:∀k,S2 k→L≤k∧k≠O
section
variable {L O g c c1 : Nat} {p1 : Option Addr} {gl : List GloL} {xs : List FunL} {S1 S2 : Blks} {W W' : World}
theorem OutT.lt (h:OutT L O g c p1 c1 gl xs S1 S2 W):O<W.heap.size:=q9 h.out
theorem OutT.put (h:OutT L O g c p1 c1 gl xs S1 S2 W) {xs':List FunL} {S2':Blks} (hL:L≤W.heap.size) (hl:xs'.length=xs.length) (hk:Kept S2 W W') (hs:SlO 37 4 FunO W' (.slice (some ⟨g,0,none⟩) xs.length c) xs' S2') (h2:∀b,S2' b→S2 b∨W.heap.size≤b):OutT L O g c p1 c1 gl xs' S1 S2' W':=by
 have zO:=h.lt
 refine⟨?_,⟨h.glo.sl.loc xF (fun b hb=>hk.block b (h.glo.sl.inb b hb) (h.ap b hb)) hk.size,h.glo.bd⟩,by rw[hl];exact hs,fun b x y=>?_,h.l1,fun b hb=>?_⟩
 ·rw[hl]
  exact(hk.block O zO fun hu=>(h.l2 O hu).2 rfl).trans h.out
 ·rcases h2 b y with z|z
  ·exact h.ap b x z
  have:=h.glo.sl.inb b x;omega
 rcases h2 b hb with z|z
 ·exact h.l2 b z
 omega
theorem OutT.below (h:OutT L O g c p1 c1 gl xs S1 S2 W) (hL:L≤W.heap.size) (hb:Below W.heap.size W W'):OutT L O g c p1 c1 gl xs S1 S2 W':=
 h.put hL rfl (Kept.of_below hb) (h.fn.below xl hb) fun _ hb=>.inl hb
theorem OutT.cO (h:OutT L O g c p1 c1 gl xs S1 S2 W):W.cell? ⟨O,0,none⟩=some (.slice p1 gl.length c1)∧W.cell? ⟨O,1,none⟩=some (.slice (some ⟨g,0,none⟩) xs.length c):=⟨(blk h.out).1 0,(blk h.out).1 1⟩
end

theorem XS {xs:List FunL} {m:Nat} (h:vA xs=some m):m<xs.length:=by
 unfold vA at h
 exact List.mem_range.1 (List.mem_of_find?_eq_some h)

def tlJ (j:Nat) (xs:List FunL):List FunL:=xs.mapIdx fun i f=>if i<j then tailF qQ i f else f
theorem xZ (j:Nat) (xs:List FunL):(tlJ j xs).length=xs.length:=by simp[tlJ]
theorem tlJ_zero (xs:List FunL):tlJ 0 xs=xs:=by
 refine List.ext_getElem (xZ _ _) fun i h1 h2=>?_
 simp[tlJ]
theorem tlJ_full (u:UniL):tlJ u.funcs.length u.funcs=(jq qQ u).funcs:=by
 refine List.ext_getElem (by rw[xZ,xW]) fun i h1 h2=>?_
 rw[xZ]at h1
 simp[tlJ,jq,h1]
theorem tlJ_at {j:Nat} {xs:List FunL} (h:j<xs.length):(tlJ j xs)[j]'(by rw[xZ];exact h)=xs[j]:=by simp[tlJ]
theorem Vl {j:Nat} {xs:List FunL} (h:j<xs.length):(tlJ j xs).set j (tailF qQ j xs[j])=tlJ (j+1) xs:=by
 refine List.ext_getElem (by rw[List.length_set,xZ,xZ]) fun i h1 h2=>?_
 rw[xZ]at h2
 rw[List.getElem_set]
 by_cases e:j=i
 ·subst e
  simp[tlJ]
 rw[if_neg e]
 have a1:∀m (hm:i<(tlJ m xs).length),(tlJ m xs)[i]=if i<m then tailF qQ i xs[i]else xs[i]:=fun m hm=>by simp[tlJ]
 rw[a1,a1]
 by_cases h3:i<j
 ·rw[if_pos h3,if_pos (by omega)]
 rw[if_neg h3,if_neg (by omega)]
theorem tlJ_stay {j:Nat} {xs:List FunL} (h:j<xs.length) (hs:tailF qQ j xs[j]=xs[j]):tlJ (j+1) xs=tlJ j xs:=by
 rw[←Vl h,hs,←tlJ_at h,List.set_getElem_self]
theorem funGetF {w w':World} {p:Option Addr} {xs:List FunL} (h:SliceAt w 4 (FunR w) p xs) (hb:Below w.heap.size w w') {i:Nat} (hi:i<xs.length) :
  ∃b o q c,p=some ⟨b,o,none⟩∧w'.cell? ⟨b,o+i*4,none⟩=some (.string xs[i].name)∧w'.cell? ⟨b,o+i*4+1,none⟩=some (.int .i64 xs[i].params)∧w'.cell? ⟨b,o+i*4+2,none⟩=some (.int .i64 xs[i].regs)∧w'.cell? ⟨b,o+i*4+3,none⟩=some (.slice q xs[i].blocks.length c)∧
   xs[i].name.size≤reachBytes∧SlF w' 6 96 (BlkR w') (.slice q xs[i].blocks.length c) xs[i].blocks:=by
 rcases h with rfl|⟨b,o,hp,h⟩
 ·simp at hi
 obtain⟨cs,_,hc,hr⟩:=h i hi
 obtain⟨v,rfl,w0,w1,w2,q,c,rfl,a1,a2,a3,a4⟩:=hr
 have h0:w.cell? ⟨b,o+i*4,none⟩=some (.string xs[i].name):=hc 0 (by omega)
 have hl:=q8 h0
 have g:∀j,j<4→w'.cell? ⟨b,o+i*4+j,none⟩=w.cell? ⟨b,o+i*4+j,none⟩:=fun j _=>hb.cell (p:=⟨b,_,none⟩) hl
 exact⟨b,o,q,c,hp,(g 0 (by omega)).trans h0,(g 1 (by omega)).trans (hc 1 (by omega)),(g 2 (by omega)).trans (hc 2 (by omega)),(g 3 (by omega)).trans (hc 3 (by omega)),w0,⟨q,c,rfl,a1,a2,a3,xp a4 hb⟩⟩

theorem fun_new {W W1:World} {g c k:Nat} {xs:List FunL} {S2 T':Blks} {f':FunL} {v:Value} (h:SlO 37 4 FunO W (.slice (some ⟨g,0,none⟩) xs.length c) xs S2) (hk:k<xs.length) (hb:Below W.heap.size W W1)
  (hf:FunO W1 [.string f'.name,.int .i64 f'.params,.int .i64 f'.regs,v] f' T') (hT:∀b,T' b→W.heap.size≤b∧b<W1.heap.size) :
  g<W.heap.size∧S2 g∧(∀o,W1.frozen? ⟨g,o,none⟩=false)∧(∀j,j<4→∃u,W1.cell? ⟨g,k*4+j,none⟩=some u)∧SlO 37 4 FunO (quad W1 g (k*4) (.string f'.name) (.int .i64 f'.params) (.int .i64 f'.regs) v) (.slice (some ⟨g,0,none⟩) xs.length c) (xs.set k f') (fun b=>S2 b∨T' b):=by
 obtain⟨g',c',cs',T0,hv',hmO,hqf,hcl',hF',hrR,hrS,hmP,hqh,⟨cur,hau⟩,hput⟩:=h.focus xl (by omega) hk
 obtain rfl:g=g':=by
  injection hv' with a
  injection a with a
  injection a
 obtain⟨v0,hcs,hnm,i1,i2,hB⟩:=hF'
 have hg1:=hb.block g hmO
 have hv:∃w2,v=w2:=⟨v,rfl⟩
 obtain⟨vv,hvv,n1,n2,n3,hBn⟩:=hf
 obtain rfl:v=vv:=by simpa using hvv
 have hK:=QJ W1 g (k*4) (.string f'.name) (.int .i64 f'.params) (.int .i64 f'.regs) v
 refine⟨hmO,hqf,fun o=>(World.frozen?_of_block (a:=⟨g,o,none⟩) hg1).trans (hqh o),fun j hj=>⟨_,((World.cell?_of_block (a:=⟨g,k*4+j,none⟩) hg1).trans (hmP j hj)).trans (List.getElem?_eq_getElem (by omega))⟩,?_⟩
 obtain⟨p0,d0,rfl,_⟩:=hBn.sl.val
 exact hput _ _ f' T' ((RowPut.same hau hg1 hmP).quad hcl' _ _ _ _) rfl (fun u hu=>by
   simp only[List.mem_cons,List.not_mem_nil,or_false]at hu
   rcases hu with rfl|rfl|rfl|rfl<;>rfl) (Nat.le_trans hb.size hK.size) (fun i h1 h2 h3=>(hK.block i (Nat.lt_of_lt_of_le (h.inb i h1) hb.size) h3).trans (hb.block i (h.inb i h1)))
  ⟨_,rfl,n1,n2,n3,⟨hBn.sl.kept qK hK (fun b h1 h2=>by have:=hT b h2;omega),hBn.bd⟩⟩ (fun b hb'=>⟨.inr (hT b hb').1,Nat.lt_of_lt_of_le (hT b hb').2 hK.size⟩)

theorem tld_bad (u:UniL) (gp fp:Option Addr) (gc fc:Nat) (w:World) (hgl:u.globals.length*48≤140737488351232) (hG:SliceAt w 3 (GloR w) gp u.globals) (hfl:u.funcs.length*56≤140737488351232) (hF:SliceAt w 4 (FunR w) fp u.funcs) (hw0:Ways w) (h:(chk u).1≠0) :
  Calls Tryz.prog 9 #[.agg #[.slice gp u.globals.length gc,.slice fp u.funcs.length fc]] w fun e w'=>e = .returned (.tuple #[.agg #[.slice none 0 0,.slice none 0 0],.agg #[.int .i64 (chk u).1,.int .i64 (chk u).2]])∧Below w.heap.size w w':=by
 have HG:=q7 hG
 have HF:=q7 hF
 have HW:=q7 hw0
 have hne:((chk u).1 == 0&&(chk u).2 == 0)=false:=by simp[h]
 have hq:∀w,(binOp .neq 27 (.agg #[.int .i64 (chk u).1,.int .i64 (chk u).2]) (.agg #[.int .i64 0,.int .i64 0])).run Tryz.prog w = .ok (.bool true) w:=fun w=>by rw[xy,hne];rfl
 clear hG hF hw0 h hne
 go_enter Tryz.func9,Tryz.ntmps9
 go_wp2_with fail
 refine(vZ u _ _ _ _ _ hgl (jw HG.out bZ) hfl (jx HF.out bZ) (HW.out.below bZ)).mono ?_
 rintro e w1 ⟨rfl,hb1⟩
 have HB1:Hid (Below w.heap.size w w1):=Below.trans bZ (hb1.mono (by simp;omega))
 have hR:=qg hb1 (k:=w.heap.size+1) (by simp) (qj (qh (w:=w.alloc (.cells #[.slice gp u.globals.length gc,.slice fp u.funcs.length fc] 25)) (o:=.cells #[.slice none 0 0,.slice none 0 0] 25) (by simp)))
 have hR2:=qg hb1 (k:=w.heap.size+1+1) (by simp) (qh (w:=(w.alloc (.cells #[.slice gp u.globals.length gc,.slice fp u.funcs.length fc] 25)).alloc (.cells #[.slice none 0 0,.slice none 0 0] 25)) (o:=.cells #[.int .i64 0,.int .i64 0] 27) (by simp))
 obtain⟨hcc,hcf⟩:=blk hR
 obtain⟨hjx,hjy⟩:=blk hR2
 have z1:=q9 hR
 have z2:=q9 hR2
 clear hb1
 go_wp2_with fail
 go_region
 all_goals go_wp2
 all_goals
  refine bodyPost_ret (v:=.tuple #[.agg #[.slice none 0 0,.slice none 0 0],.agg #[.int .i64 (chk u).1,.int .i64 (chk u).2]]) ?_ rfl ⟨rfl,?_⟩
  ·simp[results,Tryz.results9,go_sem, *]
  exact bZ

theorem tld_ret {w W:World} {c1 c2:Nat} {p1 p2:Option Addr} {a:Act} {x:UniL} {S:Blks} {A0 A1 B0 B1:Value} {G F:Nat} (hR:W.heap[w.heap.size+1]?=some (.cells #[A0,A1] 25 (0,0))) (hE:W.heap[w.heap.size+1+1]?=some (.cells #[B0,B1] 27 (0,0)))
  (h2:a.tmps[2]?.getD undef = .pointer (some ⟨w.heap.size+1,0,none⟩)) (h3:a.tmps[3]?.getD undef = .pointer (some ⟨w.heap.size+1+1,0,none⟩)) (hd:a.defers=[]) (hb:Below w.heap.size w W) (hS:UniO W [.slice p1 G c1,.slice p2 F c2] x S) (hL:∀i,S i→w.heap.size+1+1<i) :
  bodyPost Tryz.prog Tryz.f9 (fun e w'=>(∃p1 c1 p2 c2,e = .returned (.tuple #[.agg #[.slice p1 G c1,.slice p2 F c2],.agg #[.int .i64 0,.int .i64 0]])∧∃S,UniO w' [.slice p1 G c1,.slice p2 F c2] x S∧LoB w.heap.size S)∧Below w.heap.size w w') .ret a
   ((((W.setCell ⟨w.heap.size+1,0,none⟩ (.slice p1 G c1)).setCell ⟨w.heap.size+1,1,none⟩ (.slice p2 F c2)).setCell ⟨w.heap.size+1+1,0,none⟩ (.int .i64 0)).setCell ⟨w.heap.size+1+1,1,none⟩ (.int .i64 0)):=by
 obtain⟨WF,hWF⟩:∃WF,WF=(((W.setCell ⟨w.heap.size+1,0,none⟩ (.slice p1 G c1)).setCell ⟨w.heap.size+1,1,none⟩ (.slice p2 F c2)).setCell ⟨w.heap.size+1+1,0,none⟩ (.int .i64 0)).setCell ⟨w.heap.size+1+1,1,none⟩ (.int .i64 0):=⟨_,rfl⟩
 rw[←hWF]
 have hK:Kept (fun i=>i=w.heap.size+1∨i=w.heap.size+1+1) W WF:=by
  rw[hWF]
  have h0:Kept (fun i=>i=w.heap.size+1∨i=w.heap.size+1+1) W W:=Kept.refl _ _
  have h1:=h0.setCell (p:=⟨w.heap.size+1,0,none⟩) (.inl rfl) (.slice p1 G c1)
  have h2:=h1.setCell (p:=⟨w.heap.size+1,1,none⟩) (.inl rfl) (.slice p2 F c2)
  have h3:=h2.setCell (p:=⟨w.heap.size+1+1,0,none⟩) (.inr rfl) (.int .i64 0)
  exact h3.setCell (p:=⟨w.heap.size+1+1,1,none⟩) (.inr rfl) (.int .i64 0)
 have hRA:WF.heap[w.heap.size+1]?=some (.cells #[.slice p1 G c1,.slice p2 F c2] 25 (0,0)):=by
  rw[hWF,Go.Deep.blk_setCell_other _ ⟨w.heap.size+1+1,1,none⟩ _ _ (by show w.heap.size+1≠w.heap.size+1+1;omega),Go.Deep.blk_setCell_other _ ⟨w.heap.size+1+1,0,none⟩ _ _ (by show w.heap.size+1≠w.heap.size+1+1;omega),qd (qd hR 0 _) 1 _]
  rfl
 have hRE:WF.heap[w.heap.size+1+1]?=some (.cells #[.int .i64 0,.int .i64 0] 27 (0,0)):=by
  have h0:((W.setCell ⟨w.heap.size+1,0,none⟩ (.slice p1 G c1)).setCell ⟨w.heap.size+1,1,none⟩ (.slice p2 F c2)).heap[w.heap.size+1+1]?=some (.cells #[B0,B1] 27 (0,0)):=by
   rw[Go.Deep.blk_setCell_other _ ⟨w.heap.size+1,1,none⟩ _ _ (by show w.heap.size+1+1≠w.heap.size+1;omega),Go.Deep.blk_setCell_other _ ⟨w.heap.size+1,0,none⟩ _ _ (by show w.heap.size+1+1≠w.heap.size+1;omega)]
   exact hE
  rw[hWF,qd (qd h0 0 _) 1 _]
  rfl
 clear hWF
 obtain⟨ra,_⟩:=blk hRA
 obtain⟨re,_⟩:=blk hRE
 have ra0:=ra 0
 have ra1:=ra 1
 have re0:=re 0
 have re1:=re 1
 simp only[List.getElem?_toArray,List.getElem?_cons_zero,List.getElem?_cons_succ]at ra0 ra1 re0 re1
 have hz:=q9 hE
 refine bodyPost_ret (v:=.tuple #[.agg #[.slice p1 G c1,.slice p2 F c2],.agg #[.int .i64 0,.int .i64 0]]) ?_ hd ⟨⟨p1,c1,p2,c2,rfl,S,?_,fun i hi=>?_⟩,?_⟩
 ·simp[results,Tryz.results9,go_sem,h2,h3,ra0,ra1,re0,re1]
 ·obtain⟨v1,v2,S1,S2,h0,h1,h2,h3,g1,g2⟩:=hS
  exact⟨v1,v2,S1,S2,h0,⟨h1.sl.kept xF hK (fun i a b=>by have:=hL i (g1 i b);omega),h1.bd⟩,⟨h2.sl.kept xl hK (fun i a b=>by have:=hL i (g2 i b);omega),h2.bd⟩,h3,g1,g2⟩
 ·have:=hL i hi
  omega
 exact hb.trans (hK.below hb.size (fun i e=>by omega))

theorem tld_ok (u:UniL) (gp fp:Option Addr) (gc fc:Nat) (w:World) (hgl:u.globals.length*48≤140737488351232) (hG:SlF w 3 48 (GloR w) (.slice gp u.globals.length gc) u.globals) (hfl:u.funcs.length*56≤140737488351232) (hF:SlF w 4 56 (FunR w) (.slice fp u.funcs.length fc) u.funcs) (hw0:Ways w) (h:(chk u).1=0) :
  Calls Tryz.prog 9 #[.agg #[.slice gp u.globals.length gc,.slice fp u.funcs.length fc]] w fun e w'=>(∃p1 c1 p2 c2,e = .returned (.tuple #[.agg #[.slice p1 u.globals.length c1,.slice p2 u.funcs.length c2],.agg #[.int .i64 0,.int .i64 0]])∧
   ∃S,UniO w' [.slice p1 u.globals.length c1,.slice p2 u.funcs.length c2] (xt (jq qQ (xt u))) S∧LoB w.heap.size S)∧Below w.heap.size w w':=by
 have hG':SliceAt w 3 (GloR w) gp u.globals:=by
  obtain⟨p,c,e,_,_,h⟩:=hG.outC
  cases e
  exact h
 have hF':SliceAt w 4 (FunR w) fp u.funcs:=by
  obtain⟨p,c,e,_,_,h⟩:=hF.outC
  cases e
  exact h
 have HGs:=q7 hG
 have HFs:=q7 hF
 have HG:=q7 hG'
 have HF:=q7 hF'
 have HW:=q7 hw0
 have HH:=q7 h
 have hck:=(k5 h).2
 obtain⟨hvc,hvk⟩:=hck.tidy
 obtain⟨V,hV⟩:∃V,V=xt u:=⟨_,rfl⟩
 rw[←hV]at hvc hvk
 have hVl:V.funcs.length=u.funcs.length:=by rw[hV];simp[xt]
 have hVg:V.globals=u.globals:=by rw[hV];rfl
 have hpos:0<u.funcs.length:=by
  obtain⟨m,hm,_⟩:=hck.main
  exact Nat.lt_of_le_of_lt (Nat.zero_le _) (XS hm)
 have hmQ:V5 qQ:=fun f hp b hb=>by
  cases e:f.blocks.any VZ with
  | true=>rw[ZJ e]at hp;cases hp
  | false=>exact(QI e).1 b hb
 have HVk:=q7 hvk
 have HVc:=q7 (show(chk V).1=0 by rw[hvc])
 have HV:=q7 hV
 have HVl:=q7 hVl
 have HVg:=q7 hVg
 have HPl:=q7 hmQ
 have hne:((chk u).1 == 0&&(chk u).2 == 0)=true:=by rw[(k5 h).1];rfl
 have hq:∀w,(binOp .neq 27 (.agg #[.int .i64 (chk u).1,.int .i64 (chk u).2]) (.agg #[.int .i64 0,.int .i64 0])).run Tryz.prog w = .ok (.bool false) w:=fun w=>by rw[xy,hne];rfl
 have hq0:∀w,(binOp .neq 27 (.agg #[.int .i64 0,.int .i64 0]) (.agg #[.int .i64 0,.int .i64 0])).run Tryz.prog w = .ok (.bool false) w:=fun w=>by rw[xy];rfl
 clear hG hF hG' hF' hw0 h hne hck hvc hvk hV hVl hVg hmQ
 go_enter Tryz.func9,Tryz.ntmps9
 go_wp2_with fail
 refine(vZ u _ _ _ _ _ hgl (jw HG.out bZ) hfl (jx HF.out bZ) (HW.out.below bZ)).mono ?_
 rintro e w1 ⟨rfl,hb1⟩
 have HB1:Hid (Below w.heap.size w w1):=Below.trans bZ (hb1.mono (by simp;omega))
 have hU:=qg hb1 (k:=w.heap.size) (by simp;omega) (qj (qj (qm w _)))
 have hR:=qg hb1 (k:=w.heap.size+1) (by simp) (qj (qh (w:=w.alloc (.cells #[.slice gp u.globals.length gc,.slice fp u.funcs.length fc] 25)) (o:=.cells #[.slice none 0 0,.slice none 0 0] 25) (by simp)))
 have hR2:=qg hb1 (k:=w.heap.size+1+1) (by simp) (qh (w:=(w.alloc (.cells #[.slice gp u.globals.length gc,.slice fp u.funcs.length fc] 25)).alloc (.cells #[.slice none 0 0,.slice none 0 0] 25)) (o:=.cells #[.int .i64 0,.int .i64 0] 27) (by simp))
 have HU:=q7 hU
 have HR:=q7 hR
 have HR2:=q7 hR2
 obtain⟨hcu,hfu⟩:=blk hU
 have zu:=q9 hU
 have z1:=q9 hR
 have z2:=q9 hR2
 clear hb1 hR hR2 hU
 go_wp2_with fail
 obtain⟨w2,hw2⟩:∃w2,w2=w1.alloc (.cells #[.int .i64 (chk u).1,.int .i64 (chk u).2] 27):=⟨_,rfl⟩
 rw[←hw2]
 have hb2:Below w1.heap.size w1 w2:=by rw[hw2];exact bZ
 have HB2:=q7 hb2
 have haK:=q7 (HB1.out.trans (hb2.mono (by omega)))
 clear hw2 hb2
 have hgm:=SlF.mono HGs.out haK.out (by omega) fun _ _ h=>h.below haK.out
 have hfm:=SlF.mono HFs.out haK.out (by omega) fun _ _ h=>h.below haK.out
 refine(tdo_ok u gp fp gc fc w2 hgl hgm hfl hfm (HW.out.below haK.out) HH.out).mono ?_
 rintro e w3 ⟨⟨p1,c1,p2,c2,rfl,S,hS,hL⟩,hb3⟩
 have hz2:=HB2.out.size
 have hU:=(hb3.block _ (by omega)).trans ((HB2.out.block _ zu).trans HU.out)
 have hR:=(hb3.block _ (by omega)).trans ((HB2.out.block _ z1).trans HR.out)
 have hR2:=(hb3.block _ (by omega)).trans ((HB2.out.block _ z2).trans HR2.out)
 have HU3:=q7 hU
 have HR3:=q7 hR
 have HE3:=q7 hR2
 rw[←HV.out,←HVl.out,←HVg.out]at hS
 rw[←HVl.out,←HVg.out]
 have HS:=q7 hS
 have HL:=q7 (show ∀i,S i→w2.heap.size≤i from hL)
 have HB3:=q7 (haK.out.trans (hb3.mono haK.out.size))
 have hz3:=hb3.size
 have hnB:w.heap.size+1+1<w2.heap.size:=by omega
 obtain⟨ub,uf⟩:=blk hU
 have ub0:=ub 0
 have ub1:=ub 1
 have uz:=q9 hU
 simp only[List.getElem?_toArray,List.getElem?_cons_zero,List.getElem?_cons_succ]at ub0 ub1
 clear hS hL hb3 hgm hfm hR hR2 hU ub hcu hfu zu z1 z2 HU HR HR2 HB2 haK
 go_wp2_with fail
 obtain⟨W4,hW4⟩:∃W4,W4=((w3.setCell ⟨w.heap.size,0,none⟩ (.slice p1 V.globals.length c1)).setCell ⟨w.heap.size,1,none⟩ (.slice p2 V.funcs.length c2)).alloc (.cells #[.int .i64 0,.int .i64 0] 27):=⟨_,rfl⟩
 rw[←hW4]
 have hk4:Kept (fun b=>b=w.heap.size) w3 W4:=by
  rw[hW4]
  exact(((Kept.refl (fun b=>b=w.heap.size) w3).setCell (p:=⟨w.heap.size,0,none⟩) rfl _).setCell (p:=⟨w.heap.size,1,none⟩) rfl _).alloc _
 have hU4:W4.heap[w.heap.size]?=some (.cells #[.slice p1 V.globals.length c1,.slice p2 V.funcs.length c2] 25 (0,0)):=by rw[hW4];exact qj (qd (qd HU3.out 0 _) 1 _)
 have hb4:Below w.heap.size w W4:=HB3.out.trans (hk4.below HB3.out.size (fun b e=>by omega))
 have hR4:=(hk4.block _ (q9 HR3.out) (by omega)).trans HR3.out
 have hE4:=(hk4.block _ (q9 HE3.out) (by omega)).trans HE3.out
 have hS4:UniO W4 [.slice p1 V.globals.length c1,.slice p2 V.funcs.length c2] V S:=by
  obtain⟨v1,v2,S1,S2,h0,h1,h2,h3,g1,g2⟩:=HS.out
  exact⟨v1,v2,S1,S2,h0,⟨h1.sl.kept xF hk4 (fun i a b=>by have:=HL.out i (g1 i b);omega),h1.bd⟩,⟨h2.sl.kept xl hk4 (fun i a b=>by have:=HL.out i (g2 i b);omega),h2.bd⟩,h3,g1,g2⟩
 obtain⟨hvg,hvf⟩:SlF W4 3 48 (GloR W4) (.slice p1 V.globals.length c1) V.globals∧SlF W4 4 56 (FunR W4) (.slice p2 V.funcs.length c2) V.funcs:=by
  obtain⟨v1,v2,h0,h1,h2⟩:=hS4.read
  simp only[List.cons.injEq,and_true]at h0
  obtain⟨rfl,rfl⟩:=h0
  exact⟨h1,h2⟩
 have hmR:SliceAt W4 3 (GloR W4) p1 V.globals:=by
  obtain⟨p,c,e,_,_,h⟩:=hvg.outC
  cases e
  exact h
 have hmS:SliceAt W4 4 (FunR W4) p2 V.funcs:=by
  obtain⟨p,c,e,_,_,h⟩:=hvf.outC
  cases e
  exact h
 have HU4:=q7 hU4
 have HR4:=q7 hR4
 have HE4:=q7 hE4
 have HB4:=q7 hb4
 have hqp:=q7 hmR
 have hmT:=q7 hmS
 have HVq:=q7 (And.intro hvg hvf)
 have hmU:V.globals.length*48≤140737488351232:=hvg.bdC
 have hmV:V.funcs.length*56≤140737488351232:=hvf.bdC
 have hz4:w.heap.size+1+1<W4.heap.size:=q9 hE4
 clear hW4 hk4 hU4 hb4 hR4 hE4 hS4 hvg hvf hmR hmS HU3 HR3 HE3 HS HL HB3 HB1 ub0 ub1 uf uz hz2 hz3
 refine(copy_any V p1 p2 c1 c2 W4 HVq.out.1 HVq.out.2).mono ?_
 rintro e w5 ⟨⟨q1,d1,q2,d2,rfl,S,hS,hL⟩,hb5⟩
 obtain⟨v1,v2,S1,S2,h0,h1,h2,h3,g1,g2⟩:=hS
 simp only[List.cons.injEq,and_true]at h0
 obtain⟨rfl,rfl⟩:=h0
 obtain⟨g,c,_,_,hvq,hgz,_⟩:=h2.sl.focus xl (by omega) (i:=0) (by rw[HVl.out];exact hpos)
 obtain⟨rfl,rfl⟩:q2=some ⟨g,0,none⟩∧d2=c:=by injection hvq with h1 _ h2;exact⟨h1,h2⟩
 have hz5:=hb5.size
 have hU5:=(hb5.block _ (q9 HU4.out)).trans HU4.out
 obtain⟨ub,uf⟩:=blk hU5
 have ub0:=ub 0
 have ub1:=ub 1
 have uz:=q9 hU5
 simp only[List.getElem?_toArray,List.getElem?_cons_zero,List.getElem?_cons_succ]at ub0 ub1
 have HU5:=q7 hU5
 have HB5:=q7 hb5
 have H1:=q7 h1
 have H2:=q7 h2
 have H3:=q7 h3
 have HG:=q7 (show(∀b,S1 b→W4.heap.size≤b)∧∀b,S2 b→W4.heap.size≤b from⟨fun b hb=>hL b (g1 b hb),fun b hb=>hL b (g2 b hb)⟩)
 clear h1 h2 h3 g1 g2 hL hvq hb5 hU5 ub hgz
 go_wp2_with fail
 obtain⟨O,hO⟩:∃O,O=w5.heap.size:=⟨_,rfl⟩
 rw[←hO]
 obtain⟨W6,hW6⟩:∃W6,W6=w5.alloc (.cells #[.slice q1 V.globals.length d1,.slice (some ⟨g,0,none⟩) V.funcs.length d2] 25):=⟨_,rfl⟩
 rw[←hW6]
 have hgI:Below w5.heap.size w5 W6:=by rw[hW6];exact bZ
 have hOT:OutT W4.heap.size O g d2 q1 d1 V.globals (tlJ 0 V.funcs) S1 S2 W6:=by
  rw[tlJ_zero]
  exact⟨by rw[hW6,hO];exact qh rfl,⟨H1.out.sl.below xF hgI,H1.out.bd⟩,H2.out.sl.below xl hgI,H3.out,fun b hb=>⟨HG.out.1 b hb,by have:=H1.out.sl.inb b hb;omega⟩,fun b hb=>⟨HG.out.2 b hb,by have:=H2.out.sl.inb b hb;omega⟩⟩
 have hmW:Below W4.heap.size W4 W6:=HB5.out.trans (hgI.mono hz5)
 have HOT:=q7 hOT
 have HB6:=q7 hmW
 have HBd:=q7 (And.intro H1.out.bd H2.out.bd)
 clear hW6 hgI hOT hmW hO H1 H2 H3 HG HU5 HB5 ub0 ub1 uf uz hz5
 go_loopg [32] V.funcs.length (fun qq i wr=>∃(j:Nat) (S2':Blks),j≤V.funcs.length∧qq=V.funcs.length - j∧i = .int .i64 j∧OutT W4.heap.size O g d2 q1 d1 V.globals (tlJ j V.funcs) S1 S2' wr∧Below W4.heap.size W4 wr)
 case atStart=>exact⟨0,S2,by omega,rfl,rfl,HOT.out,HB6.out⟩
 case round=>
  obtain⟨j,S2',hj,rfl,rfl,hT,hb⟩:=hrel
  obtain⟨wo,hwo⟩:∃wo,wo=wr:=⟨_,rfl⟩
  subst hwo
  have hzo:=hb.size
  have hUo:=(hb.block _ (q9 HU4.out)).trans HU4.out
  obtain⟨ub,uf⟩:=blk hUo
  have ub0:=ub 0
  have ub1:=ub 1
  have uz:=q9 hUo
  simp only[List.getElem?_toArray,List.getElem?_cons_zero,List.getElem?_cons_succ]at ub0 ub1
  have HT:=q7 hT
  have HB:=q7 hb
  have HUo:=q7 hUo
  clear hT hb hUo ub
  by_cases hlt:j<V.funcs.length
  rotate_left
  ·obtain rfl:j=V.funcs.length:=by omega
   have hTf:=HT.out
   rw[tlJ_full]at hTf
   have hcO:=(HVk.out.tail HPl.out).1
   have hbq:V.funcs.length*56≤reachBytes:=HBd.out.2
   have hff:SlF wo 4 56 (FunR wo) (.slice (some ⟨g,0,none⟩) (jq qQ V).funcs.length d2) (jq qQ V).funcs:=(SlQ.mk (bytes:=56) hTf.fn (by rw[xW];exact hbq)).read xl (by omega) fun _ _ _ h=>h.read
   have hgg:SlF wo 3 48 (GloR wo) (.slice q1 (jq qQ V).globals.length d1) (jq qQ V).globals:=hTf.glo.read xF (by omega) fun _ _ _ h=>h.read
   have htd:=tdo_ok (jq qQ V) q1 (some ⟨g,0,none⟩) d1 d2 wo hmU hgg (by rw[xW];exact hmV) hff (HW.out.below (HB4.out.trans (HB.out.mono HB4.out.size))) (by rw[hcO])
   rw[xW,show(jq qQ V).globals=V.globals from rfl]at htd
   obtain⟨o0,o1⟩:=hTf.cO
   rw[xW]at o1
   have oz:=hTf.lt
   have hRo:=(HB.out.block _ (q9 HR4.out)).trans HR4.out
   have hEo:=(HB.out.block _ (q9 HE4.out)).trans HE4.out
   have HTd:=q7 htd
   have HRo:=q7 hRo
   have HEo:=q7 hEo
   clear hTf hcO hff hgg htd hRo hEo
   go_wp2_with fail
   refine HTd.out.mono ?_
   rintro e w9 ⟨⟨r1,e1,r2,e2,rfl,S9,hS9,hL9⟩,hb9⟩
   have hz9:=hb9.size
   have hR9:=(hb9.block _ (q9 HRo.out)).trans HRo.out
   have hE9:=(hb9.block _ (q9 HEo.out)).trans HEo.out
   obtain⟨ab,af⟩:=blk hR9
   have ab0:=ab 0
   have ab1:=ab 1
   have az:=q9 hR9
   obtain⟨eb,ef⟩:=blk hE9
   have eb0:=eb 0
   have eb1:=eb 1
   have ez:=q9 hE9
   simp only[List.getElem?_toArray,List.getElem?_cons_zero,List.getElem?_cons_succ]at ab0 ab1 eb0 eb1
   have HS9:=q7 hS9
   have HL9:=q7 (show ∀i,S9 i→wo.heap.size≤i from hL9)
   have HB9:=q7 ((HB4.out.trans (HB.out.mono HB4.out.size)).trans (hb9.mono (by have:=HB4.out.size;omega)))
   have HR9:=q7 hR9
   have HE9:=q7 hE9
   clear hS9 hL9 hb9 hR9 hE9 ab eb
   go_wp2_with fail
   rw[←HV.out,←HVl.out,←HVg.out]
   exact tld_ret HR9.out HE9.out rfl rfl rfl HB9.out HS9.out (fun i hi=>by have:=HL9.out i hi;omega)
  have hpl:=K3 V p1 p2 c1 c2 j wo hmU (jw hqp.out HB.out) hmV (jx hmT.out HB.out) (HW.out.below (HB4.out.trans (HB.out.mono HB4.out.size))) HVc.out hlt
  have hsu:=Vl hlt
  have hst:=tlJ_stay hlt
  have hat:=tlJ_at hlt
  have hfc:=HVk.out.funC hlt
  have hpu:QP V j=V.funcs[j].params:=Jl hlt
  obtain⟨fb,fo,q,cq,hp2,f0,f1,f2,f3,hnm,hsl⟩:=funGetF hmT.out HB.out hlt
  subst hp2
  have fz:=q8 f0
  have HPa:=q7 hpl
  have HSu:=q7 hsu
  have HSt:=q7 hst
  have HAt:=q7 hat
  have HFc:=q7 hfc
  have HPu:=q7 hpu
  have HSl:=q7 hsl
  generalize hf:V.funcs[j]=f at *
  obtain⟨pl,hpe⟩:∃pl,pl=qQ f:=⟨_,rfl⟩
  rw[←hpe]at HPa
  have HPe:=q7 hpe
  clear hpl hsu hst hat hfc hpu hsl hpe
  cases pl
  ·go_wp2_with (go_at_call 22;refine HPa.out.mono ?_;rintro e w7 ⟨rfl,hb7⟩;have HB7:=q7 hb7;clear hb7)
   have htf:tailF qQ j f=f:=by unfold tailF;rw[if_neg (fun h=>by rw[←HPe.out]at h;exact absurd h.1 (by decide))]
   have hj1:=HSt.out htf
   have HJ1:=q7 hj1
   clear htf hj1
   go_roundg (V.funcs.length - (j+1))
   case measure=>omega
   case rel=>exact⟨j+1,S2',by omega,rfl,by go_num,by rw[HJ1.out];exact HT.out.below (by omega) HB7.out,HB.out.trans (HB7.out.mono HB.out.size)⟩
  go_wp2_with fail
  refine HPa.out.mono ?_
  rintro e w7 ⟨rfl,hb7⟩
  have z7:=hb7.size
  have f0:=(hb7.cell (q8 f0)).trans f0
  have f1:=(hb7.cell (q8 f1)).trans f1
  have f2:=(hb7.cell (q8 f2)).trans f2
  have f3:=(hb7.cell (q8 f3)).trans f3
  have ub1:=(hb7.cell (q8 ub1)).trans ub1
  have uz:w.heap.size<w7.heap.size:=by omega
  have fz:fb<w7.heap.size:=by omega
  have HB7:=q7 hb7
  have hmX:SlF w7 6 96 (BlkR w7) (.slice q f.blocks.length cq) f.blocks:=SlF.mono HSl.out hb7 (by omega) fun _ _ h=>h.below hb7
  have hqr:=q7 hmX
  have HT7:=q7 (HT.out.below (by omega) hb7)
  have hfP:=q7 (HB.out.trans (hb7.mono HB.out.size))
  clear hb7 hmX
  go_wp2_with fail
  refine(round_any f j HFc.out HPu.out q cq w7 hnm hqr.out).mono ?_
  rintro e w8 ⟨hb8,hr⟩
  have z8:=hb8.size
  have HT8:=q7 (HT7.out.below (by omega) hb8)
  have HB8:=q7 hb8
  have hdT:=q7 (hfP.out.trans (hb8.mono hfP.out.size))
  clear hb8
  rcases hr with⟨hm,rfl⟩|⟨hm,p9,c9,T9,rfl,hF9,hL9⟩
  ·have htf:tailF qQ j f=f:=by unfold tailF;rw[if_neg (fun h=>by rw[hm]at h;exact absurd h.2 (by decide))]
   have hj1:=HSt.out htf
   have HJ1:=q7 hj1
   clear htf hj1 hm
   go_wp2_with fail
   go_roundg (V.funcs.length - (j+1))
   case measure=>omega
   case rel=>
    have hba:Below w8.heap.size w8 (w8.alloc (.cells #[.string f.name,.int .i64 f.params,.int .i64 f.regs,.slice q f.blocks.length cq] 37)):=(Below.refl _ w8).alloc (Nat.le_refl _) _
    exact⟨j+1,S2',by omega,rfl,by go_num,by rw[HJ1.out];exact HT8.out.below (by omega) hba,hdT.out.trans (hba.mono hdT.out.size)⟩
  have htf:tailF qQ j f=zm j f:=by unfold tailF;rw[if_pos ⟨HPe.out.symm,hm⟩]
  have hsu:=HSu.out
  rw[htf]at hsu
  have hjl:j<(tlJ j V.funcs).length:=by rw[xZ];exact hlt
  have h9i:∀b,T9 b→b<w8.heap.size:=by
   obtain⟨v,_,_,_,_,h4⟩:=hF9
   exact fun b hb=>h4.sl.inb b hb
  obtain⟨hgz,hSg,hfr,hce,hnew⟩:=fun_new (k:=j) (f':=zm j f) (v:=.slice p9 (f.blocks.length+1) c9) (T':=T9) HT7.out.fn hjl HB8.out hF9 (fun b hb=>⟨hL9 b hb,h9i b hb⟩)
  obtain⟨u0,hu0⟩:=hce 0 (by omega)
  obtain⟨u1,hu1⟩:=hce 1 (by omega)
  obtain⟨u2,hu2⟩:=hce 2 (by omega)
  obtain⟨u3,hu3⟩:=hce 3 (by omega)
  rw[Nat.add_zero]at hu0
  have hrT:g<w8.heap.size:=by omega
  obtain⟨_,o1⟩:=HT8.out.cO
  rw[xZ]at o1
  have oz:=HT8.out.lt
  rw[hsu]at hnew
  have hfin:OutT W4.heap.size O g d2 q1 d1 V.globals (tlJ (j+1) V.funcs) S1 (fun b=>S2' b∨T9 b) (quad w8 g (j*4) (.string f.name) (.int .i64 f.params) (.int .i64 (f.regs+f.params)) (.slice p9 (f.blocks.length+1) c9))∧Below W4.heap.size W4 (quad w8 g (j*4) (.string f.name) (.int .i64 f.params) (.int .i64 (f.regs+f.params)) (.slice p9 (f.blocks.length+1) c9)):=by
   have hK:=QJ w8 g (j*4) (.string f.name) (.int .i64 f.params) (.int .i64 (f.regs+f.params)) (.slice p9 (f.blocks.length+1) c9)
   refine⟨HT7.out.put (by omega) (by rw[xZ,xZ]) ((Kept.of_below (S:=S2') HB8.out).trans hK (fun b _ e=>by rw[e];exact hSg)) hnew (fun b hb=>hb.imp id fun h=>hL9 b h),hdT.out.trans (hK.below (by omega) (fun b e=>?_))⟩
   rw[e]
   exact(HT7.out.l2 g hSg).1
  have HFin:=q7 hfin
  clear hfin hnew hce hsu hjl hF9 hL9 h9i htf hm
  go_wp2_with fail
  go_roundg (V.funcs.length - (j+1))
  case measure=>omega
  case rel=>
   have hza:=HFin.out.2.size
   have hba:=(Below.refl (quad w8 g (j*4) (.string f.name) (.int .i64 f.params) (.int .i64 (f.regs+f.params)) (.slice p9 (f.blocks.length+1) c9)).heap.size (quad w8 g (j*4) (.string f.name) (.int .i64 f.params) (.int .i64 (f.regs+f.params)) (.slice p9 (f.blocks.length+1) c9))).alloc (Nat.le_refl _) (.cells #[.string f.name,.int .i64 f.params,.int .i64 (f.regs+f.params),.slice p9 (f.blocks.length+1) c9] 37)
   exact⟨j+1,fun b=>S2' b∨T9 b,by omega,rfl,by go_num,HFin.out.1.below hza hba,HFin.out.2.trans (hba.mono hza)⟩
end Go.Proofs.YtecdphhdmjmmnaaGreatDoor
namespace Go.Proofs.YtecdphhdmjmmnaaGreatDoor
open Go.RowKit

theorem none_none (w:World):Calls Tryz.prog 11 #[.agg #[.slice none 0 0,.slice none 0 0]] w fun e w'=>e = .returned (.bool true)∧Below w.heap.size w w':=by
 go_enter Tryz.func11,Tryz.ntmps11
 go_wp2_with fail
 go_ret
 exact⟨rfl,by exact bZ⟩
end Go.Proofs.YtecdphhdmjmmnaaGreatDoor
namespace Go.Proofs.YtecdphhdmjmmnaaGreatDoor
open Go.RowKit Go.Shelf

theorem jX:V5 qQ:=fun f hp b hb=>by
 cases e:f.blocks.any VZ with
 | true=>rw[ZJ e]at hp;cases hp
 | false=>exact(QI e).1 b hb
def TlO (u:UniL) (V:List FunL):Prop:=ChkOk u∧V=(xt (jq qQ (xt u))).funcs
theorem TlO.len {u:UniL} {V:List FunL} (h:TlO u V):V.length=u.funcs.length:=by
 rw[h.2]
 simp[xt,jq]
theorem TlO.eq {u:UniL} {V:List FunL} (h:TlO u V):({ globals:=u.globals,funcs:=V }:UniL)=xt (jq qQ (xt u)):=by
 rw[h.2]
 rfl
theorem TlO.okY {u:UniL} {V:List FunL} (h:TlO u V):ChkOk (jq qQ (xt u)):=(h.1.tidy.2.tail jX).2
theorem TlO.ok {u:UniL} {V:List FunL} (h:TlO u V):chk { globals:=u.globals,funcs:=V }=(0,0):=by
 rw[h.eq]
 exact h.okY.tidy.1
def TlG (u:UniL) (V:List FunL) (e:Ending) (w':World):Prop:=∃p1 c1 p2 c2,e = .returned (.tuple #[.agg #[.slice p1 u.globals.length c1,.slice p2 u.funcs.length c2],.agg #[.int .i64 0,.int .i64 0]])∧SlF w' 3 48 (GloR w') (.slice p1 u.globals.length c1) u.globals∧SlF w' 4 56 (FunR w') (.slice p2 u.funcs.length c2) V
def TlB (e:Ending):Prop:=∃c k:Int,(c != 0)=true∧e = .returned (.tuple #[.agg #[.slice none 0 0,.slice none 0 0],.agg #[.int .i64 c,.int .i64 k]])
theorem UniO.readT {w:World} {p1 p2:Option Addr} {n1 c1 n2 c2:Nat} {x:UniL} {S:Blks} (h:UniO w [.slice p1 n1 c1,.slice p2 n2 c2] x S):SlF w 3 48 (GloR w) (.slice p1 n1 c1) x.globals∧SlF w 4 56 (FunR w) (.slice p2 n2 c2) x.funcs:=by
 obtain⟨v1,v2,h0,h1,h2⟩:=h.read
 simp only[List.cons.injEq,and_true]at h0
 obtain⟨rfl,rfl⟩:=h0
 exact⟨h1,h2⟩
theorem tlo_any (u:UniL) (gp fp:Option Addr) (gc fc:Nat) (w:World) (hG:SlF w 3 48 (GloR w) (.slice gp u.globals.length gc) u.globals) (hF:SlF w 4 56 (FunR w) (.slice fp u.funcs.length fc) u.funcs) (hw0:Ways w) :
  Calls Tryz.prog 9 #[.agg #[.slice gp u.globals.length gc,.slice fp u.funcs.length fc]] w fun e w'=>(TlB e∨(ChkOk u∧∃V,TlO u V∧TlG u V e w'))∧Below w.heap.size w w':=by
 have hgl:u.globals.length*48≤140737488351232:=hG.bdC
 have hfl:u.funcs.length*56≤140737488351232:=hF.bdC
 by_cases h:(chk u).1=0
 ·have hc:=(k5 h).2
  refine(tld_ok u gp fp gc fc w hgl hG hfl hF hw0 h).mono ?_
  rintro e w' ⟨⟨p1,c1,p2,c2,rfl,S,hS,_⟩,hb⟩
  exact⟨.inr ⟨hc,_,⟨hc,rfl⟩,p1,c1,p2,c2,rfl,hS.readT⟩,hb⟩
 have hG':SliceAt w 3 (GloR w) gp u.globals:=by
  obtain⟨p,c,e,_,_,h⟩:=hG.outC
  cases e
  exact h
 have hF':SliceAt w 4 (FunR w) fp u.funcs:=by
  obtain⟨p,c,e,_,_,h⟩:=hF.outC
  cases e
  exact h
 refine(tld_bad u gp fp gc fc w hgl hG' hfl hF' hw0 h).mono ?_
 rintro e w' ⟨rfl,hb⟩
 exact⟨.inl ⟨_,_,by simpa using h,rfl⟩,hb⟩
end Go.Proofs.YtecdphhdmjmmnaaGreatDoor
namespace Go.Proofs.YtecdphhdmjmmnaaGreatDoor
open Go.RowKit

structure DfsI (f:FunL) (r:Int) (had:Nat→Bool) (todo:List Int):Prop where
 bd:∀t∈todo,0≤t∧t<(f.blocks.length:Int)
 rch:∀b,(had b=true∨(b:Int)∈todo)→LiveP f r b→LiveP f r 0
 cls:∀b,b<f.blocks.length→had b=true→xN r (atF f b) false=false∧(xN r (atF f b) true=true→∀t∈(atF f b).fin.to,had t.toNat=true∨t∈todo)
 h0:had 0=true∨(0:Int)∈todo
theorem DfsI.start {f:FunL} {r:Int} (hn:0<f.blocks.length):DfsI f r (fun _=>false) [0]:=by
 refine⟨fun t h=>?_,fun b h=>?_,fun _ _ h=>?_,.inr (List.mem_singleton.2 rfl)⟩
 ·rw[List.mem_singleton.1 h]
  omega
 ·rcases h with h|h
  ·cases h
  have:=List.mem_singleton.1 h
  obtain rfl:b=0:=by omega
  exact id
 cases h
theorem DfsI.ends {f:FunL} {r:Int} {had:Nat→Bool} (h:DfsI f r had []):¬ LiveP f r 0:=fun hl=>by
 have key:∀b,LiveP f r b→had b=true→False:=by
  intro b hb
  induction hb with
  | here hb1 hb2=>
   intro hh
   have:=(h.cls _ hb1 hh).1
   rw[hb2]at this
   cases this
  | next hb1 hb2 ht _ ih=>
   intro hh
   rcases (h.cls _ hb1 hh).2 hb2 _ ht with h2|h2
   ·exact ih h2
   cases h2
 rcases h.h0 with h0|h0
 ·exact key 0 hl h0
 cases h0
section
variable {f : FunL} {r : Int} {had : Nat → Bool} {todo : List Int} {b : Nat}
theorem DfsI.skip (h:DfsI f r had (todo++[(b:Int)])) (hb:had b=true):DfsI f r had todo:=by
 have hor:∀t:Int,(had t.toNat=true∨t∈todo++[(b:Int)])→had t.toNat=true∨t∈todo:=fun t ht=>by
  rcases ht with h1|h1
  ·exact .inl h1
  rcases List.mem_append.1 h1 with h2|h2
  ·exact .inr h2
  left
  rw[List.mem_singleton.1 h2]
  exact hb
 refine⟨fun t ht=>h.bd t (List.mem_append_left _ ht),fun c hc=>h.rch c (hc.imp id (List.mem_append_left _)),fun c hc hh=>⟨(h.cls c hc hh).1,fun hl t ht=>hor t ((h.cls c hc hh).2 hl t ht)⟩,?_⟩
 exact hor 0 h.h0
theorem DfsI.found (h:DfsI f r had (todo++[(b:Int)])) (hl:xN r (atF f b) false=true):LiveP f r 0:=by
 have:=h.bd b (by simp)
 exact h.rch b (.inr (by simp)) (.here (by omega) hl)
theorem DfsI.step (h:DfsI f r had (todo++[(b:Int)])) (hb:b<f.blocks.length) (hto:∀t∈(atF f b).fin.to,0≤t∧t<(f.blocks.length:Int)) (hl:xN r (atF f b) false=false) {new:List Int} (hnew:new=if xN r (atF f b) true=true then(atF f b).fin.to else[]) :
  DfsI f r (fun c=>if c=b then true else had c) (todo++new):=by
 have hsub:∀t∈new,t∈(atF f b).fin.to∧xN r (atF f b) true=true:=fun t ht=>by
  rw[hnew]at ht
  split at ht
  ·next e=>exact⟨ht,e⟩
  cases ht
 have hor:∀t:Int,(had t.toNat=true∨t∈todo++[(b:Int)])→(if t.toNat=b then true else had t.toNat)=true∨t∈todo++new:=fun t ht=>by
  rcases ht with h1|h1
  ·left;split
   ·rfl
   exact h1
  rcases List.mem_append.1 h1 with h2|h2
  ·exact .inr (List.mem_append_left _ h2)
  left
  rw[List.mem_singleton.1 h2,Int.toNat_natCast,if_pos rfl]
 refine⟨fun t ht=>?_,fun c hc hlc=>?_,fun c hc hh=>?_,?_⟩
 ·rcases List.mem_append.1 ht with h1|h1
  ·exact h.bd t (List.mem_append_left _ h1)
  exact hto t (hsub t h1).1
 ·by_cases e:c=b
  ·subst e
   exact h.rch c (.inr (by simp)) hlc
  rcases hc with h1|h1
  ·rw[if_neg e]at h1
   exact h.rch c (.inl h1) hlc
  rcases List.mem_append.1 h1 with h2|h2
  ·exact h.rch c (.inr (List.mem_append_left _ h2)) hlc
  obtain⟨h3,h4⟩:=hsub _ h2
  exact h.rch b (.inr (by simp)) (.next hb h4 h3 (by rw[Int.toNat_natCast];exact hlc))
 ·by_cases e:c=b
  ·subst e
   refine⟨hl,fun hlt t ht=>.inr (List.mem_append_right _ ?_)⟩
   rw[hnew,if_pos hlt]
   exact ht
  simp only[if_neg e]at hh
  exact⟨(h.cls c hc hh).1,fun hlt t ht=>hor t ((h.cls c hc hh).2 hlt t ht)⟩
 exact hor 0 h.h0
end
def umN (had:Nat→Bool):Nat→Nat
 | 0=>0
 | n+1=>umN had n+if had n=true then 0 else 1
theorem umN_le (had:Nat→Bool):∀n,umN had n≤n
 | 0=>Nat.le_refl _
 | n+1=>by
  have:=umN_le had n
  unfold umN
  split<;>omega
theorem umN_far {had:Nat→Bool} {b:Nat}:∀n,n≤b→umN (fun c=>if c=b then true else had c) n=umN had n
 | 0,_=>rfl
 | n+1,h=>by
  unfold umN
  rw[umN_far n (by omega),if_neg (by omega:¬ n=b)]
theorem Vm {had:Nat→Bool} {b:Nat} (hb:had b=false):∀n,b<n→umN (fun c=>if c=b then true else had c) n+1=umN had n
 | 0,h=>by omega
 | n+1,h=>by
  unfold umN
  by_cases e:n=b
  ·subst e
   rw[umN_far n (Nat.le_refl _),if_pos rfl,if_pos rfl,hb]
   rfl
  rw[if_neg e,←Vm hb n (by omega)]
  omega
def ZL (r:Int) (x:BlkL) (i:Nat) (l:Bool):Bool:=(x.list.drop i).foldr (XL r) (isV r (x.fin.onr,x.fin.onn) || l)
theorem scan_end (r:Int) (x:BlkL) (l:Bool):ZL r x x.list.length l=(isV r (x.fin.onr,x.fin.onn) || l):=by simp[ZL]
theorem scan_at {r:Int} {x:BlkL} {i:Nat} (h:i<x.list.length) (l:Bool):ZL r x i l=(useI r x.list[i] || (ZL r x (i+1) l&&!(x.list[i].dst == r))):=by
 unfold ZL
 rw[List.drop_eq_getElem_cons h,List.foldr_cons]
 rfl
theorem use_eq {regs:Int} {nf:Nat} {P:Nat→Int} {x:InsL} (h:InsC regs nf P x) (r:Int):useI r x=(isV r (x.ar,x.an) || isV r (x.br,x.bn) || x.args.any (isV r)):=by
 unfold useI qI
 rw[List.any_append,List.any_append]
 congr 1
 congr 1
 ·by_cases e:shA x.op=true
  ·rw[if_pos e];simp
  rw[if_neg e]
  have:=h.a0 (by simpa using e)
  simp[isV,this.1]
 by_cases e:shB x.op=true
 ·rw[if_pos e];simp
 rw[if_neg e]
 have:=h.b0 (by simpa using e)
 simp[isV,this.1]
end Go.Proofs.YtecdphhdmjmmnaaGreatDoor
namespace Go.Proofs.YtecdphhdmjmmnaaGreatDoor
open Go.RowKit Go.Shelf

theorem ZM {P:Program} (w:World) (base:Nat) (t ty e:TypeId) (i:TypeInfo) (ht:P.underlying t=some (.slice e)) (hi:P.info? e=some i) (v:Value) (n c size:Nat) (xs:List Value) (hown:w.ownsRow base e size v n xs) :
  (Builtin.append_ #[t,t] ty #[v,.slice none 0 c]).run P w = .ok v w:=by
 rcases hown.2 with⟨rfl,rfl⟩|⟨g,cap,cur,rfl,_,_,hnc,_⟩
 ·simp[Builtin.append_,run_underlying ht,Go.sizeOf,typeInfo,hi,Builtin.lenOf,Builtin.firstCells]
 simp[Builtin.append_,run_underlying ht,Go.sizeOf,typeInfo,hi,Builtin.lenOf,Builtin.firstCells,hnc,storeCells]
theorem QK {P:Program} (w:World) (t ty:TypeId) (i:TypeInfo) (z:Value) (ht:P.underlying t=some (.slice 3)) (hi:P.info? 3=some i) (hz:i.zero=some z) (hsize:i.size=1) (hby:i.bytes=8) (hzs:z.cells.size=1)
  {v:Value} {xs ys:List Int} {S:Blks} (hO:SlO 3 1 Qe w v xs S) {q:Option Addr} {c:Nat} (hs:SliceAt w 1 ju q ys) (hlen:xs.length+ys.length≤1000000) :
  ∃v' w',(Builtin.append_ #[t,t] ty #[v,.slice q ys.length c]).run P w = .ok v' w'∧Snoc 3 1 Qe w (xs++ys) S (fun _=>False) v' w':=by
 by_cases hq:q=none
 ·subst hq
  have h0:ys=[]:=by
   rcases hs with h|⟨_,_,h,_⟩
   ·exact h
   cases h
  subst h0
  obtain⟨h1,_,_,_⟩:=hO.rowI
  refine⟨v,w,ZM w 0 t ty 3 i ht hi v _ c 1 _ h1,S,by rw[List.append_nil];exact hO,fun k h=>.inl h,Kept.refl _ _⟩
 obtain⟨a,ha⟩:∃a,q=some a:=by
  cases q with
  | none=>exact absurd rfl hq
  | some a=>exact⟨a,rfl⟩
 subst ha
 obtain⟨h1,h2,h3,h4⟩:=hO.rowI
 have hys:(∀y∈ys,I64 y)∧∀j u,(ys.map (Value.int .i64))[j]?=some u→w.cell? (a.add j)=some u:=by
  rcases hs with rfl|⟨b,o,hp,h⟩
  ·exact⟨fun _ h=>(by cases h),fun j u h=>(by simp at h)⟩
  cases hp
  constructor
  ·intro y hy
   obtain⟨j,hj,rfl⟩:=List.getElem_of_mem hy
   obtain⟨cs,_,_,_,hr⟩:=h j hj
   exact hr
  intro j u hu
  rcases Nat.lt_or_ge j ys.length with g|g
  ·obtain⟨cs,_,hc,rfl,_⟩:=h j g
   have:=hc 0 (by omega)
   rw[Nat.mul_one,Nat.add_zero]at this
   rw[zk,this]
   simpa[g]using hu
  rw[List.getElem?_eq_none (by simpa using g)]at hu
  cases hu
 obtain⟨v',w',hr,ho,hg,_,hat⟩:=run_append_own_at (P:=P) w 0 t ty 3 i z 1 8 ht hi hz hsize hby hzs (by omega) v _ _ h1 a ys.length c (ys.map (.int .i64)) (by simp) hys.2 (fun u hu=>by obtain⟨y,_,rfl⟩:=List.mem_map.1 hu;rfl) (by unfold maxLen;omega) (by omega) (Nat.zero_le _)
 refine⟨v',w',hr,fun k=>S k∨v'.ownBlock=some k,?_,fun k hk=>?_,Kept.of_grown hg h3⟩
 ·rw[←List.map_append,←List.length_append]at ho
  refine SlO.ofRowI ho (fun x hx=>?_) (fun g h=>.inr h) (fun k hk=>?_)
  ·rcases List.mem_append.1 hx with h|h
   ·exact h2 x h
   exact hys.1 x h
  rcases hk with h|h
  ·exact(h4.mono hg.size) k h
  exact(ho.lt k h).2
 rcases hk with h|h
 ·exact .inl h
 rcases hat with b|b
 ·exact .inl (h3 k (b.symm.trans h))
 rw[b]at h
 injection h with h
 exact .inr (.inr (by omega))
end Go.Proofs.YtecdphhdmjmmnaaGreatDoor
namespace Go.Proofs.YtecdphhdmjmmnaaGreatDoor
open Go.RowKit

def isVT (r:Int) (v:Bool×Int):Bool:=v.1&&v.2 == r
theorem Zf (b:Bool) (n r:Int) (w:World) :
  Calls Tryz.prog 39 #[.agg #[.bool b,.int .i64 n],.int .i64 r] w fun e w'=>e = .returned (.bool (isVT r (b,n)))∧Below w.heap.size w w':=by
 cases b
 ·go_enter Tryz.func39,Tryz.ntmps39
  go_wp2
  go_ret
  exact⟨rfl,by exact bZ⟩
 go_enter Tryz.func39,Tryz.ntmps39
 go_wp2
 go_ret
 exact⟨by simp[isVT],by exact bZ⟩

theorem goesT_iff {k:Nat} {b:BlkL} {x:InsL} (hx:b.list.getLast?=some x) (hk:b.fin.kind=1) (h0:b.fin.onr=true→0≤b.fin.onn):zd k b=(decide (x.op=20)&&decide (x.fn=(k:Int))&&decide (0≤x.dst)&&isVT x.dst (b.fin.onr,b.fin.onn)):=by
 rw[Bool.eq_iff_iff,goes_iff]
 unfold isVT
 simp only[Bool.and_eq_true,decide_eq_true_eq,beq_iff_eq]
 constructor
 ·rintro⟨y,h1,_,h3,h4,h5,h6⟩
  rw[hx]at h1
  cases h1
  have:=h0 h3
  exact⟨⟨⟨h4,h5⟩,by omega⟩,h3,h6.symm⟩
 rintro⟨⟨⟨h1,h2⟩,_⟩,h4,h5⟩
 exact⟨x,hx,hk,h4,h1,h2,h5.symm⟩

theorem Vn (b:BlkL) (q1 q2 q3:Option Addr) (c1 c2 c3 k:Nat) (w:World) (hl:b.list.length*80≤140737488351232) (hs:SliceAt w 8 (InsR w) q2 b.list) (h0:b.fin.onr=true→0≤b.fin.onn) :
  Calls Tryz.prog 17 #[.agg #[.slice q1 b.phis.length c1,.slice q2 b.list.length c2,.int .i64 b.fin.kind,.bool b.fin.onr,.int .i64 b.fin.onn,.slice q3 b.fin.to.length c3],.int .i64 k] w fun e w'=>e = .returned (.bool (zd k b))∧Below w.heap.size w w':=by
 have HSl:=q7 hs
 have H0:=q7 h0
 clear hs h0
 by_cases hz0:b.list.length=0
 ·have hn:zd k b=false:=by
   unfold zd zC
   rw[List.eq_nil_of_length_eq_zero hz0]
   rfl
  have HN:=q7 hn
  have hz:((b.list.length:Int) == 0)=true:=by rw[hz0];rfl
  clear hn
  go_enter Tryz.func17,Tryz.ntmps17
  go_wp2_with fail
  go_ret
  exact⟨by rw[HN.out];rfl,by exact bZ⟩
 have hz:((b.list.length:Int) == 0)=false:=beq_eq_false_iff_ne.2 (by omega)
 by_cases hk1:b.fin.kind=1
 rotate_left
 ·have hkk:(b.fin.kind != 1)=true:=by simp[hk1]
  have hn:zd k b=false:=by
   cases e:zd k b with
   | false=>rfl
   | true=>
    obtain⟨_,_,h,_⟩:=goes_iff.1 e
    exact absurd h hk1
  have HN:=q7 hn
  clear hn
  go_enter Tryz.func17,Tryz.ntmps17
  go_wp2_with fail
  go_ret
  exact⟨by rw[HN.out];rfl,by exact bZ⟩
 have hkk:(b.fin.kind != 1)=false:=by simp[hk1]
 have hj:b.list.length - 1<b.list.length:=by omega
 obtain⟨lb,lo,qs,cs,hlp,i0,i1,i2,i3,i4,i5,i6,i7,_⟩:=QS HSl.out (Below.refl _ _) hj
 subst hlp
 have hgl:b.list.getLast?=some b.list[b.list.length - 1]:=by rw[List.getLast?_eq_getElem?,List.getElem?_eq_getElem hj]
 have hwr:IntKind.i64.wrap ((b.list.length:Int) - 1)=((b.list.length - 1:Nat):Int):=by rw[IntKind.wrap_i64];omega
 obtain⟨x,hx⟩:∃x,x=b.list[b.list.length - 1]:=⟨_,rfl⟩
 rw[←hx]at i0 i1 i2 i3 i4 i5 i6 i7 hgl
 have lz:=q8 i0
 have hgo:=goesT_iff (k:=k) hgl hk1 H0.out
 obtain⟨j,hjj⟩:∃j,j=b.list.length - 1:=⟨_,rfl⟩
 rw[←hjj]at hwr i0 i1 i2 i3 i4 i5 i6 i7 hj
 have j0:(0:Int)≤(j:Int):=by omega
 have j1:(j:Int)<b.list.length:=by omega
 obtain⟨s1,hs1⟩:∃s,s=decide (x.op=20):=⟨_,rfl⟩
 obtain⟨s2,hs2⟩:∃s,s=decide (x.fn=(k:Int)):=⟨_,rfl⟩
 obtain⟨s3,hs3⟩:∃s,s=decide (0≤x.dst):=⟨_,rfl⟩
 rw[←hs1,←hs2,←hs3]at hgo
 have e1:(x.op == 20)=s1:=by rw[hs1];rfl
 have e2:(x.fn == (k:Int))=s2:=by rw[hs2];rfl
 have e3:decide (0≤x.dst)=s3:=hs3.symm
 have HGo:=q7 hgo
 clear hgl hx hk1 hjj hgo hs1 hs2 hs3
 cases s1
 ·go_enter Tryz.func17,Tryz.ntmps17
  go_wp2_with fail
  go_ret
  exact⟨by rw[HGo.out];rfl,by exact bZ⟩
 cases s2
 ·go_enter Tryz.func17,Tryz.ntmps17
  go_wp2_with fail
  go_ret
  exact⟨by rw[HGo.out];rfl,by exact bZ⟩
 cases s3
 ·go_enter Tryz.func17,Tryz.ntmps17
  go_wp2_with fail
  go_ret
  exact⟨by rw[HGo.out];rfl,by exact bZ⟩
 go_enter Tryz.func17,Tryz.ntmps17
 go_wp2_with (go_at_call 39;refine(Zf _ _ _ _).mono ?_;rintro e w2 ⟨rfl,hb2⟩;have HB2:Hid (Below w.heap.size w w2):=q7 (Below.trans bZ (hb2.mono (by simp;omega)));clear hb2)
 go_ret
 exact⟨by rw[HGo.out];rfl,HB2.out⟩

theorem manyR_any (f:FunL) (bp:Option Addr) (bc:Nat) (w:World) (h40:f.blocks.length≤40) (hb:SliceAt w 6 (BlkR w) bp f.blocks) :
  Calls Tryz.prog 38 #[.agg #[.string f.name,.int .i64 f.params,.int .i64 f.regs,.slice bp f.blocks.length bc]] w fun e w'=>e = .returned (.int .i64 (z6 f))∧Below w.heap.size w w':=by
 have HB:=q7 hb
 clear hb
 go_enter Tryz.func38,Tryz.ntmps38
 go_wp2
 go_loopw [3,4] (fun m i wr=>∃(k:Nat) (x:Int),k≤f.blocks.length∧i = .int .i64 k∧m = .int .i64 x∧(x=j9 f k∧j9 f k≤k*10000000000000)∧Below (w.heap.size+1) (w.alloc (.cells #[.string f.name,.int .i64 f.params,.int .i64 f.regs,.slice bp f.blocks.length bc] 37)) wr) (fun _ i _=>f.blocks.length - (intOf i).toNat)
 case atStart=>exact⟨0,0,by omega,rfl,rfl,by simp[j9],Below.refl _ _⟩
 case round=>
  obtain⟨k,x,hk,rfl,rfl,hV,hb⟩:=hrel
  have HV:=q7 hV
  have HBw:=q7 hb
  have HBx:Hid (Below w.heap.size w wr):=((Below.refl _ _).alloc (Nat.le_refl _) _).trans (hb.mono (by omega))
  have hz:w.heap.size<wr.heap.size:=by have:=hb.size;simp at this;omega
  obtain⟨hcc,hcf⟩:=blk (qg hb (by omega) (qm w _))
  clear hV hb
  by_cases hlt:k<f.blocks.length
  ·obtain⟨b2,o2,q1,c1,q2,c2,q3,c3,hp,e0,e1,e2,e3,e4,e5,_,_,hl1,hl2,_,_,_,_⟩:=zp HB.out HBx.out hlt
   subst hp
   go_wp2
   go_quiet (fail)
   go_wp2
   refine⟨⟨k+1,_,by omega,by go_num,rfl,?_,?_⟩,by simp[intOf];omega⟩
   ·obtain⟨h1,h2⟩:=HV.out
    rw[vP f k hlt]
    refine⟨?_,by omega⟩
    rw[IntWalk.wrap64_in (x+_) ⟨by omega,by omega⟩,IntWalk.wrap64_in _ ⟨by omega,by omega⟩,h1]
    omega
   exact below_drewN HBw.out _
  have HM:Hid (x=z6 f):=by
   show _=_
   have:=HV.out.1
   rw[show k=f.blocks.length by omega,kx]at this
   exact this
  go_wp2
  go_ret
  refine⟨?_,HBx.out⟩
  rw[HM.out]
  rfl

end Go.Proofs.YtecdphhdmjmmnaaGreatDoor
