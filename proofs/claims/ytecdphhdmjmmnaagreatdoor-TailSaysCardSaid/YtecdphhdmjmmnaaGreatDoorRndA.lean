/-
  The contract of tail.round.
-/
import Derived.Lib.QuietBelow
import Derived.Test.YtecdphhdmjmmnaaGreatDoorJChaA
set_option maxRecDepth 100000
set_option maxHeartbeats 16000000
namespace Go.Proofs.YtecdphhdmjmmnaaGreatDoor
open Go.RowKit Go.Shelf Go.Sort

def cntG (k:Nat) (bs:List BlkL):Nat:=(bs.filter (xx k)).length
theorem XV {k j:Nat} {bs:List BlkL} (h:j<bs.length):cntG k (bs.take (j+1))=cntG k (bs.take j)+(if xx k bs[j]then 1 else 0):=by
 unfold cntG
 rw[List.take_succ_eq_append_getElem h,List.filter_append,List.length_append,List.filter_cons]
 split<;>rfl
theorem ZZ (k:Nat) (bs:List BlkL) (j:Nat):cntG k (bs.take j)≤j:=by
 unfold cntG
 refine Nat.le_trans (List.length_filter_le _ _) ?_
 rw[List.length_take]
 omega
theorem SlO.pre {α:Type} {e:TypeId} {size:Nat} {R:ElemO α} {w:World} {p:Option Addr} {n c m:Nat} {xs:List α} {S:Blks} (hsz:0<size) (h:SlO e size R w (.slice p n c) xs S) (h0:0<xs.length) (hm:m≤xs.length):SlO e size R w (.slice p m c) (xs.take m) S:=by
 obtain⟨cs,T,h⟩:=h
 rcases h.own.2 with⟨_,h2⟩|⟨g,cap,cur,hv,hb,hg,hc1,hc2,hc3,htk⟩
 ·omega
 injection hv with hp hn hc
 subst hp hn hc
 have hlen:(xs.take m).length=m:=by rw[List.length_take];omega
 have hle:m*size≤xs.length*size:=Nat.mul_le_mul_right _ hm
 have hle2:xs.length*size≤c*size:=Nat.mul_le_mul_right _ hc1
 have hl:cur.toList.take (m*size)=(List.range m).flatMap cs:=ZB (cs:=cs) (fun i hi=>h.len i (by omega)) (fun i hi=>h.len i (by omega)) hsz (by rw[List.length_take,Array.length_toList];omega) fun i j hi hj=>by
  have hlt:i*size+j<m*size:=by
   have:(i+1)*size≤m*size:=Nat.mul_le_mul_right _ hi
   rw[Nat.add_mul]at this
   omega
  rw[List.getElem?_take_of_lt hlt,←zm xs.length h.len i j (by omega) hj,←htk,List.getElem?_take_of_lt (by omega)]
 refine⟨cs,T,?_,fun i hi=>h.len i (by omega),fun i hi=>h.one i (by omega),fun i hi=>?_,fun i j hi hj=>h.two i j (by omega) (by omega),fun i hi g2 hg2=>h.off i (by omega) g2 hg2,fun g2 hg2=>h.blk g2 hg2,fun i hi=>h.sub i (by omega),h.inb⟩
 ·rw[hlen]
  exact⟨by rw[qI _ fun i hi=>h.len i (by omega)],.inr ⟨g,c,cur,rfl,hb,hg,by omega,hc2,hc3,hl⟩⟩
 rw[List.getElem_take]
 exact h.el i (by omega)

def xU (R:Int) (l:List (Bool×Int)):List InsL:=l.mapIdx fun p v=>Q4 (R+(p:Nat)) v
def kb (R:Int) (n:Nat):List InsL:=(List.range n).map fun p=>Q4 (p:Nat) (true,R+(p:Nat))
theorem XW (R:Int) (c:InsL):ku R c=xU R c.args++kb R c.args.length:=by
 unfold ku xU kb
 congr 1
 refine List.ext_getElem (by simp) fun i h1 h2=>?_
 simp
theorem XX {R:Int} {l:List (Bool×Int)} {i:Nat} (h:i<l.length):xU R (l.take (i+1))=xU R (l.take i)++[Q4 (R+(i:Nat)) l[i]]:=by
 unfold xU
 rw[List.take_succ_eq_append_getElem h,List.mapIdx_concat,List.length_take,Nat.min_eq_left (by omega)]
theorem XY (R:Int) (n:Nat):kb R (n+1)=kb R n++[Q4 (n:Nat) (true,R+(n:Nat))]:=by
 unfold kb
 rw[List.range_succ,List.map_append]
 rfl
theorem vK (R:Int) (l:List (Bool×Int)):(xU R l).length=l.length:=by simp[xU]
theorem Qh (R:Int) (n:Nat):(kb R n).length=n:=by simp[kb]
def cpyC (d:Int) (v:Bool×Int):List Value:=[.int .i64 1,.int .i64 d,.bool v.1,.int .i64 v.2,.bool false,.int .i64 0,.int .i64 0,.slice none 0 0]
theorem Qi (w:World) {d:Int} {v:Bool×Int} (hd:I64 d) (hv:I64 v.2):InsO w (cpyC d v) (Q4 d v) (fun _=>False):=
 ⟨.slice none 0 0,rfl,by unfold I64 Q4;simp only;omega,hd,hv,by unfold I64 Q4;simp only;omega,by unfold I64 Q4;simp only;omega,SlO.nil _ _ _ _ (fun _ h=>h.elim),by unfold reachBytes Q4;simp⟩
theorem Qj (d:Int) (v:Bool×Int):∀u∈cpyC d v,u.oneCell'=true:=fun u hu=>by
 unfold cpyC at hu
 simp only[List.mem_cons,List.not_mem_nil,or_false]at hu
 rcases hu with rfl|rfl|rfl|rfl|rfl|rfl|rfl|rfl<;>rfl

def LstS (wo wl wr:World) (g o:Nat) (S2:Blks) (v1 v3:Value) (fin:EndL) (l:List InsL) (pp:Option Addr) (cc:Nat) (SL:Blks):Prop:=
 SlO 53 8 InsO wr (.slice pp l.length cc) l SL∧(∀b,SL b→S2 b∨wl.heap.size≤b)∧RowPut wo wr 48 g o 6 [v1,.slice pp l.length cc,.int .i64 fin.kind,.bool fin.onr,.int .i64 fin.onn,v3]∧Kept (fun b=>S2 b∨b=g) wl wr
theorem LstS.add {wo wl wr w7 w8:World} {g o:Nat} {S2 SL:Blks} {v1 v3 v':Value} {fin:EndL} {l:List InsL} {y:InsL} {pp:Option Addr} {cc:Nat} (h:LstS wo wl wr g o S2 v1 v3 fin l pp cc SL) (hg:g<wl.heap.size) (hg2:¬ S2 g) (hb:Below wr.heap.size wr w7) (hS:Snoc 53 8 InsO w7 (l++[y]) SL (fun _=>False) v' w8) :
  ∃pv cv S',v' = .slice pv (l++[y]).length cv∧w8.heap[g]?=wr.heap[g]?∧Kept SL w7 w8∧LstS wo wl (w8.setCell ⟨g,o+1,none⟩ v') g o S2 v1 v3 fin (l++[y]) pv cv S':=by
 obtain⟨hO,hs,hp,hk⟩:=h
 obtain⟨S',hO8,hsub,hK8⟩:=hS
 obtain⟨pv,cv,hv8,_⟩:=hO8.val
 have hgz:g<wr.heap.size:=Nat.lt_of_lt_of_le hg hk.size
 have hgS:¬ SL g:=fun h=>(hs g h).elim hg2 fun h=>by omega
 have h8:w8.heap[g]?=wr.heap[g]?:=(hK8.block g (Nat.lt_of_lt_of_le hgz hb.size) hgS).trans (hb.block g hgz)
 have hs':∀b,S' b→S2 b∨wl.heap.size≤b:=fun b hb'=>by
  rcases hsub b hb' with h|h|h
  ·exact hs b h
  ·exact h.elim
  exact .inr (Nat.le_trans hk.size (Nat.le_trans hb.size h))
 refine⟨pv,cv,S',hv8,h8,hK8,?_,hs',?_,?_⟩
 ·rw[hv8]at hO8
  refine hO8.loc qH (fun b hb'=>Go.Deep.blk_setCell_other _ _ _ b fun e=>?_) (by rw[Go.Deep.nblk_setCell];exact Nat.le_refl _)
  rcases hs' b hb' with h|h
  ·have e:b=g:=e
   exact hg2 (e ▸ h)
  rw[e]at h
  have h:wl.heap.size≤g:=h
  omega
 ·have:=RowPut.set (hp.of_block h8) rfl (j:=1) (by omega) v'
  rw[hv8]at this ⊢
  exact this
 exact((hk.trans (Kept.of_below (S:=fun _=>False) hb) (fun _ _ h=>h.elim)).trans hK8 (fun b hb' h=>(hs b h).elim .inl fun h=>by omega)).setCell (p:=⟨g,o+1,none⟩) (.inr rfl) _

def RndR (f:FunL) (k:Nat) (q:Option Addr) (e1:Nat) (w:World) (e:Ending) (w':World):Prop:=
 Below w.heap.size w w'∧((VX k f=false∧e = .returned (.tuple #[.agg #[.string f.name,.int .i64 f.params,.int .i64 f.regs,.slice q f.blocks.length e1],.bool false]))∨
  (VX k f=true∧∃p c S,e = .returned (.tuple #[.agg #[.string f.name,.int .i64 f.params,.int .i64 (f.regs+f.params),.slice p (f.blocks.length+1) c],.bool true])∧FunO w' [.string f.name,.int .i64 f.params,.int .i64 (f.regs+f.params),.slice p (f.blocks.length+1) c] (jc k f) S∧LoB w.heap.size S))

theorem Vq {f:FunL} {k:Nat} {q:Option Addr} {e1:Nat} {w W:World} {a:Act} {A0 A1 A2 A3:Value} (hR:W.heap[w.heap.size+1]?=some (.cells #[A0,A1,A2,A3] 37 (0,0))) (h4:a.tmps[4]?.getD undef = .pointer (some ⟨w.heap.size+1,0,none⟩)) (h5:a.tmps[5]?.getD undef = .bool false) (hd:a.defers=[]) (hb:Below w.heap.size w W) (hm:VX k f=false) :
  bodyPost Tryz.prog Tryz.f23 (RndR f k q e1 w) .ret a ((((W.setCell ⟨w.heap.size+1,0,none⟩ (.string f.name)).setCell ⟨w.heap.size+1,1,none⟩ (.int .i64 f.params)).setCell ⟨w.heap.size+1,2,none⟩ (.int .i64 f.regs)).setCell ⟨w.heap.size+1,3,none⟩ (.slice q f.blocks.length e1)):=by
 have h:=qg (qg (qg (qg hR 0 (.string f.name)) 1 (.int .i64 f.params)) 2 (.int .i64 f.regs)) 3 (.slice q f.blocks.length e1)
 obtain⟨rb,_⟩:=blk h
 have c0:=rb 0
 have c1:=rb 1
 have c2:=rb 2
 have c3:=rb 3
 simp[Array.setIfInBounds]at c0 c1 c2 c3
 have hp:∀o,w.heap.size≤(Addr.mk (w.heap.size+1) o none).block:=fun o=>by show w.heap.size≤w.heap.size+1;omega
 refine bodyPost_ret (v:=.tuple #[.agg #[.string f.name,.int .i64 f.params,.int .i64 f.regs,.slice q f.blocks.length e1],.bool false]) ?_ hd ⟨(((hb.setCell (hp 0) _).setCell (hp 1) _).setCell (hp 2) _).setCell (hp 3) _,.inl ⟨hm,rfl⟩⟩
 simp[results,Tryz.results23,go_sem,h4,h5,c0,c1,c2,c3]

theorem one_int {W:World} {N:Nat} (hN:W.heap[N]?=some (.cells #[.int .i64 1] 3 (0,0))):SlO 3 1 kP W (.slice (some ⟨N,0,none⟩) 1 1) [1] (fun b=>b=N):=by
 refine(SlO.flat (α:=Int) (xs:=[1]) (v:=.slice (some ⟨N,0,none⟩) 1 1) (base:=0) (cs:=fun _=>[.int .i64 1]) ⟨rfl,.inr ⟨N,1,#[.int .i64 1],rfl,Nat.zero_le _,hN,Nat.le_refl _,by unfold maxLen;omega,rfl,rfl⟩⟩ (fun _ _=>rfl) (fun _ _ u hu=>by rw[List.mem_singleton.1 hu];rfl) (fun i hi=>?_)).grow (fun b h=>by injection h with h;exact h.symm) (fun b h=>by rw[h];exact q9 hN)
 have hi1:i<1:=hi
 obtain rfl:i=0:=by omega
 exact⟨rfl,by unfold I64;simp only[List.getElem_cons_zero];omega⟩
theorem head_own {W:World} {N:Nat} (hN:W.heap[N]?=some (.cells #[.int .i64 1] 3 (0,0))):BlkO W [.slice none 0 0,.slice none 0 0,.int .i64 2,.bool false,.int .i64 0,.slice (some ⟨N,0,none⟩) 1 1] QJ (fun b=>b=N):=
 ⟨_,_,_,fun _=>False,fun _=>False,fun b=>b=N,rfl,by unfold I64 QJ;simp only;omega,by unfold I64 QJ;simp only;omega,⟨SlO.nil _ _ _ _ (fun _ h=>h.elim),by unfold reachBytes QJ;simp⟩,⟨SlO.nil _ _ _ _ (fun _ h=>h.elim),by unfold reachBytes QJ;simp⟩,⟨one_int hN,by unfold reachBytes QJ;simp⟩,fun _ h _=>h,fun _ h _=>h,fun _ h _=>h,fun _ h=>h.elim,fun _ h=>h.elim,fun _ h=>h⟩
theorem rnd_yes {f:FunL} {k:Nat} {q p:Option Addr} {e1 c O:Nat} {w W:World} {a:Act} {S:Blks} {A0 A1 A2 A3:Value} (hn:f.name.size≤reachBytes) (i1:I64 f.params) (i2:I64 (f.regs+f.params)) (h40:f.blocks.length≤40) (hO:w.heap.size≤O) (hS:SlO 48 6 BlkO W (.slice p (f.blocks.length+1) c) (QJ::f.blocks.map (ZS k f.regs)) S) (hSn:∀b,S b→w.heap.size+1<b∧b≠O)
  (hR:W.heap[w.heap.size+1]?=some (.cells #[A0,A1,A2,A3] 37 (0,0))) (hOR:O≠w.heap.size+1) (h4:a.tmps[4]?.getD undef = .pointer (some ⟨w.heap.size+1,0,none⟩)) (h5:a.tmps[5]?.getD undef = .bool true) (hd:a.defers=[]) (hb:Below w.heap.size w W) (hm:VX k f=true) :
  bodyPost Tryz.prog Tryz.f23 (RndR f k q e1 w) .ret a (((((W.setCell ⟨O,3,none⟩ (.slice p (f.blocks.length+1) c)).setCell ⟨w.heap.size+1,0,none⟩ (.string f.name)).setCell ⟨w.heap.size+1,1,none⟩ (.int .i64 f.params)).setCell ⟨w.heap.size+1,2,none⟩ (.int .i64 (f.regs+f.params))).setCell ⟨w.heap.size+1,3,none⟩ (.slice p (f.blocks.length+1) c)):=by
 have hR2:(W.setCell ⟨O,3,none⟩ (.slice p (f.blocks.length+1) c)).heap[w.heap.size+1]?=some (.cells #[A0,A1,A2,A3] 37 (0,0)):=(Go.Deep.blk_setCell_other _ _ _ _ (fun e=>hOR (show O=w.heap.size+1 from Eq.symm e))).trans hR
 have h:=qg (qg (qg (qg hR2 0 (.string f.name)) 1 (.int .i64 f.params)) 2 (.int .i64 (f.regs+f.params))) 3 (.slice p (f.blocks.length+1) c)
 obtain⟨rb,_⟩:=blk h
 have c0:=rb 0
 have c1:=rb 1
 have c2:=rb 2
 have c3:=rb 3
 simp[Array.setIfInBounds]at c0 c1 c2 c3
 have hp:∀o,w.heap.size≤(Addr.mk (w.heap.size+1) o none).block:=fun o=>by show w.heap.size≤w.heap.size+1;omega
 refine bodyPost_ret (v:=.tuple #[.agg #[.string f.name,.int .i64 f.params,.int .i64 (f.regs+f.params),.slice p (f.blocks.length+1) c],.bool true]) ?_ hd ⟨((((hb.setCell (p:=⟨O,3,none⟩) hO _).setCell (hp 0) _).setCell (hp 1) _).setCell (hp 2) _).setCell (hp 3) _,.inr ⟨hm,p,c,S,rfl,⟨_,rfl,hn,i1,i2,?_,?_⟩,fun b hb=>?_⟩⟩
 ·simp[results,Tryz.results23,go_sem,h4,h5,c0,c1,c2,c3]
 ·refine hS.loc qE (fun b hb=>?_) (by simp only[Go.Deep.nblk_setCell];exact Nat.le_refl _)
  have:=hSn b hb
  rw[Go.Deep.blk_setCell_other _ _ _ _ (by show b≠w.heap.size+1;omega),Go.Deep.blk_setCell_other _ _ _ _ (by show b≠w.heap.size+1;omega),Go.Deep.blk_setCell_other _ _ _ _ (by show b≠w.heap.size+1;omega),Go.Deep.blk_setCell_other _ _ _ _ (by show b≠w.heap.size+1;omega),Go.Deep.blk_setCell_other _ _ _ _ (by show b≠O;exact this.2)]
 ·show(QJ::f.blocks.map (ZS k f.regs)).length*96≤reachBytes
  rw[List.length_cons,List.length_map]
  unfold reachBytes
  omega
 have:=hSn b hb;omega

theorem round_any {nf:Nat} {P:Nat→Int} (f:FunL) (k:Nat) (hC:FunC nf P f) (hP:P k=f.params) (q:Option Addr) (e1:Nat) (w:World) (hn:f.name.size≤reachBytes) (hB:SlF w 6 96 (BlkR w) (.slice q f.blocks.length e1) f.blocks) :
  Calls Tryz.prog 23 #[.agg #[.string f.name,.int .i64 f.params,.int .i64 f.regs,.slice q f.blocks.length e1],.int .i64 k] w (RndR f k q e1 w):=by
 have hn1:=hC.n1
 have haA:=hC.n40
 have haJ:=hC.par
 have hbh:=hC.reg
 have i1:I64 f.params:=by unfold I64;omega
 have i2:I64 f.regs:=by unfold I64;omega
 obtain⟨iI,l1,l2,l3,l4⟩:=info_parts vC
 have hRd:SliceAt w 6 (BlkR w) q f.blocks:=by
  obtain⟨p,c,e,_,_,h⟩:=hB.outC
  cases e
  exact h
 obtain⟨gq,oq,q1,c1,q2,c2,q3,c3,hq,_⟩:=zE hRd (Below.refl _ _) hn1
 subst hq
 have HC:=q7 hC
 have HP:=q7 hP
 have HB:=q7 hB
 have HRd:=q7 hRd
 have HN:=q7 (And.intro hn (And.intro i1 i2))
 clear hC hP hB hRd hn i1 i2
 go_enter Tryz.func23,Tryz.ntmps23
 go_wp2_with fail
 obtain⟨W1,hW1⟩:∃W1,W1=(w.alloc (.cells #[.string f.name,.int .i64 f.params,.int .i64 f.regs,.slice (some ⟨gq,oq,none⟩) f.blocks.length e1] 37)).alloc (.cells #[.string { data:=#[] },.int .i64 0,.int .i64 0,.slice none 0 0] 37):=⟨_,rfl⟩
 rw[←hW1]
 have hb1:Below w.heap.size w W1:=by rw[hW1];exact bZ
 have hz1:W1.heap.size=w.heap.size+1+1:=by rw[hW1];simp
 have hF1:W1.heap[w.heap.size]?=some (.cells #[.string f.name,.int .i64 f.params,.int .i64 f.regs,.slice (some ⟨gq,oq,none⟩) f.blocks.length e1] 37 (0,0)):=by rw[hW1];exact qj (qh rfl)
 have hR1:W1.heap[w.heap.size+1]?=some (.cells #[.string { data:=#[] },.int .i64 0,.int .i64 0,.slice none 0 0] 37 (0,0)):=by rw[hW1];exact qh (by simp)
 have HB1:=q7 hb1
 have HF1:=q7 hF1
 have HR1:=q7 hR1
 clear hW1 hb1 hF1 hR1
 go_loopg [6,23] f.blocks.length (fun q m i wr=>∃j:Nat,j≤f.blocks.length∧q=f.blocks.length - j∧i = .int .i64 j∧m = .int .i64 (cntG k (f.blocks.take j))∧Below W1.heap.size W1 wr)
 case atStart=>exact⟨0,by omega,rfl,rfl,rfl,Below.refl _ _⟩
 case round=>
  obtain⟨j,hj,rfl,rfl,rfl,hb⟩:=hrel
  have hbw:=HB1.out.trans (hb.mono HB1.out.size)
  have HB2:=q7 hb
  have HBw:=q7 hbw
  have hzz:=hb.size
  have HFw:=q7 ((hb.block _ (by omega)).trans HF1.out)
  have HRw:=q7 ((hb.block _ (by omega)).trans HR1.out)
  clear hb hbw
  by_cases hlt:j<f.blocks.length
  ·obtain⟨b',o',q1,c1,q2,c2,q3,c3,hp,e0,e1',e2,e3,e4,e5,_,_,_,hl2,_⟩:=zE HRd.out HBw.out hlt
   cases hp
   obtain⟨b',o',q1',c1',q2',c2',q3',c3',hp,y0,y1,y2,y3,y4,y5,_,_,_,_,_,_,hsl,_⟩:=zE HRd.out (Below.refl _ _) hlt
   cases hp
   obtain⟨rfl,rfl⟩:q2'=q2∧c2'=c2:=by
    have h1:=(HBw.out.cell (q8 y1)).trans y1
    rw[e1']at h1
    injection h1 with h1
    injection h1 with h1 _ h2
    exact⟨h1.symm,h2.symm⟩
   clear y0 y1 y2 y3 y4 y5
   have ez:=q8 e0
   have HSl:=q7 hsl
   have HCn:=q7 (XV (k:=k) hlt)
   have heB:=ZZ k f.blocks j
   generalize hbk:f.blocks[j]=bk at *
   generalize hcn:cntG k (f.blocks.take j)=cn at *
   obtain⟨gb,hgb⟩:∃gb,gb=xx k bk:=⟨_,rfl⟩
   rw[←hgb]at HCn
   have HGb:=q7 hgb
   have hwn:IntKind.i64.wrap ((cn:Int)+1)=((cn+1:Nat):Int):=by rw[IntKind.wrap_i64];omega
   clear hsl hbk hcn hgb
   cases gb
   all_goals
    go_wp2_with (go_at_call 50;refine(ZW bk _ _ _ _ _ _ k w _ (HBw.out.trans (Below.trans bZ (Below.refl _ _))) hl2 HSl.out).mono ?_;rintro e w2 ⟨⟨x,qx,cx,rfl,hx⟩,hb2⟩;clear hx;rw[←HGb.out];unfold k9;have HB3:=q7 (HB2.out.trans (Below.trans bZ (hb2.mono (by simp;omega))));clear hb2)
    go_roundg (f.blocks.length - (j+1))
    case measure=>omega
    case rel=>exact⟨j+1,by omega,rfl,by go_num,by rw[HCn.out];go_num,HB3.out.alloc (by have:=HB3.out.size;omega) _⟩
  obtain rfl:j=f.blocks.length:=by omega
  rw[List.take_of_length_le (Nat.le_refl _)]
  obtain⟨m,hm⟩:∃m:Nat,m=XR k f:=⟨_,rfl⟩
  have hkV:m≤40:=by
   rw[hm]
   have:=ZZ k f.blocks f.blocks.length
   rw[List.take_of_length_le (Nat.le_refl _)]at this
   exact Nat.le_trans this haA
  rw[show cntG k f.blocks=m from hm.symm]
  obtain⟨d,hd⟩:∃d:Int,d=2*f.params - 1:=⟨_,rfl⟩
  have hdb:-1≤d∧d≤11:=by omega
  obtain⟨M,hM⟩:∃M:Int,M=(m:Int)*d:=⟨_,rfl⟩
  have hMb:-40≤M∧M≤440:=by
   have h1:=Int.mul_le_mul_of_nonneg_left hdb.1 (show(0:Int)≤m by omega)
   have h2:=Int.mul_le_mul_of_nonneg_left hdb.2 (show(0:Int)≤m by omega)
   omega
  have hml:=HC.out.many
  have hmy:VX k f=(!decide ((m:Int)=0)&&!decide (100<f.regs+f.params)&&!decide ((f.blocks.length:Int)=40)&&!decide (300<(zi f:Int)+M)):=by
   rw[Bool.eq_iff_iff,mayR_iff,←hm,hM,hd]
   simp only[Bool.and_eq_true,Bool.not_eq_true',decide_eq_false_iff_not]
   omega
  have hcM:∀(dd:Nat) (os:Array Obj),Calls Tryz.prog 51 #[.agg #[.string f.name,.int .i64 f.params,.int .i64 f.regs,.slice (some ⟨gq,oq,none⟩) f.blocks.length e1]] (grow (redrawn wr dd) os) fun e w'=>e = .returned (.int .i64 (zi f))∧Below (grow (redrawn wr dd) os).heap.size (grow (redrawn wr dd) os) w':=fun dd os=>many_any f _ _ _ haA (zF HRd.out (HBw.out.trans ((below_regrown wr dd os).mono HBw.out.size)))
  have hwa:IntKind.i64.wrap (f.regs+f.params)=f.regs+f.params:=by rw[IntKind.wrap_i64];omega
  have hwb:IntKind.i64.wrap (2*f.params)=2*f.params:=by rw[IntKind.wrap_i64];omega
  have hwc:IntKind.i64.wrap (2*f.params - 1)=d:=by rw[IntKind.wrap_i64];omega
  have hwd:IntKind.i64.wrap ((m:Int)*d)=M:=by rw[IntKind.wrap_i64,←hM];omega
  have hwe:IntKind.i64.wrap ((zi f:Int)+M)=(zi f:Int)+M:=by rw[IntKind.wrap_i64];omega
  obtain⟨s1,hs1⟩:∃b,b=decide ((m:Int)=0):=⟨_,rfl⟩
  obtain⟨s2,hs2⟩:∃b,b=decide (100<f.regs+f.params):=⟨_,rfl⟩
  obtain⟨s3,hs3⟩:∃b,b=decide ((f.blocks.length:Int)=40):=⟨_,rfl⟩
  obtain⟨s4,hs4⟩:∃b,b=decide (300<(zi f:Int)+M):=⟨_,rfl⟩
  rw[←hs1,←hs2,←hs3,←hs4]at hmy
  have HMy:=q7 hmy
  have hhO:((m:Int) == 0)=s1:=by rw[hs1];rfl
  have hkY:((f.blocks.length:Int) == 40)=s3:=by rw[hs3];rfl
  have hkZ:decide (100<f.regs+f.params)=s2:=hs2.symm
  have hl6:decide (300<(zi f:Int)+M)=s4:=hs4.symm
  obtain⟨fb,ff⟩:=blk HFw.out
  have fb0:=fb 0
  have fb1:=fb 1
  have fb2:=fb 2
  have fb3:=fb 3
  simp only[List.getElem?_toArray,List.getElem?_cons_zero,List.getElem?_cons_succ]at fb0 fb1 fb2 fb3
  have fz:=q9 HFw.out
  have HSs:=q7 (And.intro hs1 (And.intro hs2 (And.intro hs3 (And.intro hs4 (And.intro hM (And.intro hd hm))))))
  clear hs1 hs2 hs3 hs4 hmy hM hd hm fb
  have gb0:=cell_regrown fb0
  have gb1:=cell_regrown fb1
  have gb2:=cell_regrown fb2
  have gb3:=cell_regrown fb3
  go_wp2_with fail
  refine wp_region_quiet_below (by kernel_rfl) (by kernel_rfl) ?_
  cases s1
  ·cases s2
   ·cases s3
    ·cases s4
     ·repeat go_big_quiet_step (exact Calls.regrown_of (hcM _ _))
      refine wpQuiet_nil ?_
      intro Wq hWq
      have hbq:Below wr.heap.size wr Wq:=by
       obtain⟨p,rfl⟩:=hWq
       exact below_regrown _ _ _
      clear hWq hcM gb0 gb1 gb2 gb3 fb0 fb1 fb2 fb3 fz ff
      have hl7:=HBw.out.trans (hbq.mono HBw.out.size)
      have HBq:=q7 hl7
      have HFq:=q7 ((hbq.block _ (q9 HFw.out)).trans HFw.out)
      have HRq:=q7 ((hbq.block _ (q9 HRw.out)).trans HRw.out)
      have hqz:w.heap.size+1+1≤Wq.heap.size:=by have:=q9 HRq.out;omega
      obtain⟨fb,ff⟩:=blk HFq.out
      have fb0:=fb 0
      have fb1:=fb 1
      have fb2:=fb 2
      have fb3:=fb 3
      simp only[List.getElem?_toArray,List.getElem?_cons_zero,List.getElem?_cons_succ]at fb0 fb1 fb2 fb3
      have fz:=q9 HFq.out
      clear hbq hl7 fb HB2 HBw HFw HRw hzz hwb hwc hwd hwe hhO hkZ hkY hl6 HSs hMb hdb hkV hml HB1 HF1 HR1 hz1 hlt hj
      go_wp2_with (go_at_call 44;refine(Qu f (some ⟨gq,oq,none⟩) e1 Wq HN.out.1 HN.out.2.1 HN.out.2.2 (by obtain⟨p,c,a1,a2,a3,a4,a5⟩:=HB.out;exact⟨p,c,a1,a2,a3,a4,zF a5 HBq.out⟩)).mono ?_;rintro e w3 ⟨⟨p,c,rfl,S,hS,hSl⟩,hb3⟩)
      obtain⟨v0,hv0,_,_,_,hBo⟩:=hS
      obtain rfl:v0 = .slice p f.blocks.length c:=by simpa using hv0.symm
      obtain⟨g,c',_,_,hvg,hp6,_⟩:=hBo.sl.focus qE (by omega) hn1
      obtain⟨rfl,rfl⟩:p=some ⟨g,0,none⟩∧c=c':=by injection hvg with h1 _ h2;exact⟨h1,h2⟩
      obtain⟨O,hO⟩:∃O,O=w3.heap.size:=⟨_,rfl⟩
      rw[←hO]
      obtain⟨W5,hW5⟩:∃W5,W5=w3.alloc (.cells #[.string f.name,.int .i64 f.params,.int .i64 f.regs,.slice (some ⟨g,0,none⟩) f.blocks.length c] 37):=⟨_,rfl⟩
      rw[←hW5]
      have hhP:Below w3.heap.size w3 W5:=by rw[hW5];exact bZ
      have heH:Below Wq.heap.size Wq W5:=hb3.trans (hhP.mono hb3.size)
      have hO5:W5.heap[O]?=some (.cells #[.string f.name,.int .i64 f.params,.int .i64 f.regs,.slice (some ⟨g,0,none⟩) f.blocks.length c] 37 (0,0)):=by rw[hW5,hO];exact qh rfl
      have hS5:SlO 48 6 BlkO W5 (.slice (some ⟨g,0,none⟩) f.blocks.length c) f.blocks S:=hBo.sl.below qE hhP
      have hSn:∀b,S b→Wq.heap.size≤b∧b≠O:=fun b hb=>⟨hSl b hb,by have:=hBo.sl.inb b hb;omega⟩
      have hLO:Wq.heap.size≤O:=by rw[hO];exact hb3.size
      have HB5:=q7 (HBq.out.trans (heH.mono HBq.out.size))
      have HF5:=q7 ((heH.block _ (q9 HFq.out)).trans HFq.out)
      have HR5:=q7 ((heH.block _ (q9 HRq.out)).trans HRq.out)
      have HO5:=q7 hO5
      have HS5:=q7 hS5
      have HSn:=q7 hSn
      have hp7:Wq.heap.size≤W5.heap.size:=heH.size
      have HBd:=q7 hBo.bd
      clear hW5 hO hhP heH hO5 hS5 hSn hBo hb3 hSl hvg hv0 hp6 fb0 fb1 fb2 fb3 fz ff HFq HRq HBq
      go_loopg [71] f.blocks.length (fun qq i wr=>∃(j:Nat) (S':Blks),j≤f.blocks.length∧qq=f.blocks.length - j∧i = .int .i64 j∧SlO 48 6 BlkO wr (.slice (some ⟨g,0,none⟩) f.blocks.length c) (zd j (ZS k f.regs) f.blocks) S'∧(∀b,S' b→Wq.heap.size≤b∧b≠O)∧Kept (fun b=>Wq.heap.size≤b∧b≠O) W5 wr)
      case atStart=>exact⟨0,S,by omega,rfl,rfl,by rw[zD];exact HS5.out,HSn.out,Kept.refl _ _⟩
      case round=>
       obtain⟨j,S',hj,rfl,rfl,hS',heI,hK⟩:=hrel
       obtain⟨wo,hwo⟩:∃wo,wo=wr:=⟨_,rfl⟩
       subst hwo
       have hbo:=HB5.out.trans (hK.below (B:=w.heap.size) (by omega) (fun i hi=>by omega))
       have hOo:=(hK.block _ (q9 HO5.out) (fun h=>h.2 rfl)).trans HO5.out
       have hFo:=(hK.block _ (q9 HF5.out) (fun h=>by omega)).trans HF5.out
       have hRo:=(hK.block _ (q9 HR5.out) (fun h=>by omega)).trans HR5.out
       have HK:=q7 hK
       have HS':=q7 hS'
       have haf:=q7 heI
       have HBo:=q7 hbo
       have HOo:=q7 hOo
       have HFo:=q7 hFo
       have HRo:=q7 hRo
       have hzo:=hK.size
       obtain⟨ob,of⟩:=blk hOo
       have ob3:=ob 3
       have oz:=q9 hOo
       simp only[List.getElem?_toArray,List.getElem?_cons_zero,List.getElem?_cons_succ]at ob3
       clear hK hS' heI hbo hOo hFo hRo ob
       by_cases hlt:j<f.blocks.length
       rotate_left
       ·obtain rfl:j=f.blocks.length:=by omega
        have hSf:=HS'.out
        rw[zr]at hSf
        have ob0:=(blk HOo.out).1 0
        have ob1:=(blk HOo.out).1 1
        have ob2:=(blk HOo.out).1 2
        simp only[List.getElem?_toArray,List.getElem?_cons_zero,List.getElem?_cons_succ]at ob0 ob1 ob2
        have HSf:=q7 hSf
        clear hSf
        go_wp2_with fail
        obtain⟨W6,hW6⟩:∃W6,W6=((wo.setCell ⟨O,2,none⟩ (.int .i64 (f.regs+f.params))).alloc (.cells #[.int .i64 1] 3)).alloc (.cells #[.slice none 0 0,.slice none 0 0,.int .i64 2,.bool false,.int .i64 0,.slice (some ⟨wo.heap.size,0,none⟩) 1 1] 48):=⟨_,rfl⟩
        rw[←hW6]
        have hk6:Kept (fun b=>b=O) wo W6:=by rw[hW6];exact(((Kept.refl (fun b=>b=O) wo).setCell (p:=⟨O,2,none⟩) rfl _).alloc _).alloc _
        have hz6:W6.heap.size=wo.heap.size+1+1:=by rw[hW6];simp
        have hO6:W6.heap[O]?=some (.cells #[.string f.name,.int .i64 f.params,.int .i64 (f.regs+f.params),.slice (some ⟨g,0,none⟩) f.blocks.length c] 37 (0,0)):=by rw[hW6];exact qj (qj (qg HOo.out 2 (.int .i64 (f.regs+f.params))))
        have hN6:W6.heap[wo.heap.size]?=some (.cells #[.int .i64 1] 3 (0,0)):=by rw[hW6];exact qj (qh (by simp))
        have hV6:W6.heap[wo.heap.size+1]?=some (.cells #[.slice none 0 0,.slice none 0 0,.int .i64 2,.bool false,.int .i64 0,.slice (some ⟨wo.heap.size,0,none⟩) 1 1] 48 (0,0)):=by rw[hW6];exact qh (by simp)
        have hS6:=HSf.out.kept qE hk6 (fun b h1 h2=>(haf.out b h2).2 h1)
        have hSz:∀b,S' b→b<wo.heap.size:=fun b hb=>HSf.out.inb b hb
        have hlm:(f.blocks.map (ZS k f.regs)).length=f.blocks.length:=List.length_map _
        refine(insB_slo W6 hS6 (by omega) (by omega) (head_own hN6) rfl (fun u hu=>by
         simp only[List.mem_cons,List.not_mem_nil,or_false]at hu
         rcases hu with rfl|rfl|rfl|rfl|rfl|rfl<;>rfl) (fun b h1 h2=>by have:=hSz b h1;omega) (fun b h=>by omega) hV6 (fun h=>by have:=hSz _ h;omega)).mono ?_
        rintro e W7 ⟨p',c',S'',rfl,hS7,hsub,hK7⟩
        rw[hlm]at hS7 ⊢
        have hO7:=(hK7.block O (by omega) (fun h=>(haf.out O h).2 rfl)).trans hO6
        have hR7:=(hK7.block _ (by omega) (fun h=>by have:=haf.out _ h;omega)).trans ((hk6.block _ (q9 HRo.out) (by show ¬ _=O;omega)).trans HRo.out)
        have hb7:Below w.heap.size w W7:=(HBo.out.trans (hk6.below (B:=w.heap.size) (by omega) (fun b h=>by omega))).trans (hK7.below (B:=w.heap.size) (by omega) (fun b h=>by have:=haf.out b h;omega))
        have hlu:∀b,S'' b→w.heap.size+1<b∧b≠O:=fun b hb=>by
         rcases hsub b hb with h|h|h
         ·have:=haf.out b h;exact⟨by omega,this.2⟩
         ·exact⟨by omega,by omega⟩
         exact⟨by omega,by omega⟩
        obtain⟨ob,of7⟩:=blk hO7
        have q0:=ob 0
        have q1':=ob 1
        have q2':=ob 2
        have q3':=ob 3
        obtain⟨rb,rf7⟩:=blk hR7
        have t0:=rb 0
        have t1:=rb 1
        have t2:=rb 2
        have t3:=rb 3
        simp only[List.getElem?_toArray,List.getElem?_cons_zero,List.getElem?_cons_succ]at q0 q1' q2' q3' t0 t1 t2 t3
        have oz7:=q9 hO7
        have rz7:=q9 hR7
        have hOR:¬ (O=w.heap.size+1):=by omega
        have hsY:¬ (w.heap.size+1=O):=by omega
        have HS7:=q7 hS7
        have HR7:=q7 hR7
        have HB7:=q7 hb7
        have hp8:=q7 hlu
        have hwo:w.heap.size≤O:=by omega
        clear hW6 hk6 hO6 hN6 hV6 hS6 hSz hlm hS7 hsub hK7 hO7 hR7 hb7 hlu ob rb ob0 ob1 ob2 ob3 of
        go_wp2_with fail
        exact rnd_yes HN.out.1 HN.out.2.1 (by unfold I64;omega) haA hwo HS7.out hp8.out HR7.out hOR rfl rfl rfl HB7.out HMy.out
       have hjl:j<(zd j (ZS k f.regs) f.blocks).length:=by rw[qX];exact hlt
       obtain⟨g',c',cs,T,hv,hgz,hSg,hcl,hx,hTg,hTS,hce,hfz,⟨cur,hau⟩,put⟩:=HS'.out.focus qE (by omega) hjl
       rw[xm hjl (Nat.le_refl _)]at hx
       obtain⟨rfl,rfl⟩:g=g'∧c=c':=by injection hv with h1 _ h2;injection h1 with h1;injection h1 with h1;exact⟨h1,h2⟩
       have hsu:=qU (u:=ZS k f.regs) hlt
       have hbm:f.blocks[j]∈f.blocks:=List.getElem_mem hlt
       have hfin:=HC.out.fin j hlt
       obtain⟨b',o',q1,c1,q2,c2,q3,c3,hp,e0,e1',e2,e3,e4,e5,_,_,_,hl2,_⟩:=zE HRd.out HBo.out hlt
       cases hp
       obtain⟨b',o',q1',c1',q2',c2',q3',c3',hp,y0,y1,y2,y3,y4,y5,_,_,_,_,_,_,hsl,_⟩:=zE HRd.out (Below.refl _ _) hlt
       cases hp
       obtain⟨rfl,rfl⟩:q2'=q2∧c2'=c2:=by
        have h1:=(HBo.out.cell (q8 y1)).trans y1
        rw[e1']at h1
        injection h1 with h1
        injection h1 with h1 _ h2
        exact⟨h1.symm,h2.symm⟩
       have HE:=q7 (And.intro y0 (And.intro y1 (And.intro y2 (And.intro y3 (And.intro y4 y5)))))
       have hgL:=q8 y0
       clear y0 y1 y2 y3 y4 y5 e0 e1' e2 e3 e4 e5 hv
       have HSl:=q7 hsl
       have HBm:=q7 hbm
       have HFi:=q7 hfin
       have hargs:=fun y (e:zK k f.blocks[j]=some y)=>HC.out.args HP.out hbm e
       have HAr:=q7 hargs
       obtain⟨v1,v2,v3,S1,S2,S3,hcs,ik,io,hP1,hL2,hT3,a12,a13,a23,u1,u2,u3⟩:=hx
       obtain⟨r1,d1,rfl,_,_⟩:=hP1.sl.val
       obtain⟨r2,d2,rfl,_,hd2⟩:=hL2.sl.val
       obtain⟨r3,d3,rfl,_,_⟩:=hT3.sl.val
       subst hcs
       have x5:=hce 5 (by omega)
       simp only[List.getElem?_cons_zero,List.getElem?_cons_succ]at x5
       have hTw:∀b,T b→S' b∧b<wo.heap.size:=fun b hb=>⟨hTS b hb,HS'.out.inb b (hTS b hb)⟩
       have hG3:∀b,S3 b→b<wo.heap.size∧b≠g∧Wq.heap.size≤b∧b≠O:=fun b hb=>⟨(hTw b (u3 b hb)).2,fun e=>hTg (e ▸ u3 b hb),haf.out b (hTw b (u3 b hb)).1⟩
       have hG2:∀b,S2 b→b<wo.heap.size∧b≠g∧Wq.heap.size≤b∧b≠O:=fun b hb=>⟨(hTw b (u2 b hb)).2,fun e=>hTg (e ▸ u2 b hb),haf.out b (hTw b (u2 b hb)).1⟩
       have hgn:=haf.out g hSg
       have HG:=q7 (And.intro hTw (And.intro hG3 (And.intro hG2 hgn)))
       have HA:=q7 (And.intro a12 (And.intro a13 a23))
       have HU:=q7 (And.intro u1 (And.intro u2 u3))
       have HIk:=q7 (And.intro ik io)
       have HP1:=q7 hP1
       have HL2:=q7 hL2
       have HT3:=q7 hT3
       have haG:=q7 put
       have hbZ:=q7 hau
       have HCe:=q7 hce
       have HTg:=q7 hTg
       have HSu:=q7 hsu
       have hto:∀t∈f.blocks[j].fin.to,0≤t∧t<(40:Int):=fun t ht=>by have:=hfin.to t ht;omega
       have HTo:=q7 hto
       have hln:f.blocks[j].fin.to.length≤1000000:=by
        have h1:=hfin.len
        have h2:=hfin.kind
        omega
       generalize hbk:f.blocks[j]=bk at *
       clear hsl hbm hfin hargs hsu put hau hce hTg hTS hSg a12 a13 a23 u1 u2 u3 ik io hP1 hL2 hT3 hTw hG3 hG2 hcl hto hp7
       go_wp2_with fail
       go_loopg [84] bk.fin.to.length (fun qq s wr=>∃i:Nat,i≤bk.fin.to.length∧qq=bk.fin.to.length - i∧s = .int .i64 i∧SlO 3 1 kP wr (.slice r3 bk.fin.to.length d3) (zd i (·+1) bk.fin.to) S3∧Kept S3 wo wr)
       case atStart=>exact⟨0,by omega,rfl,rfl,by rw[zD];exact HT3.out.sl,Kept.refl _ _⟩
       case round=>
        obtain⟨i,hi,rfl,rfl,hT,hKt⟩:=hrel
        have hp9:=hKt.size
        have x5r:wr.cell? ⟨g,j*6+5,none⟩=some (.slice r3 bk.fin.to.length d3):=(hKt.cell (p:=⟨g,j*6+5,none⟩) hgz (fun h=>(HG.out.2.1 g h).2.1 rfl)).trans x5
        have hgr:g<wr.heap.size:=by omega
        have HT:=q7 hT
        have HKt:=q7 hKt
        clear hT hKt
        by_cases hil:i<bk.fin.to.length
        ·have hcY:i<(zd i (·+1) bk.fin.to).length:=by rw[qX];exact hil
         obtain⟨gt,ct,cst,Tt,hvt,hgt,heJ,hhQ,hxt,hhR,hhS,hbJ,hhT,⟨curt,hbK⟩,putt⟩:=HT.out.focus qT (by omega) hcY
         rw[xm hcY (Nat.le_refl _)]at hxt
         obtain⟨hcZ,_⟩:=hxt
         subst hcZ
         obtain rfl:r3=some ⟨gt,0,none⟩:=by injection hvt
         have htb:=HTo.out _ (List.getElem_mem hil)
         have hlw:=qU (u:=(·+1:Int→Int)) hil
         have t0:=hbJ 0 (by omega)
         simp only[List.getElem?_cons_zero,Nat.add_zero,Nat.mul_one]at t0
         have t2:=hhT i
         have hw1:IntKind.i64.wrap (bk.fin.to[i]+1)=bk.fin.to[i]+1:=by rw[IntKind.wrap_i64];omega
         have hpf:=q7 hlw
         have hdC:=q7 putt
         have hdD:=q7 hbK
         have hhU:=q7 hbJ
         have hhV:=q7 heJ
         clear hvt hlw putt hbK hbJ heJ hhQ hhR hhS
         generalize hte:bk.fin.to[i]=te at *
         go_wp2_with fail
         have hput:=hdC.out (wr.setCell ⟨gt,i,none⟩ (.int .i64 (te+1))) [.int .i64 (te+1)] (te+1) (fun _=>False) (by
           have h1:=RowPut.set (RowPut.same (w':=wr) hdD.out rfl hhU.out) rfl (j:=0) (by omega) (.int .i64 (te+1))
           simp only[Nat.add_zero,Nat.mul_one,List.set_cons_zero]at h1
           simp only[Nat.mul_one]
           exact h1) rfl (fun u hu=>by
           simp only[List.mem_cons,List.not_mem_nil,or_false]at hu
           rw[hu]
           rfl) (by rw[Go.Deep.nblk_setCell];exact Nat.le_refl _) (fun b h1 h2 h3=>Go.Deep.blk_setCell_other _ _ _ b h3) ⟨rfl,by unfold I64;omega⟩ (fun b h=>h.elim)
         rw[hpf.out]at hput
         have hrel:SlO 3 1 kP (wr.setCell ⟨gt,i,none⟩ (.int .i64 (te+1))) (.slice (some ⟨gt,0,none⟩) bk.fin.to.length d3) (zd (i+1) (·+1) bk.fin.to) S3∧Kept S3 wo (wr.setCell ⟨gt,i,none⟩ (.int .i64 (te+1))):=
          ⟨hput.grow (fun b h=>h.elim id (fun h=>h.elim)) (HT.out.inb.mono (by rw[Go.Deep.nblk_setCell];exact Nat.le_refl _)),HKt.out.setCell (p:=⟨gt,i,none⟩) hhV.out _⟩
         have ha7:=q7 hrel
         clear hput hrel
         go_roundg (bk.fin.to.length - (i+1))
         case measure=>omega
         case rel=>exact⟨i+1,by omega,rfl,by go_num,ha7.out.1,ha7.out.2⟩
        obtain rfl:i=bk.fin.to.length:=by omega
        have hTf:=HT.out
        rw[zr]at hTf
        have HTf:=q7 hTf
        clear hTf x5r
        obtain⟨wp,hwp⟩:∃wp,wp=wr:=⟨_,rfl⟩
        subst hwp
        have hbp:=HBo.out.trans (HKt.out.below (B:=w.heap.size) (by omega) (fun b hb=>by have:=HG.out.2.1 b hb;omega))
        have hFp:=(HKt.out.block _ (by omega) (fun h=>by have:=HG.out.2.1 _ h;omega)).trans HFo.out
        have hno:zK k bk=none→∀WF,Below wp.heap.size wp WF→∃S'',SlO 48 6 BlkO WF (.slice (some ⟨g,0,none⟩) f.blocks.length c) (zd (j+1) (ZS k f.regs) f.blocks) S''∧(∀b,S'' b→Wq.heap.size≤b∧b≠O)∧Kept (fun b=>Wq.heap.size≤b∧b≠O) W5 WF:=fun he WF hb=>by
         have hkw:Kept S3 wo WF:=HKt.out.trans (Kept.of_below (S:=fun _=>False) hb) (fun _ _ h=>h.elim)
         have hT3:=HTf.out.below qT hb
         have hP1:SlQ 101 2 32 PhiO WF (.slice r1 bk.phis.length d1) bk.phis S1:=⟨HP1.out.sl.kept zq hkw (HA.out.2.1.symm),HP1.out.bd⟩
         have hL2:SlQ 53 8 80 InsO WF (.slice r2 bk.list.length d2) bk.list S2:=⟨HL2.out.sl.kept qH hkw (HA.out.2.2.symm),HL2.out.bd⟩
         have hblk:BlkO WF [.slice r1 bk.phis.length d1,.slice r2 bk.list.length d2,.int .i64 bk.fin.kind,.bool bk.fin.onr,.int .i64 bk.fin.onn,.slice r3 bk.fin.to.length d3] (ZS k f.regs bk) (fun b=>S1 b∨S2 b∨S3 b):=by
          rw[jX he]
          exact⟨_,_,_,S1,S2,S3,rfl,HIk.out.1,HIk.out.2,hP1,hL2,⟨hT3,by rw[List.length_map];exact HT3.out.bd⟩,HA.out.1,HA.out.2.1,HA.out.2.2,fun _ h=>.inl h,fun _ h=>.inr (.inl h),fun _ h=>.inr (.inr h)⟩
         have hT:∀b,S1 b∨S2 b∨S3 b→T b:=fun b h=>h.elim (HU.out.1 b) fun h=>h.elim (HU.out.2.1 b) (HU.out.2.2 b)
         have hput:=haG.out WF _ _ _ (RowPut.same hbZ.out (hkw.block g hgz (fun h=>(HG.out.2.1 g h).2.1 rfl)) HCe.out) rfl (fun u hu=>by
          simp only[List.mem_cons,List.not_mem_nil,or_false]at hu
          rcases hu with rfl|rfl|rfl|rfl|rfl|rfl<;>rfl) hkw.size (fun b h1 h2 h3=>hkw.block b (HS'.out.inb b h1) (fun h=>h2 (HU.out.2.2 b h))) hblk (fun b h=>⟨.inl (hT b h),Nat.lt_of_lt_of_le (HG.out.1 b (hT b h)).2 hkw.size⟩)
         rw[HSu.out]at hput
         refine⟨_,hput,fun b h=>h.elim (haf.out b) fun h=>haf.out b (HG.out.1 b (hT b h)).1,HK.out.trans hkw fun b _ h=>?_⟩
         have:=HG.out.2.1 b h
         exact⟨this.2.2.1,this.2.2.2⟩
        have HNo:=q7 hno
        have HBp:=q7 hbp
        have HFp:=q7 hFp
        obtain⟨y0,y1,y2,y3,y4,y5⟩:=HE.out
        have e0:=(hbp.cell (q8 y0)).trans y0
        have e1':=(hbp.cell (q8 y1)).trans y1
        have e2:=(hbp.cell (q8 y2)).trans y2
        have e3:=(hbp.cell (q8 y3)).trans y3
        have e4:=(hbp.cell (q8 y4)).trans y4
        have e5:=(hbp.cell (q8 y5)).trans y5
        obtain⟨fb,ff⟩:=blk hFp
        have fb3:=fb 3
        simp only[List.getElem?_toArray,List.getElem?_cons_zero,List.getElem?_cons_succ]at fb3
        have fz:=q9 hFp
        have ez:=q8 e0
        obtain⟨gb,hgb⟩:∃gb,gb=xx k bk:=⟨_,rfl⟩
        have HGb:=q7 hgb
        clear hno hbp hFp y0 y1 y2 y3 y4 y5 fb hgb
        cases gb
        ·go_wp2_with (go_at_call 50;refine(ZW bk _ _ _ _ _ _ k w _ (HBp.out.trans (Below.trans bZ (Below.refl _ _))) hl2 HSl.out).mono ?_;rintro e w2 ⟨⟨x,qx,cx,rfl,hx⟩,hb2⟩;clear hx;rw[←HGb.out];unfold k9;have HB2:Hid (Below wp.heap.size wp w2):=q7 (Below.trans bZ (hb2.mono (by simp)));clear hb2)
         have hnn:zK k bk=none:=by
          have:=HGb.out
          unfold xx at this
          cases e:zK k bk with
          | none=>rfl
          | some y=>rw[e]at this;cases this
         go_roundg (f.blocks.length - (j+1))
         case measure=>omega
         case rel=>
          obtain⟨S'',s1,s2,s3⟩:=HNo.out hnn _ (HB2.out.alloc (by have:=HB2.out.size;omega) _)
          exact⟨j+1,S'',by omega,rfl,by go_num,s1,s2,s3⟩
        obtain⟨y,hy⟩:∃y,zK k bk=some y:=by
         have:=HGb.out
         unfold xx at this
         exact Option.isSome_iff_exists.1 this.symm
        have HY:=q7 hy
        clear hy
        go_wp2_with (go_at_call 50;refine(ZW bk _ _ _ _ _ _ k w _ (HBp.out.trans (Below.trans bZ (Below.refl _ _))) hl2 HSl.out).mono ?_;rintro e w2 ⟨⟨x,qx,cx,rfl,hx⟩,hb2⟩;obtain⟨rfl,hsx,hlx⟩:=hx y HY.out;have HSx:=q7 hsx;clear hx hsx;rw[←HGb.out];unfold k9;have HB2:Hid (Below wp.heap.size wp w2):=q7 (Below.trans bZ (hb2.mono (by simp)));clear hb2)
        obtain⟨wl,hwl⟩:∃wl,wl=w2.alloc (.cells #[.int .i64 x.op,.int .i64 x.dst,.bool x.ar,.int .i64 x.an,.bool x.br,.int .i64 x.bn,.int .i64 x.fn,.slice qx x.args.length cx] 53):=⟨_,rfl⟩
        rw[←hwl]
        have hbl:Below wp.heap.size wp wl:=by rw[hwl];exact HB2.out.alloc (by have:=HB2.out.size;omega) _
        have hXl:wl.heap[w2.heap.size]?=some (.cells #[.int .i64 x.op,.int .i64 x.dst,.bool x.ar,.int .i64 x.an,.bool x.br,.int .i64 x.bn,.int .i64 x.fn,.slice qx x.args.length cx] 53 (0,0)):=by rw[hwl];exact qh rfl
        have hXz:wo.heap.size≤w2.heap.size:=by have:=HB2.out.size;omega
        obtain⟨X,hX⟩:∃X,X=w2.heap.size:=⟨_,rfl⟩
        rw[←hX]at hXl hXz ⊢
        have hkl:Kept S3 wo wl:=HKt.out.trans (Kept.of_below (S:=fun _=>False) hbl) (fun _ _ h=>h.elim)
        have hgl:wl.heap[g]?=wo.heap[g]?:=hkl.block g hgz (fun h=>(HG.out.2.1 g h).2.1 rfl)
        have hlb:=HBp.out.trans (hbl.mono HBp.out.size)
        have hFl:=(hbl.block _ fz).trans HFp.out
        have hl1:=(zP HY.out).1
        obtain⟨ini,hdE⟩:∃ini,ini=bk.list.dropLast:=⟨_,rfl⟩
        rw[←hdE]at hl1
        have hll:bk.list.length=ini.length+1:=by rw[hl1];simp
        have hhW:bk.list.length≤300:=by rw[←hbk];exact Nat.le_trans (kx hlt) HC.out.many
        have hhX:ini.length≤299:=by omega
        have hap:=HAr.out x HY.out
        obtain⟨gl,cl,_,_,hvl,_,heK,hrr⟩:=HL2.out.sl.focus qH (by omega) (i:=0) (by omega)
        obtain⟨rfl,rfl⟩:r2=some ⟨gl,0,none⟩∧d2=cl:=by injection hvl with h1 _ h2;exact⟨h1,h2⟩
        have hLl:SlO 53 8 InsO wl (.slice (some ⟨gl,0,none⟩) bk.list.length d2) bk.list S2:=HL2.out.sl.kept qH hkl (HA.out.2.2.symm)
        have hLi:SlO 53 8 InsO wl (.slice (some ⟨gl,0,none⟩) ini.length d2) ini S2:=by
         have:=hLl.pre (by omega) (by omega) (m:=ini.length) (by omega)
         rwa [show bk.list.take ini.length=ini by rw[hl1,List.take_left]]at this
        have x1:=(World.cell?_of_block (a:=⟨g,j*6+1,none⟩) hgl).trans (HCe.out 1 (by omega))
        simp only[List.getElem?_cons_zero,List.getElem?_cons_succ]at x1
        have x1f:wl.frozen? ⟨g,j*6+1,none⟩=false:=(World.frozen?_of_block (a:=⟨g,j*6+1,none⟩) hgl).trans (hfz _)
        have x1z:g<wl.heap.size:=Nat.lt_of_lt_of_le hgz hkl.size
        have hwi:IntKind.i64.wrap ((bk.list.length:Int) - 1)=((ini.length:Nat):Int):=by rw[IntKind.wrap_i64];omega
        have hdi:ini.length≤d2:=by omega
        have hg2:¬ S2 g:=fun h=>(HG.out.2.2.1 g h).2.1 rfl
        have hs0:LstS wo wl (wl.drew.setCell ⟨g,j*6+1,none⟩ (.slice (some ⟨gl,0,none⟩) ini.length d2)) g (j*6) S2 (.slice r1 bk.phis.length d1) (.slice r3 bk.fin.to.length d3) bk.fin ini (some ⟨gl,0,none⟩) d2 S2:=
         ⟨hLi.loc qH (fun b hb=>(Go.Deep.blk_setCell_other _ _ _ b (fun e=>hg2 ((show b=g from e) ▸ hb)))) (by rw[Go.Deep.nblk_setCell];exact Nat.le_refl _),fun b hb=>.inl hb,RowPut.set (RowPut.same (w':=wl.drew) hbZ.out hgl HCe.out) rfl (j:=1) (by omega) _,(Kept.refl _ wl).drew.setCell (p:=⟨g,j*6+1,none⟩) (.inr rfl) _⟩
        have HS0:=q7 hs0
        have HXl:=q7 hXl
        have HKl:=q7 hkl
        have HLb:=q7 hlb
        have HFl:=q7 hFl
        have HIn:=q7 (And.intro hdE hl1)
        have HAp:=q7 hap
        have HG2:=q7 hg2
        clear hrr hll hwl hbl hXl hX hkl hgl hlb hFl hl1 hdE hap hvl heK hLl hLi hg2 hs0 e0 e1' e2 e3 e4 e5 ff fb3 fz ez HNo
        go_region
        obtain⟨wm,hwm⟩:∃wm,wm=(wl.setCell ⟨g,j*6+1,none⟩ (.slice (some ⟨gl,0,none⟩) ini.length d2)).drew:=⟨_,rfl⟩
        rw[←hwm]
        have hsm:LstS wo wl wm g (j*6) S2 (.slice r1 bk.phis.length d1) (.slice r3 bk.fin.to.length d3) bk.fin (ini++xU f.regs (x.args.take 0)) (some ⟨gl,0,none⟩) d2 S2:=by
         rw[hwm,List.take_zero,show xU f.regs []=[]from rfl,List.append_nil]
         exact HS0.out
        have hkeep:∀W:World,Kept (fun b=>S2 b∨b=g) wl W→(W.heap[X]?=some (.cells #[.int .i64 x.op,.int .i64 x.dst,.bool x.ar,.int .i64 x.an,.bool x.br,.int .i64 x.bn,.int .i64 x.fn,.slice qx x.args.length cx] 53 (0,0)))∧W.heap[w.heap.size]?=some (.cells #[.string f.name,.int .i64 f.params,.int .i64 f.regs,.slice (some ⟨gq,oq,none⟩) f.blocks.length e1] 37 (0,0))∧Below w.heap.size w W:=fun W hk=>by
         refine⟨(hk.block X (q9 HXl.out) (fun h=>?_)).trans HXl.out,(hk.block _ (q9 HFl.out) (fun h=>?_)).trans HFl.out,HLb.out.trans (hk.below HLb.out.size (fun b hb=>?_))⟩
         ·rcases h with h|h
          ·have:=HG.out.2.2.1 X h;omega
          omega
         ·rcases h with h|h
          ·have:=HG.out.2.2.1 _ h;omega
          omega
         rcases hb with h|h
         ·have:=HG.out.2.2.1 _ h;omega
         omega
        have hXm:=(hkeep _ hsm.2.2.2).1
        have xb7:=(blk hXm).1 7
        have xz:=q9 hXm
        simp only[List.getElem?_toArray,List.getElem?_cons_zero,List.getElem?_cons_succ]at xb7
        have HSm:=q7 hsm
        have heL:=q7 hkeep
        clear hwm hsm hkeep hXm HS0
        go_wp2_with fail
        go_loopg [127] x.args.length (fun qq s wr=>∃(i:Nat) (pp:Option Addr) (cc:Nat) (SL:Blks),i≤x.args.length∧qq=x.args.length - i∧s = .int .i64 i∧LstS wo wl wr g (j*6) S2 (.slice r1 bk.phis.length d1) (.slice r3 bk.fin.to.length d3) bk.fin (ini++xU f.regs (x.args.take i)) pp cc SL)
        case atStart=>exact⟨0,_,_,_,by omega,rfl,rfl,HSm.out⟩
        case round=>
         obtain⟨i,pp,cc,SL,hi,rfl,rfl,hs⟩:=hrel
         obtain⟨hXr,hFr,hbr⟩:=heL.out _ hs.2.2.2
         have xb7r:=(blk hXr).1 7
         have xzr:=q9 hXr
         have fb2r:=(blk hFr).1 2
         have fzr:=q9 hFr
         simp only[List.getElem?_toArray,List.getElem?_cons_zero,List.getElem?_cons_succ]at xb7r fb2r
         have HS:=q7 hs
         have HBr:=q7 hbr
         have HFr:=q7 hFr
         clear hs hbr hXr hFr xb7 xz
         by_cases hil:i<x.args.length
         ·obtain⟨vb,vo,hqx,va0,va1,va2⟩:=Xk HSx.out HBr.out hil
          subst hqx
          have vz:=q8 va0
          have hms:=XX (R:=f.regs) hil
          have HMs:=q7 hms
          have hw2:IntKind.i64.wrap (f.regs+(i:Int))=f.regs+(i:Int):=by have:=HAp.out.1;rw[IntKind.wrap_i64];omega
          generalize hav:x.args[i]=av at *
          clear hms
          go_wp2_with fail
          obtain⟨w7,hw7⟩:∃w7,w7=wr.alloc (.cells #[.bool av.1,.int .i64 av.2] 43):=⟨_,rfl⟩
          rw[←hw7]
          have hb7:Below wr.heap.size wr w7:=by rw[hw7];exact bZ
          have hV7:w7.heap[wr.heap.size]?=some (.cells #[.bool av.1,.int .i64 av.2] 43 (0,0)):=by rw[hw7];exact qh rfl
          have hgw:g<wr.heap.size:=Nat.lt_of_lt_of_le x1z HS.out.2.2.2.size
          have hlen:(ini++xU f.regs (x.args.take i)).length=ini.length+i:=by simp only[List.length_append,vK,List.length_take]<;>omega
          have HB7:=q7 hb7
          have HLen:=q7 hlen
          obtain⟨Sp,hSp⟩:∃Sp:World→Prop,Sp=fun w'=>w'.heap[g]?=wr.heap[g]?∧w'.heap[w.heap.size]?=some (.cells #[.string f.name,.int .i64 f.params,.int .i64 f.regs,.slice (some ⟨gq,oq,none⟩) f.blocks.length e1] 37 (0,0))∧w'.heap[wr.heap.size]?=some (.cells #[.bool av.1,.int .i64 av.2] 43 (0,0)):=⟨_,rfl⟩
          have ha6:∀w',Sp w'→w'.cell? ⟨g,j*6+1,none⟩=some (.slice pp (ini++xU f.regs (x.args.take i)).length cc)∧w'.frozen? ⟨g,j*6+1,none⟩=false∧g<w'.heap.size∧w'.cell? ⟨w.heap.size,2,none⟩=some (.int .i64 f.regs)∧w.heap.size<w'.heap.size∧w'.cell? ⟨wr.heap.size,0,none⟩=some (.bool av.1)∧w'.cell? ⟨wr.heap.size,1,none⟩=some (.int .i64 av.2)∧wr.heap.size<w'.heap.size:=fun w' h=>by
           rw[hSp]at h
           obtain⟨h1,h2,h3⟩:=h
           have h0:=HS.out.2.2.1.cell (j:=1) (by omega)
           refine⟨(World.cell?_of_block (a:=⟨g,j*6+1,none⟩) h1).trans h0.1,(World.frozen?_of_block (a:=⟨g,j*6+1,none⟩) h1).trans h0.2.1,?_,(blk h2).1 2,q9 h2,(blk h3).1 0,(blk h3).1 1,q9 h3⟩
           obtain⟨_,_,_,h4,_⟩:=HS.out.2.2.1
           rw[h4]at h1
           exact q9 h1
          have hSk:∀{U:Blks} {a b:World},Sp a→Kept U a b→¬ U g→¬ U w.heap.size→¬ U wr.heap.size→Sp b:=fun {U a b} h hk n1 n2 n3=>by
           have hq:=ha6 a h
           rw[hSp]at h ⊢
           exact⟨(hk.block _ hq.2.2.1 n1).trans h.1,(hk.block _ (q9 h.2.1) n2).trans h.2.1,(hk.block _ (q9 h.2.2) n3).trans h.2.2⟩
          have hS7:Sp w7.drew:=by
           rw[hSp]
           exact⟨HB7.out.block g hgw,(HB7.out.block _ (q9 HFr.out)).trans HFr.out,hV7⟩
          refine qm (S:=Sp) (by kernel_rfl) 15 ?_
          refine tkZ 0 132 (.pointer (some ⟨g,j*6,none⟩)) rfl rfl hS7 (fun w' h=>by
           obtain⟨s1,s2,s3,s4,s5,s6,s7,s8⟩:=ha6 w' h
           go_simp) ?_
          refine tkZ 1 133 (.pointer (some ⟨g,j*6,none⟩)) rfl rfl hS7 (fun w' h=>by
           obtain⟨s1,s2,s3,s4,s5,s6,s7,s8⟩:=ha6 w' h
           go_simp) ?_
          refine tkZ 2 134 (.pointer (some ⟨g,j*6,none⟩)) rfl rfl hS7 (fun w' h=>by
           obtain⟨s1,s2,s3,s4,s5,s6,s7,s8⟩:=ha6 w' h
           go_simp) ?_
          refine tkZ 3 135 (.pointer (some ⟨g,j*6+1,none⟩)) rfl rfl hS7 (fun w' h=>by
           obtain⟨s1,s2,s3,s4,s5,s6,s7,s8⟩:=ha6 w' h
           go_simp) ?_
          refine tkZ 4 136 (.slice pp (ini++xU f.regs (x.args.take i)).length cc) rfl rfl hS7 (fun w' h=>by
           obtain⟨s1,s2,s3,s4,s5,s6,s7,s8⟩:=ha6 w' h
           go_simp) ?_
          refine tkZ 5 137 (.pointer (some ⟨w.heap.size,2,none⟩)) rfl rfl hS7 (fun w' h=>by
           obtain⟨s1,s2,s3,s4,s5,s6,s7,s8⟩:=ha6 w' h
           go_simp) ?_
          refine tkZ 6 138 (.int .i64 f.regs) rfl rfl hS7 (fun w' h=>by
           obtain⟨s1,s2,s3,s4,s5,s6,s7,s8⟩:=ha6 w' h
           go_simp) ?_
          refine tkZ 7 139 (.int .i64 i) rfl rfl hS7 (fun w' h=>by
           obtain⟨s1,s2,s3,s4,s5,s6,s7,s8⟩:=ha6 w' h
           go_simp) ?_
          refine tkZ 8 140 (.int .i64 (f.regs+(i:Int))) rfl rfl hS7 (fun w' h=>by
           obtain⟨s1,s2,s3,s4,s5,s6,s7,s8⟩:=ha6 w' h
           go_simp) ?_
          refine tkZ 9 141 (.agg #[.bool av.1,.int .i64 av.2]) rfl rfl hS7 (fun w' h=>by
           obtain⟨s1,s2,s3,s4,s5,s6,s7,s8⟩:=ha6 w' h
           go_simp) ?_
          refine tkZ 10 142 (.agg #[.int .i64 1,.int .i64 (f.regs+(i:Int)),.bool av.1,.int .i64 av.2,.bool false,.int .i64 0,.int .i64 0,.slice none 0 0]) rfl rfl hS7 (fun w' h=>by
           obtain⟨s1,s2,s3,s4,s5,s6,s7,s8⟩:=ha6 w' h
           go_simp) ?_
          have hS8:Sp (w7.drew.alloc (.cells #[.int .i64 1,.int .i64 (f.regs+(i:Int)),.bool av.1,.int .i64 av.2,.bool false,.int .i64 0,.int .i64 0,.slice none 0 0] 53)):=hSk hS7 ((Kept.refl (fun _=>False) _).alloc _) (fun h=>h) (fun h=>h) (fun h=>h)
          have hpg:=HB7.out.size
          refine qk (i:=11) (by kernel_rfl) (qn 143 (.slice (some ⟨w7.heap.size,0,none⟩) 1 1) (w7.drew.alloc (.cells #[.int .i64 1,.int .i64 (f.regs+(i:Int)),.bool av.1,.int .i64 av.2,.bool false,.int .i64 0,.int .i64 0,.slice none 0 0] 53)) rfl rfl rfl (by go_simp) hS8 ?_)
          have hay:Below wr.heap.size wr (w7.drew.alloc (.cells #[.int .i64 1,.int .i64 (f.regs+(i:Int)),.bool av.1,.int .i64 av.2,.bool false,.int .i64 0,.int .i64 0,.slice none 0 0] 53)):=HB7.out.drew.alloc (by show wr.heap.size≤w7.heap.size;omega) _
          refine qk (i:=12) (by kernel_rfl) (zx 144 _ _ 41 rfl rfl rfl rfl 53 iI _ 8 80 Tryz.underlying41 l1 l2 l3 l4 rfl (by decide) qH (by go_simp) (HS.out.1.below qH hay) ⟨w7.heap.size,0,none⟩ 1 (cpyC (f.regs+(i:Int)) av) (Q4 (f.regs+(i:Int)) av) (by go_simp) rfl ?hn (Qj _ _) (T:=fun _=>False) (Qi _ ?hd ?hv) ?ha ?ht ?hm ?hb ?_)
          case hn=>exact qS _ _ _ rfl
          case hd=>have:=HAp.out.1;unfold I64;omega
          case hv=>exact va2
          case ha=>exact fun k h1 h2=>h2
          case ht=>exact fun k h=>h.elim
          case hm=>rw[HLen.out];unfold maxLen;have:=HAp.out.1;omega
          case hb=>rw[HLen.out];have:=HAp.out.1;omega
          intro v' w8 hsn
          obtain⟨pv,cv,SL',hv8,h8g,hK8,hs8⟩:=HS.out.add x1z HG2.out hay hsn
          subst hv8
          have hnS:∀b,b<wl.heap.size→¬ S2 b→¬ SL b:=fun b h1 h2 h3=>(HS.out.2.1 b h3).elim h2 fun h=>by omega
          have hzl:=HS.out.2.2.2.size
          have hS9:Sp w8:=hSk hS8 hK8 (hnS _ x1z HG2.out) (hnS _ (q9 HFl.out) (fun h=>by have:=HG.out.2.2.1 _ h;omega)) (fun h=>(by have h3:=HS.out.1.inb _ h;omega))
          refine⟨hS9,?_⟩
          refine qk (i:=13) (by kernel_rfl) (qn 145 (.pointer (some ⟨g,j*6,none⟩)) w8 rfl rfl rfl (by go_simp) hS9 ?_)
          refine qk (i:=14) (by kernel_rfl) (qn 146 (.pointer (some ⟨g,j*6+1,none⟩)) w8 rfl rfl rfl (by go_simp) hS9 ?_)
          obtain⟨s1,s2,s3,s4,s5,s6,s7,s8⟩:=ha6 w8 hS9
          refine qk (i:=15) (by kernel_rfl) (qz (w8.setCell ⟨g,j*6+1,none⟩ (.slice pv (ini++xU f.regs (x.args.take i)++[Q4 (f.regs+(i:Int)) av]).length cv)) rfl rfl rfl (by go_simp) (fun h=>absurd rfl h) (qB (by kernel_rfl) ?_ _))
          show Exit.inBlock 7 _ Exit.normal _ _
          obtain⟨w9,hw9⟩:∃w9,w9=w8.setCell ⟨g,j*6+1,none⟩ (.slice pv (ini++xU f.regs (x.args.take i)++[Q4 (f.regs+(i:Int)) av]).length cv):=⟨_,rfl⟩
          rw[←hw9]at hs8 ⊢
          have hs9:∃(pp:Option Addr) (cc:Nat) (SL:Blks),LstS wo wl w9 g (j*6) S2 (.slice r1 bk.phis.length d1) (.slice r3 bk.fin.to.length d3) bk.fin (ini++(xU f.regs (x.args.take (i+1)))) pp cc SL:=by
           rw[HMs.out,←List.append_assoc]
           exact⟨_,_,_,hs8⟩
          have HS9:=q7 hs9
          clear hw9 hs9 hs8 hsn hK8 h8g hS9 hS8 hS7 hay s1 s2 s3 s4 s5 s6 s7 s8
          go_wp2_with fail
          go_roundg (x.args.length - (i+1))
          case measure=>omega
          case rel=>
           obtain⟨pp',cc',SL9,h9⟩:=HS9.out
           exact⟨i+1,pp',cc',SL9,by omega,rfl,by go_num,h9⟩
         obtain rfl:i=x.args.length:=by omega
         have hs:=HS.out
         rw[List.take_of_length_le (Nat.le_refl _)]at hs
         have hs0:LstS wo wl wr g (j*6) S2 (.slice r1 bk.phis.length d1) (.slice r3 bk.fin.to.length d3) bk.fin (ini++(xU f.regs x.args++kb f.regs 0)) pp cc SL:=by
          rw[show kb f.regs 0=[]from rfl,List.append_nil]
          exact hs
         have HS0:=q7 hs0
         clear hs hs0 HS HBr
         go_wp2_with fail
         go_loopg [151] x.args.length (fun qq s wr=>∃(i:Nat) (pp:Option Addr) (cc:Nat) (SL:Blks),i≤x.args.length∧qq=x.args.length - i∧s = .int .i64 i∧LstS wo wl wr g (j*6) S2 (.slice r1 bk.phis.length d1) (.slice r3 bk.fin.to.length d3) bk.fin (ini++(xU f.regs x.args++kb f.regs i)) pp cc SL)
         case atStart=>exact⟨0,_,_,_,by omega,rfl,rfl,HS0.out⟩
         case round=>
          obtain⟨i,pp,cc,SL,hi,rfl,rfl,hs⟩:=hrel
          obtain⟨hXr,hFr,hbr⟩:=heL.out _ hs.2.2.2
          have fb2r:=(blk hFr).1 2
          have fzr:=q9 hFr
          simp only[List.getElem?_toArray,List.getElem?_cons_zero,List.getElem?_cons_succ]at fb2r
          have HS:=q7 hs
          have HBr:=q7 hbr
          have HFr:=q7 hFr
          clear hs hbr hXr hFr HS0
          by_cases hil:i<x.args.length
          ·have hw2:IntKind.i64.wrap (f.regs+(i:Int))=f.regs+(i:Int):=by have:=HAp.out.1;rw[IntKind.wrap_i64];omega
           go_wp2_with fail
           obtain⟨w7,hw7⟩:∃w7,w7=wr:=⟨_,rfl⟩
           rw[←hw7]
           have hb7:Below wr.heap.size wr w7:=by rw[hw7];exact Below.refl _ _
           have hgw:g<wr.heap.size:=Nat.lt_of_lt_of_le x1z HS.out.2.2.2.size
           have hlen:(ini++(xU f.regs x.args++kb f.regs i)).length=ini.length+x.args.length+i:=by simp only[List.length_append,vK,Qh]<;>omega
           have HB7:=q7 hb7
           have HLen:=q7 hlen
           obtain⟨Sp,hSp⟩:∃Sp:World→Prop,Sp=fun w'=>w'.heap[g]?=wr.heap[g]?∧w'.heap[w.heap.size]?=some (.cells #[.string f.name,.int .i64 f.params,.int .i64 f.regs,.slice (some ⟨gq,oq,none⟩) f.blocks.length e1] 37 (0,0)):=⟨_,rfl⟩
           have ha6:∀w',Sp w'→w'.cell? ⟨g,j*6+1,none⟩=some (.slice pp (ini++(xU f.regs x.args++kb f.regs i)).length cc)∧w'.frozen? ⟨g,j*6+1,none⟩=false∧g<w'.heap.size∧w'.cell? ⟨w.heap.size,2,none⟩=some (.int .i64 f.regs)∧w.heap.size<w'.heap.size:=fun w' h=>by
            rw[hSp]at h
            obtain⟨h1,h2⟩:=h
            have h0:=HS.out.2.2.1.cell (j:=1) (by omega)
            refine⟨(World.cell?_of_block (a:=⟨g,j*6+1,none⟩) h1).trans h0.1,(World.frozen?_of_block (a:=⟨g,j*6+1,none⟩) h1).trans h0.2.1,?_,(blk h2).1 2,q9 h2⟩
            obtain⟨_,_,_,h4,_⟩:=HS.out.2.2.1
            rw[h4]at h1
            exact q9 h1
           have hSk:∀{U:Blks} {a b:World},Sp a→Kept U a b→¬ U g→¬ U w.heap.size→Sp b:=fun {U a b} h hk n1 n2=>by
            have hq:=ha6 a h
            rw[hSp]at h ⊢
            exact⟨(hk.block _ hq.2.2.1 n1).trans h.1,(hk.block _ (q9 h.2) n2).trans h.2⟩
           have hS7:Sp w7.drew:=by
            rw[hSp]
            exact⟨HB7.out.block g hgw,(HB7.out.block _ (q9 HFr.out)).trans HFr.out⟩
           refine qm (S:=Sp) (by kernel_rfl) 16 ?_
           refine tkZ 0 154 (.pointer (some ⟨g,j*6,none⟩)) rfl rfl hS7 (fun w' h=>by
            obtain⟨s1,s2,s3,s4,s5⟩:=ha6 w' h
            go_simp) ?_
           refine tkZ 1 155 (.pointer (some ⟨g,j*6,none⟩)) rfl rfl hS7 (fun w' h=>by
            obtain⟨s1,s2,s3,s4,s5⟩:=ha6 w' h
            go_simp) ?_
           refine tkZ 2 156 (.pointer (some ⟨g,j*6,none⟩)) rfl rfl hS7 (fun w' h=>by
            obtain⟨s1,s2,s3,s4,s5⟩:=ha6 w' h
            go_simp) ?_
           refine tkZ 3 157 (.pointer (some ⟨g,j*6+1,none⟩)) rfl rfl hS7 (fun w' h=>by
            obtain⟨s1,s2,s3,s4,s5⟩:=ha6 w' h
            go_simp) ?_
           refine tkZ 4 158 (.slice pp (ini++(xU f.regs x.args++kb f.regs i)).length cc) rfl rfl hS7 (fun w' h=>by
            obtain⟨s1,s2,s3,s4,s5⟩:=ha6 w' h
            go_simp) ?_
           refine tkZ 5 159 (.int .i64 i) rfl rfl hS7 (fun w' h=>by
            obtain⟨s1,s2,s3,s4,s5⟩:=ha6 w' h
            go_simp) ?_
           refine tkZ 6 160 (.pointer (some ⟨w.heap.size,2,none⟩)) rfl rfl hS7 (fun w' h=>by
            obtain⟨s1,s2,s3,s4,s5⟩:=ha6 w' h
            go_simp) ?_
           refine tkZ 7 161 (.int .i64 f.regs) rfl rfl hS7 (fun w' h=>by
            obtain⟨s1,s2,s3,s4,s5⟩:=ha6 w' h
            go_simp) ?_
           refine tkZ 8 162 (.int .i64 i) rfl rfl hS7 (fun w' h=>by
            obtain⟨s1,s2,s3,s4,s5⟩:=ha6 w' h
            go_simp) ?_
           refine tkZ 9 163 (.int .i64 (f.regs+(i:Int))) rfl rfl hS7 (fun w' h=>by
            obtain⟨s1,s2,s3,s4,s5⟩:=ha6 w' h
            go_simp) ?_
           refine tkZ 10 164 (.agg #[.bool true,.int .i64 (f.regs+(i:Int))]) rfl rfl hS7 (fun w' h=>by
            obtain⟨s1,s2,s3,s4,s5⟩:=ha6 w' h
            go_simp) ?_
           refine tkZ 11 165 (.agg #[.int .i64 1,.int .i64 i,.bool true,.int .i64 (f.regs+(i:Int)),.bool false,.int .i64 0,.int .i64 0,.slice none 0 0]) rfl rfl hS7 (fun w' h=>by
            obtain⟨s1,s2,s3,s4,s5⟩:=ha6 w' h
            go_simp) ?_
           have hS8:Sp (w7.drew.alloc (.cells #[.int .i64 1,.int .i64 i,.bool true,.int .i64 (f.regs+(i:Int)),.bool false,.int .i64 0,.int .i64 0,.slice none 0 0] 53)):=hSk hS7 ((Kept.refl (fun _=>False) _).alloc _) (fun h=>h) (fun h=>h)
           have hpg:=HB7.out.size
           refine qk (i:=12) (by kernel_rfl) (qn 166 (.slice (some ⟨w7.heap.size,0,none⟩) 1 1) (w7.drew.alloc (.cells #[.int .i64 1,.int .i64 i,.bool true,.int .i64 (f.regs+(i:Int)),.bool false,.int .i64 0,.int .i64 0,.slice none 0 0] 53)) rfl rfl rfl (by go_simp) hS8 ?_)
           have hay:Below wr.heap.size wr (w7.drew.alloc (.cells #[.int .i64 1,.int .i64 i,.bool true,.int .i64 (f.regs+(i:Int)),.bool false,.int .i64 0,.int .i64 0,.slice none 0 0] 53)):=HB7.out.drew.alloc (by show wr.heap.size≤w7.heap.size;omega) _
           refine qk (i:=13) (by kernel_rfl) (zx 167 _ _ 41 rfl rfl rfl rfl 53 iI _ 8 80 Tryz.underlying41 l1 l2 l3 l4 rfl (by decide) qH (by go_simp) (HS.out.1.below qH hay) ⟨w7.heap.size,0,none⟩ 1 (cpyC (i:Int) (true,f.regs+(i:Int))) (Q4 (i:Int) (true,f.regs+(i:Int))) (by go_simp) rfl ?hn (Qj _ _) (T:=fun _=>False) (Qi _ ?hd ?hv) ?ha ?ht ?hm ?hb ?_)
           case hn=>exact qS _ _ _ rfl
           case hd=>have:=HAp.out.1;unfold I64;omega
           case hv=>have:=HAp.out.1;unfold I64;simp only;omega
           case ha=>exact fun k h1 h2=>h2
           case ht=>exact fun k h=>h.elim
           case hm=>rw[HLen.out];unfold maxLen;have:=HAp.out.1;omega
           case hb=>rw[HLen.out];have:=HAp.out.1;omega
           intro v' w8 hsn
           obtain⟨pv,cv,SL',hv8,h8g,hK8,hs8⟩:=HS.out.add x1z HG2.out hay hsn
           subst hv8
           have hnS:∀b,b<wl.heap.size→¬ S2 b→¬ SL b:=fun b h1 h2 h3=>(HS.out.2.1 b h3).elim h2 fun h=>by omega
           have hzl:=HS.out.2.2.2.size
           have hS9:Sp w8:=hSk hS8 hK8 (hnS _ x1z HG2.out) (hnS _ (q9 HFl.out) (fun h=>by have:=HG.out.2.2.1 _ h;omega))
           refine⟨hS9,?_⟩
           refine qk (i:=14) (by kernel_rfl) (qn 168 (.pointer (some ⟨g,j*6,none⟩)) w8 rfl rfl rfl (by go_simp) hS9 ?_)
           refine qk (i:=15) (by kernel_rfl) (qn 169 (.pointer (some ⟨g,j*6+1,none⟩)) w8 rfl rfl rfl (by go_simp) hS9 ?_)
           obtain⟨s1,s2,s3,s4,s5⟩:=ha6 w8 hS9
           refine qk (i:=16) (by kernel_rfl) (qz (w8.setCell ⟨g,j*6+1,none⟩ (.slice pv (ini++(xU f.regs x.args++kb f.regs i)++[Q4 (i:Int) (true,f.regs+(i:Int))]).length cv)) rfl rfl rfl (by go_simp) (fun h=>absurd rfl h) (qB (by kernel_rfl) ?_ _))
           show Exit.inBlock 9 _ Exit.normal _ _
           obtain⟨w9,hw9⟩:∃w9,w9=w8.setCell ⟨g,j*6+1,none⟩ (.slice pv (ini++(xU f.regs x.args++kb f.regs i)++[Q4 (i:Int) (true,f.regs+(i:Int))]).length cv):=⟨_,rfl⟩
           rw[←hw9]at hs8 ⊢
           have hs9:∃(pp:Option Addr) (cc:Nat) (SL:Blks),LstS wo wl w9 g (j*6) S2 (.slice r1 bk.phis.length d1) (.slice r3 bk.fin.to.length d3) bk.fin (ini++(xU f.regs x.args++kb f.regs (i+1))) pp cc SL:=by
            rw[XY,←List.append_assoc (xU f.regs x.args),←List.append_assoc ini]
            exact⟨_,_,_,hs8⟩
           have HS9:=q7 hs9
           clear hw9 hs9 hs8 hsn hK8 h8g hS9 hS8 hS7 hay s1 s2 s3 s4 s5
           go_wp2_with fail
           go_roundg (x.args.length - (i+1))
           case measure=>omega
           case rel=>
            obtain⟨pp',cc',SL9,h9⟩:=HS9.out
            exact⟨i+1,pp',cc',SL9,by omega,rfl,by go_num,h9⟩
          obtain rfl:i=x.args.length:=by omega
          have hgw:g<wr.heap.size:=Nat.lt_of_lt_of_le x1z HS.out.2.2.2.size
          obtain⟨r2',f2',_⟩:=HS.out.2.2.1.cell (j:=2) (by omega)
          obtain⟨r3',f3',_⟩:=HS.out.2.2.1.cell (j:=3) (by omega)
          obtain⟨r4',f4',_⟩:=HS.out.2.2.1.cell (j:=4) (by omega)
          obtain⟨r5',f5',_⟩:=HS.out.2.2.1.cell (j:=5) (by omega)
          have p3:j*6+3=j*6+2+1:=by omega
          have p4:j*6+4=j*6+2+2:=by omega
          have p5:j*6+5=j*6+2+3:=by omega
          rw[p3]at r3' f3'
          rw[p4]at r4' f4'
          rw[p5]at r5' f5'
          simp only[List.getElem?_cons_zero,List.getElem?_cons_succ]at r2' r3' r4' r5'
          have heM:∀WF,WF=((((wr.setCell ⟨g,j*6+2,none⟩ (.int .i64 2)).setCell ⟨g,j*6+2+1,none⟩ (.bool false)).setCell ⟨g,j*6+2+2,none⟩ (.int .i64 0)).setCell ⟨g,j*6+2+3,none⟩ (.slice (some ⟨wr.heap.size,0,none⟩) 1 1)).alloc (.cells #[.int .i64 1] 3)→∃S'',SlO 48 6 BlkO WF (.slice (some ⟨g,0,none⟩) f.blocks.length c) (zd (j+1) (ZS k f.regs) f.blocks) S''∧(∀b,S'' b→Wq.heap.size≤b∧b≠O)∧Kept (fun b=>Wq.heap.size≤b∧b≠O) W5 WF:=fun WF hWF=>by
           have hsL:=HS.out
           obtain⟨lL,lS,lR,lK⟩:=hsL
           have hsZ:g<wl.heap.size:=x1z
           have ht4:=HKl.out.size
           have ht5:=lK.size
           have hA1:Kept (fun b=>b=g) wr WF:=by
            rw[hWF]
            exact(((((Kept.refl (fun b=>b=g) wr).setCell (p:=⟨g,j*6+2,none⟩) rfl _).setCell (p:=⟨g,j*6+2+1,none⟩) rfl _).setCell (p:=⟨g,j*6+2+2,none⟩) rfl _).setCell (p:=⟨g,j*6+2+3,none⟩) rfl _).alloc _
           have hRP:RowPut wo WF 48 g (j*6) 6 [.slice r1 bk.phis.length d1,.slice pp (ini++(xU f.regs x.args++kb f.regs x.args.length)).length cc,.int .i64 2,.bool false,.int .i64 0,.slice (some ⟨wr.heap.size,0,none⟩) 1 1]:=by
            rw[hWF,←p3,←p4,←p5]
            have h2:=RowPut.set lR rfl (j:=2) (by omega) (.int .i64 2)
            have h3:=RowPut.set h2 rfl (j:=3) (by omega) (.bool false)
            have h4:=RowPut.set h3 rfl (j:=4) (by omega) (.int .i64 0)
            exact(RowPut.set h4 rfl (j:=5) (by omega) (.slice (some ⟨wr.heap.size,0,none⟩) 1 1)).of_block (Below.heap_alloc _ _ g (by simp only[Go.Deep.nblk_setCell];exact hgw))
           have hN:WF.heap[wr.heap.size]?=some (.cells #[.int .i64 1] 3 (0,0)):=by
            rw[hWF]
            exact qh (by simp only[Go.Deep.nblk_setCell])
           have hNz:=q9 hN
           have hpj:∀b,SL b→b≠g:=fun b hb e=>(lS b hb).elim (fun h=>HG2.out (e ▸ h)) fun h=>by omega
           have hhY:∀b,SL b→b<wr.heap.size:=fun b hb=>lL.inb b hb
           have hKo:Kept (fun b=>S3 b∨S2 b∨b=g) wo WF:=((HKl.out.mono fun _ _ h=>.inl h).trans lK (fun _ _ h=>.inr h)).trans hA1 (fun _ _ h=>.inr (.inr h))
           have hTo:SlO 3 1 kP WF (.slice (some ⟨wr.heap.size,0,none⟩) 1 1) [1] (fun b=>b=wr.heap.size):=by
            refine(SlO.flat (α:=Int) (xs:=[1]) (v:=.slice (some ⟨wr.heap.size,0,none⟩) 1 1) (base:=0) (cs:=fun _=>[.int .i64 1]) ⟨rfl,.inr ⟨wr.heap.size,1,#[.int .i64 1],rfl,Nat.zero_le _,hN,Nat.le_refl _,by unfold maxLen;omega,rfl,rfl⟩⟩ (fun _ _=>rfl) (fun _ _ u hu=>by rw[List.mem_singleton.1 hu];rfl) (fun i hi=>?_)).grow (fun b h=>by injection h with h;exact h.symm) (fun b h=>by rw[h];exact hNz)
            have hi1:i<1:=hi
            obtain rfl:i=0:=by omega
            exact⟨rfl,by unfold I64;simp only[List.getElem_cons_zero];omega⟩
           have hblk:BlkO WF [.slice r1 bk.phis.length d1,.slice pp (ini++(xU f.regs x.args++kb f.regs x.args.length)).length cc,.int .i64 2,.bool false,.int .i64 0,.slice (some ⟨wr.heap.size,0,none⟩) 1 1] (ZS k f.regs bk) (fun b=>S1 b∨SL b∨b=wr.heap.size):=by
            rw[jY HY.out,←HIn.out.1,XW]
            refine⟨_,_,_,S1,SL,fun b=>b=wr.heap.size,rfl,by unfold I64;simp only;omega,by unfold I64;simp only;omega,⟨HP1.out.sl.kept zq hKo (fun b h1 h2=>?_),HP1.out.bd⟩,⟨lL.loc qH (fun b hb=>hA1.block b (hhY b hb) (hpj b hb)) hA1.size,?_⟩,⟨hTo,by unfold reachBytes;simp⟩,fun b h1 h2=>?_,fun b h1 h2=>?_,fun b h1 h2=>?_,fun _ h=>.inl h,fun _ h=>.inr (.inl h),fun _ h=>.inr (.inr h)⟩
            ·rcases h1 with h|h|h
             ·exact HA.out.2.1 b h2 h
             ·exact HA.out.1 b h2 h
             exact HTg.out (h ▸ HU.out.1 b h2)
            ·have:=HAp.out.1
             simp only[List.length_append,vK,Qh]
             unfold reachBytes
             omega
            ·rcases lS b h2 with h|h
             ·exact HA.out.1 b h1 h
             have:=(HG.out.1 b (HU.out.1 b h1)).2;omega
            ·have:=(HG.out.1 b (HU.out.1 b h1)).2;omega
            have:=hhY b h1;omega
           have hTT:∀b,S1 b∨SL b∨b=wr.heap.size→(T b∨wo.heap.size≤b)∧b<WF.heap.size:=fun b hb=>by
            have hz:=hA1.size
            rcases hb with h|h|h
            ·exact⟨.inl (HU.out.1 b h),by have:=(HG.out.1 b (HU.out.1 b h)).2;omega⟩
            ·refine⟨(lS b h).elim (fun h=>.inl (HU.out.2.1 b h)) fun h=>.inr (by omega),by have:=hhY b h;omega⟩
            exact⟨.inr (by omega),by omega⟩
           have hput:=haG.out WF _ _ _ hRP rfl (fun u hu=>by
            simp only[List.mem_cons,List.not_mem_nil,or_false]at hu
            rcases hu with rfl|rfl|rfl|rfl|rfl|rfl<;>rfl) hKo.size (fun b h1 h2 h3=>hKo.block b (HS'.out.inb b h1) (fun h=>by
             rcases h with h|h|h
             ·exact h2 (HU.out.2.2 b h)
             ·exact h2 (HU.out.2.1 b h)
             exact h3 h)) hblk hTT
           rw[HSu.out]at hput
           refine⟨_,hput,fun b h=>?_,HK.out.trans hKo fun b _ h=>?_⟩
           ·rcases h with h|h
            ·exact haf.out b h
            rcases (hTT b h).1 with h|h
            ·exact haf.out b (HG.out.1 b h).1
            exact⟨by omega,by omega⟩
           rcases h with h|h|h
           ·have:=HG.out.2.1 b h;exact⟨this.2.2.1,this.2.2.2⟩
           ·have:=HG.out.2.2.1 b h;exact⟨this.2.2.1,this.2.2.2⟩
           rw[h];exact HG.out.2.2.2
          have hgM:=q7 heM
          clear heM p3 p4 p5
          go_wp2_with fail
          obtain⟨S'',s1,s2,s3⟩:=hgM.out _ rfl
          have HSs:=q7 (And.intro s1 (And.intro s2 s3))
          clear s1 s2 s3 hgM
          go_roundg (f.blocks.length - (j+1))
          case measure=>omega
          case rel=>exact⟨j+1,S'',by omega,rfl,by go_num,HSs.out.1,HSs.out.2.1,HSs.out.2.2⟩
     repeat go_big_quiet_step (exact Calls.regrown_of (hcM _ _))
     refine wpQuiet_nil ?_
     intro Wq hWq
     have hbq:Below wr.heap.size wr Wq:=by
      obtain⟨p,rfl⟩:=hWq
      exact below_regrown _ _ _
     clear hWq hcM gb0 gb1 gb2 gb3 fb0 fb1 fb2 fb3 fz ff
     have hFq:=(hbq.block _ (q9 HFw.out)).trans HFw.out
     have hRq:=(hbq.block _ (q9 HRw.out)).trans HRw.out
     obtain⟨fb,ff⟩:=blk hFq
     have fb0:=fb 0
     have fb1:=fb 1
     have fb2:=fb 2
     have fb3:=fb 3
     simp only[List.getElem?_toArray,List.getElem?_cons_zero,List.getElem?_cons_succ]at fb0 fb1 fb2 fb3
     obtain⟨rb,rf⟩:=blk hRq
     have rb0:=rb 0
     have rb1:=rb 1
     have rb2:=rb 2
     have rb3:=rb 3
     simp only[List.getElem?_toArray,List.getElem?_cons_zero,List.getElem?_cons_succ]at rb0 rb1 rb2 rb3
     have fz:=q9 hFq
     have rz:=q9 hRq
     clear fb rb
     go_wp2_with fail
     exact Vq hRq rfl rfl rfl (HBw.out.trans (hbq.mono HBw.out.size)) HMy.out
    repeat go_big_quiet_step (exact Calls.regrown_of (hcM _ _))
    refine wpQuiet_nil ?_
    intro Wq hWq
    have hbq:Below wr.heap.size wr Wq:=by
     obtain⟨p,rfl⟩:=hWq
     exact below_regrown _ _ _
    clear hWq hcM gb0 gb1 gb2 gb3 fb0 fb1 fb2 fb3 fz ff
    have hFq:=(hbq.block _ (q9 HFw.out)).trans HFw.out
    have hRq:=(hbq.block _ (q9 HRw.out)).trans HRw.out
    obtain⟨fb,ff⟩:=blk hFq
    have fb0:=fb 0
    have fb1:=fb 1
    have fb2:=fb 2
    have fb3:=fb 3
    simp only[List.getElem?_toArray,List.getElem?_cons_zero,List.getElem?_cons_succ]at fb0 fb1 fb2 fb3
    obtain⟨rb,rf⟩:=blk hRq
    have rb0:=rb 0
    have rb1:=rb 1
    have rb2:=rb 2
    have rb3:=rb 3
    simp only[List.getElem?_toArray,List.getElem?_cons_zero,List.getElem?_cons_succ]at rb0 rb1 rb2 rb3
    have fz:=q9 hFq
    have rz:=q9 hRq
    clear fb rb
    go_wp2_with fail
    exact Vq hRq rfl rfl rfl (HBw.out.trans (hbq.mono HBw.out.size)) HMy.out
   repeat go_big_quiet_step (exact Calls.regrown_of (hcM _ _))
   refine wpQuiet_nil ?_
   intro Wq hWq
   have hbq:Below wr.heap.size wr Wq:=by
    obtain⟨p,rfl⟩:=hWq
    exact below_regrown _ _ _
   clear hWq hcM gb0 gb1 gb2 gb3 fb0 fb1 fb2 fb3 fz ff
   have hFq:=(hbq.block _ (q9 HFw.out)).trans HFw.out
   have hRq:=(hbq.block _ (q9 HRw.out)).trans HRw.out
   obtain⟨fb,ff⟩:=blk hFq
   have fb0:=fb 0
   have fb1:=fb 1
   have fb2:=fb 2
   have fb3:=fb 3
   simp only[List.getElem?_toArray,List.getElem?_cons_zero,List.getElem?_cons_succ]at fb0 fb1 fb2 fb3
   obtain⟨rb,rf⟩:=blk hRq
   have rb0:=rb 0
   have rb1:=rb 1
   have rb2:=rb 2
   have rb3:=rb 3
   simp only[List.getElem?_toArray,List.getElem?_cons_zero,List.getElem?_cons_succ]at rb0 rb1 rb2 rb3
   have fz:=q9 hFq
   have rz:=q9 hRq
   clear fb rb
   go_wp2_with fail
   exact Vq hRq rfl rfl rfl (HBw.out.trans (hbq.mono HBw.out.size)) HMy.out
  repeat go_big_quiet_step (exact Calls.regrown_of (hcM _ _))
  refine wpQuiet_nil ?_
  intro Wq hWq
  have hbq:Below wr.heap.size wr Wq:=by
   obtain⟨p,rfl⟩:=hWq
   exact below_regrown _ _ _
  clear hWq hcM gb0 gb1 gb2 gb3 fb0 fb1 fb2 fb3 fz ff
  have hFq:=(hbq.block _ (q9 HFw.out)).trans HFw.out
  have hRq:=(hbq.block _ (q9 HRw.out)).trans HRw.out
  obtain⟨fb,ff⟩:=blk hFq
  have fb0:=fb 0
  have fb1:=fb 1
  have fb2:=fb 2
  have fb3:=fb 3
  simp only[List.getElem?_toArray,List.getElem?_cons_zero,List.getElem?_cons_succ]at fb0 fb1 fb2 fb3
  obtain⟨rb,rf⟩:=blk hRq
  have rb0:=rb 0
  have rb1:=rb 1
  have rb2:=rb 2
  have rb3:=rb 3
  simp only[List.getElem?_toArray,List.getElem?_cons_zero,List.getElem?_cons_succ]at rb0 rb1 rb2 rb3
  have fz:=q9 hFq
  have rz:=q9 hRq
  clear fb rb
  go_wp2_with fail
  exact Vq hRq rfl rfl rfl (HBw.out.trans (hbq.mono HBw.out.size)) HMy.out
end Go.Proofs.YtecdphhdmjmmnaaGreatDoor
