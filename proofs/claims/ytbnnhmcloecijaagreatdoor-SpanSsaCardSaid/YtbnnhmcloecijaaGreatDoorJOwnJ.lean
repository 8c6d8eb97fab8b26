/-
  Plain: functions of the call's own, an instruction after the other turned: one step, by th
-/
import Derived.Test.YtbnnhmcloecijaaGreatDoorJCopD
import Derived.RangeFuncWrites
set_option maxRecDepth 100000
set_option maxHeartbeats 16000000
namespace Go.Proofs.YtbnnhmcloecijaaGreatDoor
open Go.RowKit

theorem SlW.cell {α:Type} {e:TypeId} {size:Nat} {R:ElemO α} {w:World} {v:Value} {xs:List α} {S:Blks} {cs:Nat→List Value} {T:Nat→Blks} (h:SlW e size R w v xs S cs T) {i:Nat} (hi:i<xs.length):∃g c,v = .slice (some ⟨g,0,none⟩) xs.length c∧S g∧g<w.heap.size∧∀j,j<size→w.cell? ⟨g,i*size+j,none⟩=(cs i)[j]?:=by
 rcases h.own.2 with ⟨_,h2⟩|⟨g,cap,cur,hv,_,hg,_,_,_,htk⟩
 ·omega
 refine ⟨g,cap,hv,h.blk g (by rw [hv];rfl),(yL.1 hg).1,fun j hj=>?_⟩
 rw [cell_of_row w g _ cur e (0,0) hg]
 have hlt:i*size+j<xs.length*size:=by
  have:(i+1)*size≤xs.length*size:=ye _ hi
  rw [Nat.add_mul] at this
  omega
 rw [←xQ xs.length h.len i j hi hj,←htk,List.getElem?_take_of_lt hlt,xJ]

def K1 (b:BlkL) (l:List InsL):BlkL:={ b with list:=l }
def setI (f:FunL) (m j:Nat) (i:InsL):FunL:={ f with blocks:=f.blocks.modify m fun b=>K1 b (b.list.set j i) }
theorem Qy {f:FunL} {m j:Nat} {i:InsL} (hm:m<f.blocks.length):f.blocks.modify m (fun b=>K1 b (b.list.set j i))=f.blocks.set m (K1 f.blocks[m] (f.blocks[m].list.set j i)):=by
 refine yV (by simp) fun k h1 h2=>?_
 have h3:k<f.blocks.length:=by simpa using h1
 rw [List.getElem_modify,y8]
 split
 ·next e=>subst e;rfl
 rfl

theorem FunO.ins {w:World} {cs:List Value} {f:FunL} {T:Blks} (h:FunO w cs f T) {m j:Nat} (hm:m<f.blocks.length) (hj:j<f.blocks[m].list.length):∃bb cb lb c2 ci Ti,cs=[.string f.name,.int .i64 f.params,.int .i64 f.regs,.slice (some ⟨bb,0,none⟩) f.blocks.length cb]∧
  w.cell? ⟨bb,m*6+1,none⟩=some (.slice (some ⟨lb,0,none⟩) f.blocks[m].list.length c2)∧T bb∧T lb∧lb≠bb∧InsO w ci f.blocks[m].list[j] Ti∧¬ Ti lb∧¬ Ti bb∧(∀k,Ti k→T k)∧(∀jj,jj<8→w.cell? ⟨lb,j*8+jj,none⟩=ci[jj]?)∧ci.length=8∧(∀o,w.frozen? ⟨lb,o,none⟩=false)∧(∃cur,w.heap[lb]?=some (.cells cur 57 (0,0)))∧
  ∀(w':World) (ci':List Value) (i':InsL) (Ti':Blks),RowPut w w' 57 lb (j*8) 8 ci'→ci'.length=8→(∀u∈ci',u.oneCell'=true)→w.heap.size≤w'.heap.size→(∀k,T k→¬ Ti k→k≠lb→w'.heap[k]?=w.heap[k]?)→
   InsO w' ci' i' Ti'→(∀k,Ti' k→(Ti k∨w.heap.size≤k)∧k<w'.heap.size)→FunO w' cs (setI f m j i') (fun k=>T k∨Ti' k):=by
 obtain ⟨v,hcs,hnm,i1,i2,hB⟩:=h
 obtain ⟨bb,cb,cB,TB,hv,hbs,hTb,hlB,hip,hnb,hTB,hcB,hfB,⟨curB,hiv⟩,hput⟩:=hB.sl.focus qK (by omega) hm
 obtain ⟨v1,v2,v3,S1,S2,S3,rfl,j1,j2,h3,h4,h5,a1,a2,a3,g1,g2,g3⟩:=hip
 obtain ⟨lb,c2,ci,Ti,hv2,hls,hSl,hli,hI,hnl,hTi,hci,hfi,hbJ,hdT⟩:=h4.sl.focus xt (by omega) hj
 subst hv hv2
 have hne:lb≠bb:=fun e=>hnb (g2 _ (by rw [←e];exact hSl))
 refine ⟨bb,cb,lb,c2,ci,Ti,hcs,(hcB 1 (by omega)),hTb,hTB _ (g2 _ hSl),hne,hI,hnl,fun h=>hnb (g2 _ (hTi _ h)),fun k hk=>hTB _ (g2 _ (hTi _ hk)),hci,hli,hfi,hbJ,?_⟩
 intro w' ci' i' Ti' hp hl' h1' hs hk hI' hT'
 have e1:∀k,T k→¬ Ti k→k≠lb→w'.heap[k]?=w.heap[k]?:=hk
 have hL:=hdT w' ci' i' Ti' hp hl' h1' hs (fun k hk1 hk2 hk3=>e1 k (hTB _ (g2 _ hk1)) hk2 hk3) hI' hT'
 have hlen:(f.blocks[m].list.set j i').length=f.blocks[m].list.length:=by simp
 have h1n:∀k,S1 k→w'.heap[k]?=w.heap[k]?:=fun k hk=>e1 k (hTB _ (g1 _ hk)) (fun h=>a1 _ hk (hTi _ h)) (fun e=>a1 _ hk (by rw [e];exact hSl))
 have h3n:∀k,S3 k→w'.heap[k]?=w.heap[k]?:=fun k hk=>e1 k (hTB _ (g3 _ hk)) (fun h=>a3 _ (hTi _ h) hk) (fun e=>a3 _ hSl (by rw [←e];exact hk))
 have hpU:w'.heap[bb]?=w.heap[bb]?:=e1 bb hTb (fun h=>hnb (g2 _ (hTi _ h))) (fun e=>hne e.symm)
 have hB':BlkO w' [v1,.slice (some ⟨lb,0,none⟩) f.blocks[m].list.length c2,.int .i64 f.blocks[m].fin.kind,.bool f.blocks[m].fin.onr,.int .i64 f.blocks[m].fin.onn,v3] (K1 f.blocks[m] (f.blocks[m].list.set j i')) (fun k=>TB k∨Ti' k):=by
  refine ⟨v1,_,v3,S1,fun k=>S2 k∨Ti' k,S3,rfl,j1,j2,h3.loc xR (fun _ g=>g) h1n hs,⟨?_,by show (f.blocks[m].list.set j i').length*80≤_;rw [hlen];exact h4.bd⟩,h5.loc xr (fun _ g=>g) h3n hs,fun k x y=>?_,a2,fun k x y=>?_,fun k x=>.inl (g1 k x),fun k x=>?_,fun k x=>.inl (g3 k x)⟩
  ·exact hL
  ·rcases y with y|y
   ·exact a1 k x y
   rcases (hT' k y).1 with z|z
   ·exact a1 k x (hTi _ z)
   have:=h3.sl.inb k x;omega
  ·rcases x with x|x
   ·exact a3 k x y
   rcases (hT' k x).1 with z|z
   ·exact a3 k (hTi _ z) y
   have:=h5.sl.inb k y;omega
  rcases x with x|x
  ·exact .inl (g2 k x)
  exact .inr x
 have hiw:(f.blocks.set m (K1 f.blocks[m] (f.blocks[m].list.set j i'))).length=f.blocks.length:=by simp
 have hF:=hput w' _ (K1 f.blocks[m] (f.blocks[m].list.set j i')) (fun k=>TB k∨Ti' k) (RowPut.same hiv hpU hcB) hlB (fun u hu=>?_) hs (fun k hk1 hk2 hk3=>e1 k hk1 (fun h=>hk2 (g2 _ (hTi _ h))) (fun e=>hk2 (by rw [e];exact g2 _ hSl))) hB' (fun k hk=>?_)
 ·refine ⟨.slice (some ⟨bb,0,none⟩) f.blocks.length cb,hcs,hnm,i1,i2,⟨?_,?_⟩⟩
  ·show SlO _ _ _ _ _ (f.blocks.modify m _) _
   rw [Qy hm]
   exact hF.grow (fun k hk=>hk.elim .inl fun x=>x.elim (fun x=>.inl (hTB _ x)) .inr) (fun k hk=>by
    rcases hk with x|x
    ·exact xB (hB.sl.inb k x) hs
    exact (hT' k x).2)
  show (f.blocks.modify m _).length*96≤_
  rw [Qy hm,hiw]
  exact hB.bd
 ·obtain ⟨q1,d1,rfl,_⟩:=h3.sl.val
  obtain ⟨q3,d3,rfl,_⟩:=h5.sl.val
  simp only [yC,yG,yl] at hu
  rcases hu with rfl|rfl|rfl|rfl|rfl|rfl<;>rfl
 rcases hk with x|x
 ·exact ⟨.inl x,xB (hB.sl.inb k (hTB k x)) hs⟩
 refine ⟨?_,(hT' k x).2⟩
 rcases (hT' k x).1 with z|z
 ·exact .inl (g2 _ (hTi _ z))
 exact .inr z
end Go.Proofs.YtbnnhmcloecijaaGreatDoor
namespace Go.Proofs.YtbnnhmcloecijaaGreatDoor
open Go.RowKit Go.Shelf

def SeqAt (F:Fence) (n:Nat) (P:Program) (g:Nat) (lb:Array Value) (el:Nat→Array Value) (N:Nat) (Kp:World→World→Prop) (w:World):Prop:=
 ∀(l:Nat) (J Jx:Nat→World→Prop) (W:World),Below w.heap.size w W→AbidesFrom W.heap.size J→AbidesFrom W.heap.size Jx→
  (∀i W1,i<N→J i W1→YieldAt F (n - 1) P l (el i) W1 fun e W'=>(e = .returned (.bool true)∧J (i+1) W'∧Kp W1 W')∨(e = .returned (.bool false)∧Jx i W'))→J 0 W→
  CallsIn F n P g (#[.func (.yield l) #[] #[]]++lb) W fun e W'=>(∃v,e = .returned v)∧(J N W'∨∃i,i<N∧Jx i W')
def Qz (B:Nat) (Kp:World→World→Prop) (I:Nat→World→Prop) (Ix:Code→Nat→World→Prop) (i:Nat) (W:World) (e:Exit) (W':World):Prop:=
 KeepsFrom B W W'∧match e with
  | .normal=>Kp W W'∧I (i+1) W'
  | .ret=>Ix .ret i W'
  | .exit id=>Ix (.exit id) i W'
  | .goto t=>Ix (.goto t) i W'
  | _=>False
section
variable {F : Fence} {n : Nat} {P : Program} {g : Operand} {ps : Array Tmp} {assign body : Code} {Q : Exit → Act → World → Prop} {a : Act} {w : World} {gf : Nat} {lb : Array Value} {el : Nat → Array Value} {N : Nat} {Kp : World → World → Prop} {w0 : World}
theorem Zi (hro:F.round=none) (h1:1≤n) (hg:a.eval g = .func (.func gf) #[] lb) (hFg:F.fn gf) (eg:∀args w,(callFunc gf args).run P w = .ok (.enter gf args) w) (hseq:SeqAt F (n - 1) P gf lb el N Kp w0)
  (hKt:∀{A B C:World},Kp A B→Kp B C→Kp A C) (hKb:∀(W:World) (l:Nat) (o o':Obj),w.heap.size≤l→W.heap[l]?=some o→o.isCells=false→o.isWalk=false→Kp W (W.putObj l o')) (hb0:Below w0.heap.size w0 w) (hps:∀i,i<N→(el i).size=ps.size)
  (I:Nat→World→Prop) (Ix:Code→Nat→World→Prop) (hI:OwnFrom w.heap.size I) (hIx:∀c,OwnFrom w.heap.size (Ix c)) (h0:I 0 w) (a₁:Nat→Act)
  (hassign:∀(l i:Nat) (W:World) (K:Act→World→Prop),i<N→K (a₁ i) W→assign.wpIn (F.inRound l) (n - 1 - 1) P (Exit.then K (fun _ _ _=>False)) { tmps:=(ps.zip (el i)).foldl (fun t (p,v)=>t.setIfInBounds p v) a.tmps,defers:=[] } W)
  (hbody:∀(l i:Nat) (W:World),w.heap.size≤l→i<N→I i W→body.wpIn (F.inRound l) (n - 1 - 1) P (fun e _ W'=>Qz w.heap.size Kp I Ix i W e W') (a₁ i) W)
  (hdone:∀(D:Nat) (W:World),w.heap.size≤D→I N W→W.heap[D]?=some (.deferred (some []))→Q .normal { a with defers:={ target:=.collected D,args:=#[] }::a.defers } W)
  (hstop:∀(D:Nat) (c:Code) (i:Nat) (W:World),w.heap.size≤D→i<N→Ix c i W→W.heap[D]?=some (.deferred (some []))→c.wpIn F n P Q { a with defers:={ target:=.collected D,args:=#[] }::a.defers } W) :
  (Code.rangeFunc g ps assign body).wpIn F n P Q a w:=by
 refine wpIn_rangeFunc fun fn hfn=>?_
 rw [hro]
 -- the record of the loop and the block for what rounds defer: the blocks L and D
 obtain ⟨rec,hrec⟩:∃rec:LoopState→Option Code→Loop,rec=fun st pe=>{ state:=st,pending:=pe,fn,tmps:=a.tmps,params:=ps,assign,body,defers:=w.heap.size }:=⟨_,rfl⟩
 have hst:∀st pe,{ rec .ready none with state:=st,pending:=pe }=rec st pe:=fun st pe=>by rw [hrec]
 let Bk:LoopState→Option Code→World→Prop:=fun st pe W=>W.heap[w.heap.size+1]?=some (.loop (rec st pe))∧W.heap[w.heap.size]?=some (.deferred (some []))
 have hf9:Bk .ready none ((w.alloc (.deferred (some []))).alloc (.loop (rec .ready none))):=
  ⟨qh (by simp),qg (qn w _)⟩
 have hfh:∀{st pe A B row},Bk st pe A→A.grownBy B row→(∀r,row=some r→∃o:Obj,A.heap[r]?=some o∧o.isWalk=true)→Bk st pe B:=fun h hg hr=>
  ⟨(grownBy_keeps hg hr h.1 rfl).trans h.1,(grownBy_keeps hg hr h.2 rfl).trans h.2⟩
 have hbZ:∀{st pe st' pe' A},Bk st pe A→Bk st' pe' (A.putObj (w.heap.size+1) (.loop (rec st' pe'))):=fun {st pe st' pe' A} h=>
  ⟨World.putObj_heap_same (q8 h.1),(World.putObj_heap_other (by omega)).trans h.2⟩
 obtain ⟨W1,hW1⟩:∃W1,W1=(w.alloc (.deferred (some []))).alloc (.loop (rec .ready none)):=⟨_,rfl⟩
 rw [←hW1] at hf9
 have hz1:W1.heap.size=w.heap.size+1+1:=by rw [hW1];simp
 have hent:(Instr.enterLoop fn a.tmps ps assign body none).run P w = .ok (w.heap.size+1,[{ target:=.collected w.heap.size,args:=#[] }]) W1:=by
  rw [hW1,hrec];exact run_enterLoop_outer _ _ _ _ _
 refine ⟨w.heap.size+1,[{ target:=.collected w.heap.size,args:=#[] }],W1,{ target:=.fn (.func gf) lb,args:=#[.func (.yield (w.heap.size+1)) #[] #[]] },W1,gf,
  #[.func (.yield (w.heap.size+1)) #[] #[]]++lb,W1,hent,?_,fun f' hf'=>by simp [Target.leads] at hf';subst hf';exact hFg,?_,fun _=>h1,?_⟩
 ·simp only [resolve,hg]
  simp [go_sem]
 ·simp [invoke,go_sem,eg]
 have hcD:∀{A:World} {row:Option Nat},(∀r,row=some r→W1.heap.size≤r∧∃o:Obj,A.heap[r]?=some o∧o.isWalk=true)→∀r,row=some r→w.heap.size≤r∧∃o:Obj,A.heap[r]?=some o∧o.isCells=false:=fun hr r e=>by
  obtain ⟨hB,o,ho,hw⟩:=hr r e
  exact ⟨by omega,o,ho,Obj.not_cells_of_walk hw⟩
 refine (hseq (w.heap.size+1) (fun i W=>I i W∧Bk .ready none W) (fun i W=>∃c,Ix c i W∧Bk .done (some c) W) _
  (by rw [hW1];exact hb0.trans ((((zI _ w).alloc (zK _) _).alloc (by simp) _).mono hb0.size))
  (fun s A B row hs hg' hr=>⟨hI s A B row hs.1 hg' (hcD hr),hfh hs.2 hg' fun r e=>(hr r e).2⟩)
  (fun s A B row ⟨c,hc,hk⟩ hg' hr=>⟨c,hIx c s A B row hc hg' (hcD hr),hfh hk hg' fun r e=>(hr r e).2⟩)
  (fun i W hlt ⟨hi,hk⟩=>?_) ⟨by rw [hW1];exact hI.alloc _ (hI.alloc _ h0),hf9⟩).mono ?_
 ·have hy:=run_yield (P:=P) (args:=el i) hk.1 (by rw [hrec];exact hps i hlt)
  rw [hrec] at hy
  refine ⟨fn,_,assign,body,hy,roundIn_of_wpIn hfn (hassign _ i W _ hlt ⟨_,run_beginRound hk.1 (by rw [hrec]),?_⟩)⟩
  rw [show ({ rec .ready none with state:=.busy }:Loop)=rec .busy none by rw [hrec]]
  have hkb:=hbZ (st':=.busy) (pe':=none) hk
  refine wpIn_mono (hbody _ i _ (by omega) hlt (hI.putObj _ hi (by omega) hk.1 rfl)) fun e a3 W3 ⟨hk3,hp⟩=>?_
  have hb3:Bk .busy none W3:=⟨hk3.same _ _ (by omega) hkb.1 rfl,hk3.same _ _ (zK _) hkb.2 rfl⟩
  have fin:∀jump:Option Code,(Instr.endRound (w.heap.size+1) jump).run P W3 = .ok (.bool jump.isNone) (W3.putObj (w.heap.size+1) (.loop (rec (if jump.isNone then .ready else .done) jump))):=fun jump=>by
   have:=run_endRound (P:=P) jump hb3.1
   rw [hrec] at this ⊢
   exact this
  have leave:∀c:Code,Ix c i W3→_:=fun c hc=>(⟨.bool false,W3.putObj (w.heap.size+1) (.loop (rec .done (some c))),fin (some c),.inr ⟨rfl,c,(hIx c).putObj _ hc (by omega) hb3.1 rfl,hbZ hb3⟩⟩:∃v W4,(Instr.endRound (w.heap.size+1) (some c)).run P W3 = .ok v W4∧((Ending.returned v = .returned (.bool true)∧(I (i+1) W4∧Bk .ready none W4)∧Kp W W4)∨(Ending.returned v = .returned (.bool false)∧∃c,Ix c i W4∧Bk .done (some c) W4)))
  cases e with
  | normal=>
   exact ⟨_,_,fin none,.inl ⟨rfl,⟨hI.putObj _ hp.2 (by omega) hb3.1 rfl,hbZ hb3⟩,hKt (hKt (hKb _ _ _ _ (by omega) hk.1 rfl rfl) hp.1) (hKb _ _ _ _ (by omega) hb3.1 rfl rfl)⟩⟩
  | ret=>exact leave _ hp
  | exit id=>exact leave _ hp
  | goto t=>exact leave _ hp
  | panic ch=>exact hp.elim
  | outgrown=>exact hp.elim
 have shut:∀{st pe W2},st≠.busy→Bk st pe W2→(Instr.endLoop (w.heap.size+1)).run P W2 = .ok pe (W2.putObj (w.heap.size+1) (.loop (rec .exhausted pe))):=fun {st pe W2} hne hk=>by
  have:=run_endLoop (P:=P) hk.1 (by rw [hrec];exact hne)
  rw [hrec] at this ⊢
  exact this
 rintro e W2 ⟨⟨v,rfl⟩,(⟨hi,hk⟩|⟨i,hlt,c,hi,hk⟩)⟩
 ·exact ⟨none,_,shut (by simp) hk,hdone _ _ (zK _) (hI.putObj _ hi (by omega) hk.1 rfl) (hbZ hk).2⟩
 exact ⟨some c,_,shut (by simp) hk,hstop _ c i _ (zK _) hlt ((hIx c).putObj _ hi (by omega) hk.1 rfl) (hbZ hk).2⟩
end
attribute [local go_sem] Oper.semAt_some

theorem QS {ts:Array Value} {n:Nat} (h:ts.size=n):ts=((List.range n).map fun i=>ts.getD i undef).toArray:=by
 subst h
 refine Array.ext (by simp) fun i h1 h2=>?_
 simp [Array.getD,h1]

def jy (ll:Nat→Nat):Nat→List (Nat×Nat)
 | 0=>[]
 | m+1=>jy ll m++(List.range (ll m)).map fun j=>(m,j)
theorem Y4 (ll:Nat→Nat) {m:Nat}:∀{n},m≤n→∃l,jy ll n=jy ll m++l
 | 0,h=>by
  obtain rfl:m=0:=by omega
  exact ⟨[],by simp⟩
 | n+1,h=>by
  rcases yq m (n+1) with g|g
  ·obtain ⟨l,e⟩:=Y4 ll (m:=m) (n:=n) (by omega)
   exact ⟨l++(List.range (ll n)).map fun j=>(n,j),by rw [jy,e,yF]⟩
  obtain rfl:m=n+1:=by omega
  exact ⟨[],by simp⟩
theorem ZT (ll:Nat→Nat) (m:Nat):(jy ll (m+1)).length=(jy ll m).length+ll m:=by simp [jy]
theorem Jj {ll:Nat→Nat} {m n j:Nat} (hm:m<n) (hj:j<ll m):(jy ll n)[(jy ll m).length+j]?=some (m,j):=by
 obtain ⟨l,e⟩:=Y4 ll (m:=m+1) (n:=n) (by omega)
 rw [e,List.getElem?_append_left (by rw [ZT];omega),jy,List.getElem?_append_right (by omega)]
 simp [hj]
theorem Kl {ll:Nat→Nat} {m n j:Nat} (hm:m<n) (hj:j<ll m):(jy ll m).length+j<(jy ll n).length:=by
 have:=Jj hm hj
 exact (List.getElem?_eq_some_iff.1 this).1
structure EachSh (Bx fb fo:Nat) (q:Option Addr) (nb c:Nat) (lq:Nat→Option Addr) (ll lc:Nat→Nat) (W:World):Prop where
 box:W.cell? ⟨Bx,0,none⟩=some (.pointer (some ⟨fb,fo,none⟩))
 fn:W.cell? ⟨fb,fo+3,none⟩=some (.slice q nb c)
 blk:∀m,m<nb→∃bb bo,q=some ⟨bb,bo,none⟩∧W.cell? ⟨bb,bo+m*6+1,none⟩=some (.slice (lq m) (ll m) (lc m))
def XI (lp:Nat→Nat×Nat) (ll:Nat→Nat) (nb i:Nat):Value:=match (jy ll nb)[i]? with
 | some (m,j)=>.pointer (some ⟨(lp m).1,(lp m).2+j*8,none⟩)
 | none=>undef
def Y5 (lp:Nat→Nat×Nat) (ll:Nat→Nat) (nb i:Nat):Array Value:=#[XI lp ll nb i]
theorem m5 {ll:Nat→Nat} {n i:Nat} (h:i<(jy ll n).length):∃m j,m<n∧j<ll m∧i=(jy ll m).length+j:=by
 induction n with
 | zero=>simp [jy] at h
 | succ n ih=>
  rw [ZT] at h
  rcases yq i (jy ll n).length with g|g
  ·obtain ⟨m,j,h1,h2,h3⟩:=ih g
   exact ⟨m,j,by omega,h2,h3⟩
  exact ⟨n,i - (jy ll n).length,by omega,by omega,by omega⟩
theorem Vc {lp:Nat→Nat×Nat} {ll:Nat→Nat} {nb m j:Nat} (hm:m<nb) (hj:j<ll m):XI lp ll nb ((jy ll m).length+j) = .pointer (some ⟨(lp m).1,(lp m).2+j*8,none⟩):=by
 unfold XI
 rw [Jj hm hj]
theorem jb {W:World} {l b o:Nat} {x:Obj} {v:Value} (h:W.heap[l]?=some x) (hx:x.isCells=false) (hc:W.cell? ⟨b,o,none⟩=some v):b≠l:=by
 rintro rfl
 unfold World.cell? at hc
 rw [h] at hc
 cases x<;>simp [Obj.isCells] at hx hc
theorem EachSh.other {Bx fb fo:Nat} {q:Option Addr} {nb c:Nat} {lq:Nat→Option Addr} {ll lc:Nat→Nat} {W W':World} (h:EachSh Bx fb fo q nb c lq ll lc W) (hk:∀b o v,W.cell? ⟨b,o,none⟩=some v→(b=Bx∨b=fb∨∃o,q=some ⟨b,o,none⟩)→W'.cell? ⟨b,o,none⟩=some v):EachSh Bx fb fo q nb c lq ll lc W':=
 ⟨hk _ _ _ h.box (.inl rfl),hk _ _ _ h.fn (.inr (.inl rfl)),fun m hm=>by
  obtain ⟨bb,bo,hq,hc⟩:=h.blk m hm
  exact ⟨bb,bo,hq,hk _ _ _ hc (.inr (.inr ⟨bo,hq⟩))⟩⟩
theorem EachSh.putObj {Bx fb fo:Nat} {q:Option Addr} {nb c:Nat} {lq:Nat→Option Addr} {ll lc:Nat→Nat} {W:World} (h:EachSh Bx fb fo q nb c lq ll lc W) {l:Nat} {o:Obj} (o':Obj) (hl:W.heap[l]?=some o) (ho:o.isCells=false):EachSh Bx fb fo q nb c lq ll lc (W.putObj l o'):=
 h.other fun b o v hc _=>by
  have hne:b≠l:=jb hl ho hc
  exact (zN (a:=⟨b,o,none⟩) (World.putObj_heap_other (by omega))).trans hc
theorem EachSh.below {Bx fb fo:Nat} {q:Option Addr} {nb c:Nat} {lq:Nat→Option Addr} {ll lc:Nat→Nat} {W W':World} (h:EachSh Bx fb fo q nb c lq ll lc W) (hb:Below W.heap.size W W'):EachSh Bx fb fo q nb c lq ll lc W':=
 h.other fun b o _ hc _=>(hb.cell (p:=⟨b,o,none⟩) (qd hc)).trans hc
/-! what a loop's invariant says abides the law's own book-keeping -/
theorem own_slo {α:Type} {e:TypeId} {size:Nat} {R:ElemO α} (hR:Qc R) {v:Value} {S:Blks} {B:Nat} (hS:∀b,S b→b<B) (g:Nat→List α):OwnFrom B (fun i W=>SlO e size R W v (g i) S):=fun s W W' row hs hg hr=>
 SlO.loc hR hs (fun k hk=>hg.block k (hs.inb k hk) (fun e=>by have:=(hr k e.symm).1;have:=hS k hk;omega)) hg.size
theorem own_sh {Bx fb fo:Nat} {q:Option Addr} {nb c:Nat} {lq:Nat→Option Addr} {ll lc:Nat→Nat} {B:Nat}:OwnFrom B (fun (_:Nat) W=>EachSh Bx fb fo q nb c lq ll lc W):=fun s W W' row hs hg hr=>
 hs.other fun b o v hc _=>(zN (a:=⟨b,o,none⟩) (hg.block b (qd hc) (fun e=>by
  obtain ⟨_,x,hx,hn⟩:=hr b e.symm
  exact jb hx hn hc rfl))).trans hc
theorem own_kept {S:Blks} {w0:World} {B:Nat} (hB:w0.heap.size≤B):OwnFrom B (fun (_:Nat) W=>Kept S w0 W):=fun s W W' row hs hg hr=>
 ⟨hg.os.trans hs.os,hg.tape.trans hs.tape,hg.output.trans hs.output,yv hs.size hg.size,fun k hk hn=>(hg.block k (xB hk hs.size) (fun e=>by have:=(hr k e.symm).1;omega)).trans (hs.block k hk hn)⟩

theorem each_at (F:Fence) (n:Nat) (hF:F.fn 40) (hro:F.round=none) (hn:1≤n) (Bx fb fo c nb:Nat) (q:Option Addr) (lq:Nat→Option Addr) (lp:Nat→Nat×Nat) (ll lc:Nat→Nat) (w:World) (hnb:nb*96≤140737488351232) (hll:∀m,m<nb→ll m*80≤140737488351232)
  (hlq:∀m,m<nb→0<ll m→lq m=some ⟨(lp m).1,(lp m).2,none⟩) (hsh:EachSh Bx fb fo q nb c lq ll lc w) :
  SeqAt F n Tryz.prog 40 #[.pointer (some ⟨Bx,0,none⟩)] (Y5 lp ll nb) (jy ll nb).length (fun W W'=>EachSh Bx fb fo q nb c lq ll lc W→EachSh Bx fb fo q nb c lq ll lc W') w:=by
 intro l J Jx W hW _ _ hY h0
 have HS:=q7 (hsh.other (W':=W) fun b o v hc _=>(hW.cell (p:=⟨b,o,none⟩) (qd hc)).trans hc)
 have HY:=q7 hY
 have HLQ:=q7 hlq
 have HLL:=q7 hll
 clear hsh hY hlq hW hll
 refine callsIn_of_wp Tryz.func40 rfl hF ?_ hro
 simp only [Tryz.ntmps40,List.size_toArray,yi,List.length_nil,Nat.reduceAdd,Nat.reduceSub,Array.replicate_succ,Array.replicate_zero,List.push_toArray,List.append_toArray,List.nil_append,List.cons_append]
 have cb:=HS.out.box
 have f0:=HS.out.fn
 gi_wp2
 gi_loopw [10] (fun i wr=>∃m:Nat,m≤nb∧i = .int .i64 m∧J (jy ll m).length wr∧EachSh Bx fb fo q nb c lq ll lc wr) (fun i _=>nb - (intOf i).toNat)
 case atStart=>exact ⟨0,by omega,rfl,h0,HS.out⟩
 case round=>
  obtain ⟨m,hm,rfl,hJ,hK⟩:=hrel
  obtain ⟨wo,hwo⟩:∃wo:World,wo=wr:=⟨_,rfl⟩
  have cb:=hK.box
  have c0:=hK.fn
  have HK:=q7 hK
  clear hK
  by_cases hlt:m<nb
  rotate_left
  ·obtain rfl:m=nb:=by omega
   gi_wp2
   go_end0
   exact ⟨⟨_,rfl⟩,.inl hJ⟩
  obtain ⟨b3,o3,rfl,e1⟩:=HK.out.blk m hlt
  have hl2:=HLL.out m hlt
  gi_wp2
  subst hwo
  gi_loopw [22] (fun i wr=>∃j:Nat,j≤ll m∧i = .int .i64 j∧J ((jy ll m).length+j) wr∧EachSh Bx fb fo (some ⟨b3,o3,none⟩) nb c lq ll lc wr) (fun i _=>ll m - (intOf i).toNat)
  case atStart=>exact ⟨0,by omega,rfl,hJ,HK.out⟩
  case round=>
   clear cb c0 HK e1
   obtain ⟨j,hj,rfl,hJ,hK⟩:=hrel
   have cb:=hK.box
   have c0:=hK.fn
   obtain ⟨_,_,he,e1⟩:=hK.blk m hlt
   cases he
   have HK:=q7 hK
   clear hK
   by_cases hjl:j<ll m
   ·have hlq:=HLQ.out m hlt (by omega)
    rw [hlq] at e1
    obtain ⟨fn,tmps,assign,body,hy,hR⟩:=HY.out _ wr (Kl hlt hjl) hJ
    have he:Y5 lp ll nb ((jy ll m).length+j)=#[.pointer (some ⟨(lp m).1,(lp m).2+j*8,none⟩)]:=by unfold Y5;rw [Vc hlt hjl]
    rw [he] at hy
    have HR:=q7 hR
    clear hR he hlq
    gi_wp2
    refine HR.out.mono ?_
    rintro e W3 (⟨rfl,hJ3,hk3⟩|⟨rfl,hJx3⟩)
    ·have HK3:=q7 (hk3 HK.out)
     clear hk3
     gi_wp2
     go_roundw
     case rel=>exact ⟨j+1,by omega,by go_num,hJ3,HK3.out⟩
     case measure=>simp [intOf];omega
    gi_wp2
    refine zk (results_none rfl _ _ _) rfl ?_
    exact ⟨⟨_,rfl⟩,.inr ⟨_,Kl hlt hjl,hJx3⟩⟩
   obtain rfl:j=ll m:=by omega
   gi_wp2
   go_roundw
   case rel=>exact ⟨m+1,by omega,by go_num,by rw [ZT];exact hJ,HK.out⟩
   case measure=>simp [intOf];omega
end Go.Proofs.YtbnnhmcloecijaaGreatDoor
namespace Go.Proofs.YtbnnhmcloecijaaGreatDoor

def cnt (had:Nat→Bool):Nat→Nat
 | 0=>0
 | k+1=>cnt had k+if had k then 1 else 0
def qE (f:FunL) (m:Nat):Nat:=(f.blocks[m]?.map fun b=>b.list.length).getD 0
theorem vG {f:FunL} {m:Nat} (h:m<f.blocks.length):qE f m=f.blocks[m].list.length:=by simp [qE,h]
def upI (g:Nat→InsL→InsL) (f:FunL) (i:Nat):FunL:=
 { f with blocks:=f.blocks.mapIdx fun m b=>K1 b (b.list.mapIdx fun j x=>if (jy (qE f) m).length+j<i then g ((jy (qE f) m).length+j) x else x) }
theorem upI_zero (g:Nat→InsL→InsL) (f:FunL):upI g f 0=f:=by
 unfold upI K1
 cases f with
 | mk n p r bs=>
  simp only [FunL.mk.injEq,true_and]
  refine yV (by simp) fun m h1 h2=>?_
  simp only [List.getElem_mapIdx]
  cases e:bs[m] with
  | mk a l c=>
   simp only [BlkL.mk.injEq,true_and,and_true]
   refine yV (by simp) fun j h3 h4=>?_
   simp
theorem ZU (g:Nat→InsL→InsL) (f:FunL) (i:Nat):(upI g f i).blocks.length=f.blocks.length:=by simp [upI]
theorem Jk {g:Nat→InsL→InsL} {f:FunL} {i m:Nat} (h:m<f.blocks.length):((upI g f i).blocks[m]'(by rw [ZU];exact h)).list.length=f.blocks[m].list.length:=by simp [upI,K1]
theorem upI_get {g:Nat→InsL→InsL} {f:FunL} {m j:Nat} (hm:m<f.blocks.length) (hj:j<f.blocks[m].list.length):((upI g f ((jy (qE f) m).length+j)).blocks[m]'(by rw [ZU];exact hm)).list[j]'(by rw [Jk hm];exact hj)=f.blocks[m].list[j]:=by
 simp [upI,K1]
theorem posL_inj {ll:Nat→Nat} {n a b x y:Nat} (ha:a<n) (hb:b<n) (hx:x<ll a) (hy:y<ll b) (e:(jy ll a).length+x=(jy ll b).length+y):a=b∧x=y:=by
 have h1:=Jj ha hx
 have h2:=Jj hb hy
 rw [e,h2] at h1
 simpa using h1.symm
theorem Y6 {g:Nat→InsL→InsL} {f:FunL} {m j:Nat} (hm:m<f.blocks.length) (hj:j<f.blocks[m].list.length):setI (upI g f ((jy (qE f) m).length+j)) m j (g ((jy (qE f) m).length+j) f.blocks[m].list[j])=upI g f ((jy (qE f) m).length+j+1):=by
 have hlm:=vG hm
 unfold setI
 rw [Qy (by rw [ZU];exact hm)]
 unfold upI K1
 simp only [FunL.mk.injEq,true_and]
 refine yV (by simp) fun a h1 h2=>?_
 have ha:a<f.blocks.length:=by simpa using h2
 rw [y8]
 simp only [List.getElem_mapIdx]
 split
 ·next e=>
  subst e
  simp only [BlkL.mk.injEq,true_and,and_true]
  refine yV (by simp) fun b h3 h4=>?_
  have hb:b<f.blocks[m].list.length:=by simpa using h4
  rw [y8]
  simp only [List.getElem_mapIdx]
  split
  ·next e=>subst e;rw [zZ (by omega)]
  next e=>
  by_cases h5:b<j
  ·rw [zZ (by omega),zZ (by omega)]
  rw [zQ (by omega),zQ (by omega)]
 next e=>
 simp only [BlkL.mk.injEq,true_and,and_true]
 refine yV (by simp) fun b h3 h4=>?_
 have hb:b<f.blocks[a].list.length:=by simpa using h4
 simp only [List.getElem_mapIdx]
 have hne:(jy (qE f) a).length+b≠(jy (qE f) m).length+j:=fun e2=>e (posL_inj ha hm (by rw [vG ha];exact hb) (by rw [hlm];exact hj) e2).1.symm
 by_cases h5:(jy (qE f) a).length+b<(jy (qE f) m).length+j
 ·rw [zZ h5,zZ (by omega)]
 rw [zQ h5,zQ (by omega)]
theorem upI_all (g:InsL→InsL) (f:FunL):upI (fun _=>g) f (jy (qE f) f.blocks.length).length={ f with blocks:=f.blocks.map fun b=>K1 b (b.list.map g) }:=by
 unfold upI K1
 simp only [FunL.mk.injEq,true_and]
 refine yV (by simp) fun a h1 h2=>?_
 have ha:a<f.blocks.length:=by simpa using h2
 simp only [List.getElem_mapIdx,xE,BlkL.mk.injEq,true_and,and_true]
 refine yV (by simp) fun b h3 h4=>?_
 have hb:b<f.blocks[a].list.length:=by simpa using h4
 simp only [List.getElem_mapIdx,xE]
 rw [zZ (Kl ha (by rw [vG ha];exact hb))]
theorem setI_same {f:FunL} {m j:Nat} (hm:m<f.blocks.length) (hj:j<f.blocks[m].list.length):setI f m j f.blocks[m].list[j]=f:=by
 unfold setI
 rw [Qy hm]
 cases f with
 | mk n p r bs=>
  simp only [FunL.mk.injEq,true_and]
  have h1:K1 bs[m] (bs[m].list.set j bs[m].list[j])=bs[m]:=by
   unfold K1
   rw [List.set_getElem_self]
  rw [h1,List.set_getElem_self]
theorem upI_same {g:Nat→InsL→InsL} {f:FunL} {m j:Nat} (hm:m<f.blocks.length) (hj:j<f.blocks[m].list.length) (h:g ((jy (qE f) m).length+j) f.blocks[m].list[j]=f.blocks[m].list[j]):upI g f ((jy (qE f) m).length+j)=upI g f ((jy (qE f) m).length+j+1):=by
 have h1:=Y6 (g:=g) hm hj
 rw [h] at h1
 rw [←h1]
 have hm2:m<(upI g f ((jy (qE f) m).length+j)).blocks.length:=by rw [ZU];exact hm
 have hj2:j<((upI g f ((jy (qE f) m).length+j)).blocks[m]'hm2).list.length:=by rw [Jk hm];exact hj
 have h2:=setI_same (f:=upI g f ((jy (qE f) m).length+j)) hm2 hj2
 rw [upI_get hm hj] at h2
 exact h2.symm

def lqW (w:World) (bb m:Nat):Option Addr:=match w.cell? ⟨bb,m*6+1,none⟩ with|some (.slice q _ _)=>q|_=>none
def lcW (w:World) (bb m:Nat):Nat:=match w.cell? ⟨bb,m*6+1,none⟩ with|some (.slice _ _ c)=>c|_=>0
def lpW (w:World) (bb m:Nat):Nat×Nat:=match lqW w bb m with|some a=>(a.block,a.off)|none=>(0,0)
theorem FunO.lists {w:World} {cs:List Value} {f:FunL} {T:Blks} (h:FunO w cs f T) (h0:0<f.blocks.length):∃bb cb,cs=[.string f.name,.int .i64 f.params,.int .i64 f.regs,.slice (some ⟨bb,0,none⟩) f.blocks.length cb]∧T bb∧f.blocks.length*96≤reachBytes∧
  ∀m,m<f.blocks.length→w.cell? ⟨bb,m*6+1,none⟩=some (.slice (lqW w bb m) (qE f m) (lcW w bb m))∧qE f m*80≤reachBytes∧(0<qE f m→lqW w bb m=some ⟨(lpW w bb m).1,(lpW w bb m).2,none⟩):=by
 obtain ⟨v,hcs,hnm,i1,i2,hB⟩:=h
 obtain ⟨bb,cb,cB0,TB0,hv,hbs,hTb,_⟩:=hB.sl.focus qK (by omega) h0
 subst hv
 refine ⟨bb,cb,hcs,hTb,hB.bd,fun m hm=>?_⟩
 obtain ⟨bb',cb',cB,TB,hv',_,_,_,hip,_,_,hcB,_⟩:=hB.sl.focus qK (by omega) hm
 cases hv'
 obtain ⟨v1,v2,v3,S1,S2,S3,rfl,j1,j2,h3,h4,h5,_⟩:=hip
 obtain ⟨q,c,rfl,_,_⟩:=h4.sl.val
 have hc:w.cell? ⟨bb,m*6+1,none⟩=some (.slice q f.blocks[m].list.length c):=hcB 1 (by omega)
 have e1:lqW w bb m=q:=by unfold lqW;rw [hc]
 have e2:lcW w bb m=c:=by unfold lcW;rw [hc]
 rw [e1,e2,vG hm]
 refine ⟨hc,h4.bd,fun hpos=>?_⟩
 obtain ⟨lb,c2,_,_,hv2,_⟩:=h4.sl.focus xt (by omega) hpos
 have e3:q=some ⟨lb,0,none⟩:=by injection hv2
 unfold lpW
 rw [e1,e3]
end Go.Proofs.YtbnnhmcloecijaaGreatDoor
namespace Go.Proofs.YtbnnhmcloecijaaGreatDoor
open Go.RowKit

structure FunSh (g k bb nb cb:Nat) (lq:Nat→Option Addr) (ll lc:Nat→Nat) (W:World):Prop where
 fn:W.cell? ⟨g,k*4+3,none⟩=some (.slice (some ⟨bb,0,none⟩) nb cb)
 blk:∀m,m<nb→W.cell? ⟨bb,m*6+1,none⟩=some (.slice (lq m) (ll m) (lc m))
theorem FunSh.other {g k bb nb cb:Nat} {lq:Nat→Option Addr} {ll lc:Nat→Nat} {W W':World} (h:FunSh g k bb nb cb lq ll lc W) (h1:W'.heap[g]?=W.heap[g]?) (h2:W'.heap[bb]?=W.heap[bb]?):FunSh g k bb nb cb lq ll lc W':=
 ⟨(zN (a:=⟨g,_,none⟩) h1).trans h.fn,fun m hm=>(zN (a:=⟨bb,_,none⟩) h2).trans (h.blk m hm)⟩
end Go.Proofs.YtbnnhmcloecijaaGreatDoor
