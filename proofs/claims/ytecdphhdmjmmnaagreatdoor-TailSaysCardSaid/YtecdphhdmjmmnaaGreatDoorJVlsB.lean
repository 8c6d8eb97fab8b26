/-
  The contract of slices.Delete at values: one element goes, in place.
-/
import Derived.RangeFuncWrites
import Derived.Test.YtecdphhdmjmmnaaGreatDoorJOwnI
import Derived.Shelf.Bits.Mul64
import Derived.Shelf.RegionOpenPlain
import Derived.Deep.RegionLaw
import Derived.Lib.SliceRun
set_option maxRecDepth 100000
set_option maxHeartbeats 16000000
namespace Go.Proofs.YtecdphhdmjmmnaaGreatDoor
open Go.RowKit Go.Shelf

def SeqAt (F:Fence) (n:Nat) (P:Program) (g:Nat) (lb:Array Value) (el:Nat→Array Value) (N:Nat) (Kp:World→World→Prop) (w:World):Prop:=
 ∀(l:Nat) (J Jx:Nat→World→Prop) (W:World),Below w.heap.size w W→AbidesFrom W.heap.size J→AbidesFrom W.heap.size Jx→
  (∀i W1,i<N→J i W1→YieldAt F (n - 1) P l (el i) W1 fun e W'=>(e = .returned (.bool true)∧J (i+1) W'∧Kp W1 W')∨(e = .returned (.bool false)∧Jx i W'))→J 0 W→
  CallsIn F n P g (#[.func (.yield l) #[] #[]]++lb) W fun e W'=>(∃v,e = .returned v)∧(J N W'∨∃i,i<N∧Jx i W')
def Xx (B:Nat) (Kp:World→World→Prop) (I:Nat→World→Prop) (Ix:Code→Nat→World→Prop) (i:Nat) (W:World) (e:Exit) (W':World):Prop:=
 KeepsFrom B W W'∧match e with
  | .normal=>Kp W W'∧I (i+1) W'
  | .ret=>Ix .ret i W'
  | .exit id=>Ix (.exit id) i W'
  | .goto t=>Ix (.goto t) i W'
  | _=>False
section
variable {F : Fence} {n : Nat} {P : Program} {g : Operand} {ps : Array Tmp} {assign body : Code} {Q : Exit → Act → World → Prop} {a : Act} {w : World} {gf : Nat} {lb : Array Value} {el : Nat → Array Value} {N : Nat} {Kp : World → World → Prop} {w0 : World}
theorem Xy (hro:F.round=none) (h1:1≤n) (hg:a.eval g = .func (.func gf) #[] lb) (hFg:F.fn gf) (eg:∀args w,(callFunc gf args).run P w = .ok (.enter gf args) w) (hseq:SeqAt F (n - 1) P gf lb el N Kp w0)
  (hKt:∀{A B C:World},Kp A B→Kp B C→Kp A C) (hKb:∀(W:World) (l:Nat) (o o':Obj),w.heap.size≤l→W.heap[l]?=some o→o.isCells=false→o.isWalk=false→Kp W (W.putObj l o')) (hb0:Below w0.heap.size w0 w) (hps:∀i,i<N→(el i).size=ps.size)
  (I:Nat→World→Prop) (Ix:Code→Nat→World→Prop) (hI:OwnFrom w.heap.size I) (hIx:∀c,OwnFrom w.heap.size (Ix c)) (h0:I 0 w) (a₁:Nat→Act)
  (hassign:∀(l i:Nat) (W:World) (K:Act→World→Prop),i<N→K (a₁ i) W→assign.wpIn (F.inRound l) (n - 1 - 1) P (Exit.then K (fun _ _ _=>False)) { tmps:=(ps.zip (el i)).foldl (fun t (p,v)=>t.setIfInBounds p v) a.tmps,defers:=[] } W)
  (hbody:∀(l i:Nat) (W:World),w.heap.size≤l→i<N→I i W→body.wpIn (F.inRound l) (n - 1 - 1) P (fun e _ W'=>Xx w.heap.size Kp I Ix i W e W') (a₁ i) W)
  (hdone:∀(D:Nat) (W:World),w.heap.size≤D→I N W→W.heap[D]?=some (.deferred (some []))→Q .normal { a with defers:={ target:=.collected D,args:=#[] }::a.defers } W)
  (hstop:∀(D:Nat) (c:Code) (i:Nat) (W:World),w.heap.size≤D→i<N→Ix c i W→W.heap[D]?=some (.deferred (some []))→c.wpIn F n P Q { a with defers:={ target:=.collected D,args:=#[] }::a.defers } W) :
  (Code.rangeFunc g ps assign body).wpIn F n P Q a w:=by
 refine wpIn_rangeFunc fun fn hfn=>?_
 rw[hro]
 -- the record of the loop and the block for what rounds defer: the blocks L and D
 obtain⟨rec,hrec⟩:∃rec:LoopState→Option Code→Loop,rec=fun st pe=>{ state:=st,pending:=pe,fn,tmps:=a.tmps,params:=ps,assign,body,defers:=w.heap.size }:=⟨_,rfl⟩
 have hst:∀st pe,{ rec .ready none with state:=st,pending:=pe }=rec st pe:=fun st pe=>by rw[hrec]
 let Bk:LoopState→Option Code→World→Prop:=fun st pe W=>W.heap[w.heap.size+1]?=some (.loop (rec st pe))∧W.heap[w.heap.size]?=some (.deferred (some []))
 have hew:Bk .ready none ((w.alloc (.deferred (some []))).alloc (.loop (rec .ready none))):=
  ⟨qh (by simp),qj (qr w _)⟩
 have hey:∀{st pe A B row},Bk st pe A→A.grownBy B row→(∀r,row=some r→∃o:Obj,A.heap[r]?=some o∧o.isWalk=true)→Bk st pe B:=fun h hg hr=>
  ⟨(grownBy_keeps hg hr h.1 rfl).trans h.1,(grownBy_keeps hg hr h.2 rfl).trans h.2⟩
 have hbB:∀{st pe st' pe' A},Bk st pe A→Bk st' pe' (A.putObj (w.heap.size+1) (.loop (rec st' pe'))):=fun {st pe st' pe' A} h=>
  ⟨World.putObj_heap_same (q9 h.1),(World.putObj_heap_other (by omega)).trans h.2⟩
 obtain⟨W1,hW1⟩:∃W1,W1=(w.alloc (.deferred (some []))).alloc (.loop (rec .ready none)):=⟨_,rfl⟩
 rw[←hW1]at hew
 have hz1:W1.heap.size=w.heap.size+1+1:=by rw[hW1];simp
 have hent:(Instr.enterLoop fn a.tmps ps assign body none).run P w = .ok (w.heap.size+1,[{ target:=.collected w.heap.size,args:=#[] }]) W1:=by
  rw[hW1,hrec];exact run_enterLoop_outer _ _ _ _ _
 refine⟨w.heap.size+1,[{ target:=.collected w.heap.size,args:=#[] }],W1,{ target:=.fn (.func gf) lb,args:=#[.func (.yield (w.heap.size+1)) #[] #[]] },W1,gf,
  #[.func (.yield (w.heap.size+1)) #[] #[]]++lb,W1,hent,?_,fun f' hf'=>by simp[Target.leads]at hf';subst hf';exact hFg,?_,fun _=>h1,?_⟩
 ·simp only[resolve,hg]
  simp[go_sem]
 ·simp[invoke,go_sem,eg]
 have hbE:∀{A:World} {row:Option Nat},(∀r,row=some r→W1.heap.size≤r∧∃o:Obj,A.heap[r]?=some o∧o.isWalk=true)→∀r,row=some r→w.heap.size≤r∧∃o:Obj,A.heap[r]?=some o∧o.isCells=false:=fun hr r e=>by
  obtain⟨hB,o,ho,hw⟩:=hr r e
  exact⟨by omega,o,ho,Obj.not_cells_of_walk hw⟩
 refine(hseq (w.heap.size+1) (fun i W=>I i W∧Bk .ready none W) (fun i W=>∃c,Ix c i W∧Bk .done (some c) W) _
  (by rw[hW1];exact hb0.trans ((((Below.refl _ w).alloc (Nat.le_refl _) _).alloc (by simp) _).mono hb0.size))
  (fun s A B row hs hg' hr=>⟨hI s A B row hs.1 hg' (hbE hr),hey hs.2 hg' fun r e=>(hr r e).2⟩)
  (fun s A B row ⟨c,hc,hk⟩ hg' hr=>⟨c,hIx c s A B row hc hg' (hbE hr),hey hk hg' fun r e=>(hr r e).2⟩)
  (fun i W hlt ⟨hi,hk⟩=>?_) ⟨by rw[hW1];exact hI.alloc _ (hI.alloc _ h0),hew⟩).mono ?_
 ·have hy:=run_yield (P:=P) (args:=el i) hk.1 (by rw[hrec];exact hps i hlt)
  rw[hrec]at hy
  refine⟨fn,_,assign,body,hy,roundIn_of_wpIn hfn (hassign _ i W _ hlt ⟨_,run_beginRound hk.1 (by rw[hrec]),?_⟩)⟩
  rw[show({ rec .ready none with state:=.busy }:Loop)=rec .busy none by rw[hrec]]
  have hkb:=hbB (st':=.busy) (pe':=none) hk
  refine wpIn_mono (hbody _ i _ (by omega) hlt (hI.putObj _ hi (by omega) hk.1 rfl)) fun e a3 W3 ⟨hk3,hp⟩=>?_
  have hb3:Bk .busy none W3:=⟨hk3.same _ _ (by omega) hkb.1 rfl,hk3.same _ _ (Nat.le_refl _) hkb.2 rfl⟩
  have fin:∀jump:Option Code,(Instr.endRound (w.heap.size+1) jump).run P W3 = .ok (.bool jump.isNone) (W3.putObj (w.heap.size+1) (.loop (rec (if jump.isNone then .ready else .done) jump))):=fun jump=>by
   have:=run_endRound (P:=P) jump hb3.1
   rw[hrec]at this ⊢
   exact this
  have leave:∀c:Code,Ix c i W3→_:=fun c hc=>(⟨.bool false,W3.putObj (w.heap.size+1) (.loop (rec .done (some c))),fin (some c),.inr ⟨rfl,c,(hIx c).putObj _ hc (by omega) hb3.1 rfl,hbB hb3⟩⟩:∃v W4,(Instr.endRound (w.heap.size+1) (some c)).run P W3 = .ok v W4∧((Ending.returned v = .returned (.bool true)∧(I (i+1) W4∧Bk .ready none W4)∧Kp W W4)∨(Ending.returned v = .returned (.bool false)∧∃c,Ix c i W4∧Bk .done (some c) W4)))
  cases e with
  | normal=>
   exact⟨_,_,fin none,.inl ⟨rfl,⟨hI.putObj _ hp.2 (by omega) hb3.1 rfl,hbB hb3⟩,hKt (hKt (hKb _ _ _ _ (by omega) hk.1 rfl rfl) hp.1) (hKb _ _ _ _ (by omega) hb3.1 rfl rfl)⟩⟩
  | ret=>exact leave _ hp
  | exit id=>exact leave _ hp
  | goto t=>exact leave _ hp
  | panic ch=>exact hp.elim
  | outgrown=>exact hp.elim
 have shut:∀{st pe W2},st≠.busy→Bk st pe W2→(Instr.endLoop (w.heap.size+1)).run P W2 = .ok pe (W2.putObj (w.heap.size+1) (.loop (rec .exhausted pe))):=fun {st pe W2} hne hk=>by
  have:=run_endLoop (P:=P) hk.1 (by rw[hrec];exact hne)
  rw[hrec]at this ⊢
  exact this
 rintro e W2 ⟨⟨v,rfl⟩,(⟨hi,hk⟩|⟨i,hlt,c,hi,hk⟩)⟩
 ·exact⟨none,_,shut (by simp) hk,hdone _ _ (Nat.le_refl _) (hI.putObj _ hi (by omega) hk.1 rfl) (hbB hk).2⟩
 exact⟨some c,_,shut (by simp) hk,hstop _ c i _ (Nat.le_refl _) hlt ((hIx c).putObj _ hi (by omega) hk.1 rfl) (hbB hk).2⟩
end
attribute [local go_sem] Oper.semAt_some

theorem Zb {ts:Array Value} {n:Nat} (h:ts.size=n):ts=((List.range n).map fun i=>ts.getD i undef).toArray:=by
 subst h
 refine Array.ext (by simp) fun i h1 h2=>?_
 simp[Array.getD,h1]

theorem xM {W:World} {l b o:Nat} {x:Obj} {v:Value} (h:W.heap[l]?=some x) (hx:x.isCells=false) (hc:W.cell? ⟨b,o,none⟩=some v):b≠l:=by
 rintro rfl
 unfold World.cell? at hc
 rw[h]at hc
 cases x<;>simp[Obj.isCells]at hx hc
theorem ZI {S:Blks} {w0:World} {B:Nat} (hB:w0.heap.size≤B):OwnFrom B (fun(_:Nat) W=>Kept S w0 W):=fun s W W' row hs hg hr=>
 ⟨hg.os.trans hs.os,hg.tape.trans hs.tape,hg.output.trans hs.output,Nat.le_trans hs.size hg.size,fun k hk hn=>(hg.block k (Nat.lt_of_lt_of_le hk hs.size) (fun e=>by have:=(hr k e.symm).1;omega)).trans (hs.block k hk hn)⟩

end Go.Proofs.YtecdphhdmjmmnaaGreatDoor
namespace Go.Proofs.YtecdphhdmjmmnaaGreatDoor

def cnt (had:Nat→Bool):Nat→Nat
 | 0=>0
 | k+1=>cnt had k+if had k then 1 else 0
end Go.Proofs.YtecdphhdmjmmnaaGreatDoor
namespace Go.Proofs.YtecdphhdmjmmnaaGreatDoor
open Go.RowKit

section
variable {α β : Type} {e : TypeId} {size : Nat} {R : ElemO α} {R2 : ElemO β} {w w' : World} {v : Value} {xs : List α} {ys : List β} {S : Blks}
theorem SlO.imp (h:SlO e size R w v xs S) (hl:ys.length=xs.length) (hi:∀i (h1:i<xs.length) (h2:i<ys.length) cs T,(∀u∈cs,u.oneCell'=true)→R w cs xs[i] T→R2 w cs ys[i] T):SlO e size R2 w v ys S:=by
 obtain⟨cs,T,h⟩:=h
 refine⟨cs,T,?_,?_,?_,?_,?_,?_,h.blk,?_,h.inb⟩
 ·rw[hl];exact h.own
 ·rw[hl];exact h.len
 ·rw[hl];exact h.one
 ·intro i h1
  exact hi i (by omega) h1 _ _ (h.one i (by omega)) (h.el i (by omega))
 ·rw[hl];exact h.two
 ·rw[hl];exact h.off
 rw[hl];exact h.sub
theorem SlO.inner (hR:jN R) (hsz:0<size) (h:SlO e size R w v xs S) {i:Nat} (hi:i<xs.length):∃g c cs T,v = .slice (some ⟨g,0,none⟩) xs.length c∧g<w.heap.size∧S g∧cs.length=size∧R w cs xs[i] T∧¬ T g∧(∀k,T k→S k)∧
  (∀j,j<size→w.cell? ⟨g,i*size+j,none⟩=cs[j]?)∧(∀o,w.frozen? ⟨g,o,none⟩=false)∧
  (∀(w':World) (x':α) (T':Blks),Kept T w w'→R w' cs x' T'→(∀k,T' k→(T k∨w.heap.size≤k)∧k<w'.heap.size)→SlO e size R w' v (xs.set i x') (fun k=>S k∨T' k))∧
  ∀(w1:World) (x':α) (T':Blks) (j:Nat) (u:Value),j<size→u.oneCell'=true→Kept T w w1→R (w1.setCell ⟨g,i*size+j,none⟩ u) (cs.set j u) x' T'→(∀k,T' k→(T k∨w.heap.size≤k)∧k<w1.heap.size)→SlO e size R (w1.setCell ⟨g,i*size+j,none⟩ u) v (xs.set i x') (fun k=>S k∨T' k):=by
 obtain⟨cs0,T0,h0⟩:=id h
 obtain⟨g,c,cs,T,hv,hg,hS,hl,hx,hT,hTS,hc,hf,⟨cur,hau⟩,put⟩:=h.focus hR hsz hi
 have hone:∀u∈cs,u.oneCell'=true:=by
  intro u hu
  obtain⟨j,hj,rfl⟩:=List.getElem_of_mem hu
  obtain⟨g2,c2,hv2,_,_,hc2⟩:=h0.cell hi
  rw[hv]at hv2
  injection hv2 with a _ _
  injection a with a
  injection a with a
  subst a
  have h1:=hc j (by omega)
  rw[hc2 j (by omega),List.getElem?_eq_getElem hj]at h1
  exact h0.one i hi _ (List.mem_of_getElem? h1)
 refine⟨g,c,cs,T,hv,hg,hS,hl,hx,hT,hTS,hc,hf,fun w' x' T' hk hr ht=>?_,fun w1 x' T' j u hj hu hk hr ht=>?_⟩
 ·refine put w' cs x' T' (RowPut.same hau (hk.block g hg hT) hc) hl hone hk.size (fun k h1 h2 h3=>hk.block k (h.inb k h1) h2) hr ht
 have hz:=Go.Deep.nblk_setCell w1 ⟨g,i*size+j,none⟩ u
 refine put _ (cs.set j u) x' T' (RowPut.set (RowPut.same hau (hk.block g hg hT) hc) hl hj u) (by simpa using hl) (fun a ha=>?_) (by rw[hz];exact hk.size) (fun k h1 h2 h3=>(Go.Deep.blk_setCell_other w1 _ u k h3).trans (hk.block k (h.inb k h1) h2)) hr (fun k hk2=>by rw[hz];exact ht k hk2)
 rcases List.mem_or_eq_of_mem_set ha with h1|h1
 ·exact hone a h1
 rw[h1];exact hu
theorem RowPut.trans_other {w w1 w2:World} {g o o2:Nat} {cs cs2:List Value} (h:RowPut w w1 e g o size cs) (k:RowPut w1 w2 e g o2 size cs2) (hd:o+size≤o2∨o2+size≤o) :
  ∃cur cur':Array Value,w.heap[g]?=some (.cells cur e (0,0))∧w2.heap[g]?=some (.cells cur' e (0,0))∧cur'.size=cur.size∧(∀j,j<size→cur'[o+j]?=cs[j]?)∧(∀j,j<size→cur'[o2+j]?=cs2[j]?)∧∀j,(j<o∨o+size≤j)→(j<o2∨o2+size≤j)→cur'[j]?=cur[j]?:=by
 obtain⟨c0,c1,a1,a2,a3,a4,a5⟩:=h
 obtain⟨c1',c2,b1,b2,b3,b4,b5⟩:=k
 rw[a2]at b1
 cases b1
 refine⟨c0,c2,a1,b2,b3.trans a3,fun j hj=>?_,b4,fun j h1 h2=>(b5 j h2).trans (a5 j h1)⟩
 rw[b5 (o+j) (by omega)]
 exact a4 j hj
theorem SlW.put2 {cs:Nat→List Value} {T:Nat→Blks} {g i j:Nat} {w1 w2:World} {ci cj:List Value} {xi xj:α} {Ti Tj:Blks} (hR:jN R) (hsz:0<size) (h:SlW e size R w v xs S cs T) (hob:v.ownBlock=some g) (hi:i<xs.length) (hj:j<xs.length) (hij:i≠j)
  (p1:RowPut w w1 e g (i*size) size ci) (p2:RowPut w1 w2 e g (j*size) size cj) (hli:ci.length=size) (hlj:cj.length=size) (hoi:∀u∈ci,u.oneCell'=true) (hoj:∀u∈cj,u.oneCell'=true) (hs:w.heap.size≤w2.heap.size)
  (hk:∀k,S k→¬ T i k→¬ T j k→k≠g→w2.heap[k]?=w.heap[k]?) (ri:R w2 ci xi Ti) (rj:R w2 cj xj Tj) (hap:Apart Ti Tj)
  (hTi:∀k,Ti k→(T i k∨T j k∨w.heap.size≤k)∧k<w2.heap.size) (hTj:∀k,Tj k→(T i k∨T j k∨w.heap.size≤k)∧k<w2.heap.size) :
  SlO e size R w2 v ((xs.set i xi).set j xj) (fun k=>S k∨Ti k∨Tj k):=by
 have hd:i*size+size≤j*size∨j*size+size≤i*size:=by
  rcases Nat.lt_or_ge i j with a|a
  ·left
   have:(i+1)*size≤j*size:=Nat.mul_le_mul_right _ a
   rw[Nat.add_mul]at this
   omega
  right
  have:(j+1)*size≤i*size:=Nat.mul_le_mul_right _ (by omega)
  rw[Nat.add_mul]at this
  omega
 obtain⟨cur,cur',q1,q2,q3,q4,q5,q6⟩:=p1.trans_other p2 hd
 rcases h.own.2 with⟨_,h2⟩|⟨g',cap,cur0,hv,hb,hg,hc1,hc2,hc3,htk⟩
 ·omega
 have hgg:g'=g:=by
  rw[hv]at hob
  injection hob with hob
 subst hgg
 rw[hg]at q1
 cases q1
 have hgs:=(Array.getElem?_eq_some_iff.1 hg).1
 have hcell:∀m jj,m<xs.length→jj<size→cur[m*size+jj]?=(cs m)[jj]?:=fun m jj hm hjj=>by
  have hlt:m*size+jj<xs.length*size:=by
   have:(m+1)*size≤xs.length*size:=Nat.mul_le_mul_right _ hm
   rw[Nat.add_mul]at this
   omega
  rw[←zm xs.length h.len m jj hm hjj,←htk,List.getElem?_take_of_lt hlt,Array.getElem?_toList]
 have hlen:((xs.set i xi).set j xj).length=xs.length:=by simp
 have hS:∀m,m<xs.length→∀k,T m k→S k:=h.sub
 have key:∀(U:Blks),(∀k,U k→(T i k∨T j k∨w.heap.size≤k)∧k<w2.heap.size)→∀m,m<xs.length→m≠i→m≠j→Apart U (T m):=fun U hU m hm h1 h2 k a b=>by
  rcases (hU k a).1 with c|c|c
  ·exact h.two m i hm hi h1 k b c
  ·exact h.two m j hm hj h2 k b c
  have:=h.inb k (h.sub m hm k b)
  omega
 have koff:∀(U:Blks),(∀k,U k→(T i k∨T j k∨w.heap.size≤k)∧k<w2.heap.size)→¬ U g':=fun U hU a=>by
  rcases (hU _ a).1 with c|c|c
  ·exact h.off i hi _ hob c
  ·exact h.off j hj _ hob c
  omega
 refine⟨fun m=>if m=i then ci else if m=j then cj else cs m,fun m=>if m=i then Ti else if m=j then Tj else T m,?_,fun m hm=>?_,fun m hm=>?_,fun m hm=>?_,fun m n hm hn hmn=>?_,fun m hm g2 hg2=>?_,fun g2 hg2=>.inl (h.blk g2 hg2),fun m hm k hk2=>?_,?_⟩
 ·rw[hlen]
  have hlc:∀m,m<xs.length→(if m=i then ci else if m=j then cj else cs m).length=size:=fun m hm=>by
   split
   ·exact hli
   split
   ·exact hlj
   exact h.len m hm
  refine⟨by rw[qI _ hlc],.inr ⟨g',cap,cur',hv,hb,q2,hc1,hc2,by rw[q3];exact hc3,?_⟩⟩
  have hle:xs.length*size≤cap*size:=Nat.mul_le_mul_right _ hc1
  refine ZB h.len hlc hsz (by simp;omega) fun m jj hm hjj=>?_
  have hlt:m*size+jj<xs.length*size:=by
   have:(m+1)*size≤xs.length*size:=Nat.mul_le_mul_right _ hm
   rw[Nat.add_mul]at this
   omega
  rw[List.getElem?_take_of_lt hlt,Array.getElem?_toList]
  have out:∀n,m≠n→m*size+jj<n*size∨n*size+size≤m*size+jj:=fun n hn=>by
   rcases Nat.lt_or_ge m n with a|a
   ·left
    have:(m+1)*size≤n*size:=Nat.mul_le_mul_right _ a
    rw[Nat.add_mul]at this
    omega
   right
   have:(n+1)*size≤m*size:=Nat.mul_le_mul_right _ (by omega)
   rw[Nat.add_mul]at this
   omega
  by_cases e1:m=i
  ·subst e1
   rw[if_pos rfl]
   exact q4 jj hjj
  rw[if_neg e1]
  by_cases e2:m=j
  ·subst e2
   rw[if_pos rfl]
   exact q5 jj hjj
  rw[if_neg e2,q6 _ (out i e1) (out j e2)]
  exact hcell m jj hm hjj
 ·rw[hlen]at hm
  show(if m=i then ci else if m=j then cj else cs m).length=size
  split
  ·exact hli
  split
  ·exact hlj
  exact h.len m hm
 ·rw[hlen]at hm
  show ∀u∈(if m=i then ci else if m=j then cj else cs m),u.oneCell'=true
  split
  ·exact hoi
  split
  ·exact hoj
  exact h.one m hm
 ·have hm2:m<xs.length:=by rw[←hlen];exact hm
  by_cases e1:m=i
  ·subst e1
   simp only[if_true]
   rw[List.getElem_set_ne (Ne.symm hij),List.getElem_set_self]
   exact ri
  by_cases e2:m=j
  ·subst e2
   simp only[if_neg e1,if_true]
   rw[List.getElem_set_self]
   exact rj
  simp only[if_neg e1,if_neg e2]
  rw[List.getElem_set_ne (Ne.symm e2),List.getElem_set_ne (Ne.symm e1)]
  refine hR _ _ _ _ _ (h.el m hm2) (fun k hk2=>hk k (h.sub m hm2 k hk2) (fun hk3=>h.two m i hm2 hi e1 k hk2 hk3) (fun hk3=>h.two m j hm2 hj e2 k hk2 hk3) (fun e2=>h.off m hm2 g' hob (by rw[←e2];exact hk2))) hs
 ·rw[hlen]at hm hn
  show Apart (if m=i then Ti else if m=j then Tj else T m) (if n=i then Ti else if n=j then Tj else T n)
  by_cases e1:m=i
  ·rw[if_pos e1]
   by_cases e2:n=j
   ·rw[if_neg (by omega),if_pos e2]
    exact hap
   rw[if_neg (by omega),if_neg e2]
   exact key Ti hTi n hn (by omega) e2
  rw[if_neg e1]
  by_cases e3:m=j
  ·rw[if_pos e3]
   by_cases e2:n=i
   ·rw[if_pos e2]
    exact hap.symm
   rw[if_neg e2,if_neg (by omega)]
   exact key Tj hTj n hn e2 (by omega)
  rw[if_neg e3]
  by_cases e2:n=i
  ·rw[if_pos e2]
   exact(key Ti hTi m hm e1 e3).symm
  rw[if_neg e2]
  by_cases e4:n=j
  ·rw[if_pos e4]
   exact(key Tj hTj m hm e1 e3).symm
  rw[if_neg e4]
  exact h.two m n hm hn hmn
 ·rw[hlen]at hm
  rw[hob]at hg2
  cases hg2
  show ¬ (if m=i then Ti else if m=j then Tj else T m) g'
  split
  ·exact koff Ti hTi
  split
  ·exact koff Tj hTj
  exact h.off m hm _ hob
 ·rw[hlen]at hm
  have hk3:(if m=i then Ti else if m=j then Tj else T m) k:=hk2
  split at hk3
  ·exact .inr (.inl hk3)
  split at hk3
  ·exact .inr (.inr hk3)
  exact .inl (h.sub m hm k hk3)
 rintro k (a|a|a)
 ·exact(h.inb.mono hs) k a
 ·exact(hTi k a).2
 exact(hTj k a).2
theorem SlW.join {w':World} {v' u:Value} {zs:List α} {T:Blks} {cs ds:Nat→List Value} {U V:Nat→Blks} (hR:jN R) (h:SlW e size R w v xs S cs U) (hz:SlW e size R w u zs T ds V) (hT:Apart S T)
  (hown:w'.ownsRow 0 e size v' (xs.length+zs.length) ((List.range xs.length).flatMap cs++(List.range zs.length).flatMap ds)) (hg:w.grownBy w' v.ownBlock) (hat:v'.ownBlock=v.ownBlock∨v'.ownBlock=some w.heap.size) :
  SlO e size R w' v' (xs++zs) (fun k=>S k∨T k∨v'.ownBlock=some k):=by
 have hlen:(xs++zs).length=xs.length+zs.length:=by simp
 have hin:∀g,v'.ownBlock=some g→0≤g∧g<w'.heap.size:=hown.lt
 have hoff:∀k g,(S k∧v.ownBlock≠some k)∨T k→v'.ownBlock=some g→k≠g:=fun k g hk hg' ek=>by
  subst ek
  rcases hat with a|a
  ·rcases hk with⟨_,b⟩|b
   ·exact b (a.symm.trans hg')
   exact hT k (h.blk k (a.symm.trans hg')) b
  have hks:k<w.heap.size:=by
   rcases hk with⟨b,_⟩|b
   ·exact h.inb k b
   exact hz.inb k b
  rw[a]at hg'
  injection hg' with hg'
  omega
 have hkeep:∀k,k<w.heap.size→v.ownBlock≠some k→w'.heap[k]?=w.heap[k]?:=fun k hk hn=>hg.block k hk (fun e1=>hn e1.symm)
 refine⟨fun m=>if m<xs.length then cs m else ds (m - xs.length),fun m=>if m<xs.length then U m else V (m - xs.length),?_,fun m hm=>?_,fun m hm=>?_,fun m hm=>?_,fun m n hm hn hmn=>?_,fun m hm g' hg'=>?_,fun g' hg'=>.inr (.inr hg'),fun m hm k hk2=>?_,?_⟩
 ·rw[hlen,List.range_add,List.flatMap_append]
  have e1:(List.range xs.length).flatMap (fun m=>if m<xs.length then cs m else ds (m - xs.length))=(List.range xs.length).flatMap cs:=by
   unfold List.flatMap
   congr 1
   refine List.map_congr_left fun m hm=>?_
   have:=List.mem_range.1 hm
   rw[if_pos (by omega)]
  have e2:((List.range zs.length).map (xs.length+·)).flatMap (fun m=>if m<xs.length then cs m else ds (m - xs.length))=(List.range zs.length).flatMap ds:=by
   unfold List.flatMap
   rw[List.map_map]
   congr 1
   refine List.map_congr_left fun m hm=>?_
   show(if xs.length+m<xs.length then cs (xs.length+m)else ds (xs.length+m - xs.length))=ds m
   rw[if_neg (by omega)]
   congr 1
   omega
  rw[e1,e2]
  exact hown
 ·rw[hlen]at hm
  show(if m<xs.length then cs m else ds (m - xs.length)).length=size
  split
  ·exact h.len m (by omega)
  exact hz.len _ (by omega)
 ·rw[hlen]at hm
  show ∀u∈(if m<xs.length then cs m else ds (m - xs.length)),u.oneCell'=true
  split
  ·exact h.one m (by omega)
  exact hz.one _ (by omega)
 ·have hm1:m<xs.length+zs.length:=by rw[←hlen];exact hm
  by_cases e1:m<xs.length
  ·simp only[if_pos e1,List.getElem_append_left e1]
   exact hR _ _ _ _ _ (h.el m e1) (fun k hk=>hkeep k (h.inb k (h.sub m e1 k hk)) (fun e3=>h.off m e1 k e3 hk)) hg.size
  simp only[if_neg e1,List.getElem_append_right (Nat.le_of_not_lt e1)]
  exact hR _ _ _ _ _ (hz.el (m - xs.length) (by omega)) (fun k hk=>hkeep k (hz.inb k (hz.sub _ (by omega) k hk)) (fun e3=>hT k (h.blk k e3) (hz.sub _ (by omega) k hk))) hg.size
 ·rw[hlen]at hm hn
  show Apart (if m<xs.length then U m else V (m - xs.length)) (if n<xs.length then U n else V (n - xs.length))
  split
  ·next e1=>
   split
   ·exact h.two m n e1 (by omega) hmn
   exact fun k a b=>hT k (h.sub m e1 k a) (hz.sub _ (by omega) k b)
  next e1=>
  split
  ·next e2=>exact fun k a b=>hT k (h.sub n e2 k b) (hz.sub _ (by omega) k a)
  exact hz.two _ _ (by omega) (by omega) (by omega)
 ·rw[hlen]at hm
  show ¬ (if m<xs.length then U m else V (m - xs.length)) g'
  split
  ·next e1=>exact fun a=>hoff g' g' (.inl ⟨h.sub m e1 g' a,fun e3=>h.off m e1 g' e3 a⟩) hg' rfl
  exact fun a=>hoff g' g' (.inr (hz.sub _ (by omega) g' a)) hg' rfl
 ·rw[hlen]at hm
  have hk3:(if m<xs.length then U m else V (m - xs.length)) k:=hk2
  split at hk3
  ·next e1=>exact .inl (h.sub m e1 k hk3)
  exact .inr (.inl (hz.sub _ (by omega) k hk3))
 rintro k (a|a|a)
 ·exact(h.inb.mono hg.size) k a
 ·exact(hz.inb.mono hg.size) k a
 exact(hin k a).2
end
def Joined {α:Type} (e:TypeId) (size:Nat) (R:ElemO α) (w:World) (zs:List α) (S T:Blks) (v':Value) (w':World):Prop:=
 ∃S':Blks,SlO e size R w' v' zs S'∧(∀k,S' k→S k∨T k∨w.heap.size≤k)∧Kept S w w'
section
variable {P : Program} {α : Type} {R : ElemO α}
theorem Qv (w:World) (t ty e:TypeId) (i:TypeInfo) (z:Value) (size bytes:Nat) (ht:P.underlying t=some (.slice e)) (hi:P.info? e=some i) (hz:i.zero=some z)
  (hsize:i.size=size) (hby:i.bytes=bytes) (hzs:z.cells.size=size) (hsz:0<size) (hR:jN R) {v u:Value} {xs ys:List α} {S T:Blks} (hO:SlO e size R w v xs S) (hY:SlO e size R w u ys T) (hT:Apart S T)
  (h63:xs.length+ys.length≤maxLen) (hbytes:(xs.length+ys.length)*bytes≤140737488355328) :
  ∃v' w',(Builtin.append_ #[t,t] ty #[v,u]).run P w = .ok v' w'∧Joined e size R w (xs++ys) S T v' w':=by
 obtain⟨cs,U,h⟩:=hO
 obtain⟨ds,V,hy⟩:=hY
 rcases hy.own.2 with⟨rfl,h0⟩|⟨g,cap,cur,rfl,_,hg,hnc,hcm,hcs,htk⟩
 ·obtain rfl:=List.length_eq_zero_iff.1 h0
  refine⟨v,w,run_append_owned_none (P:=P) w 0 t ty e i size ht hi v _ _ h.own,S,?_,fun k hk=>.inl hk,Kept.refl _ _⟩
  rw[List.append_nil]
  exact⟨cs,U,h⟩
 obtain⟨v',w',hr,h2,h3,_,h5⟩:=run_append_own_at (P:=P) w 0 t ty e i z size bytes ht hi hz hsize hby hzs hsz v _ _ h.own ⟨g,0,none⟩ ys.length cap ((List.range ys.length).flatMap ds) (qI _ hy.len) (fun j x hx=>hy.own.cells (g:=g) rfl j x hx) (xk fun i hi=>hy.one i hi) h63 hbytes (Nat.zero_le _)
 refine⟨v',w',hr,_,h.join hR hy hT h2 h3 h5,fun k hk=>?_,Kept.of_grown h3 h.blk⟩
 rcases hk with a|a|a
 ·exact .inl a
 ·exact .inr (.inl a)
 rcases h5 with b|b
 ·exact .inl (h.blk k (b.symm.trans a))
 rw[b]at a
 injection a with a
 exact .inr (.inr (by omega))
end
/-! cells taken over from what was there -/
def DatO {α:Type} (R:List Value→α→Prop):ElemO α:=fun _ cs x _=>R cs x
theorem Xz {α:Type} (R:List Value→α→Prop):jN (DatO R):=fun _ _ _ _ _ h _ _=>h
def xN {α:Type} (RO:ElemO α) (R:List Value→α→Prop):ElemO (Bool×α):=fun w cs x S=>if x.1=true then RO w cs x.2 S else R cs x.2
theorem Qw {α:Type} {RO:ElemO α} (h:jN RO) (R:List Value→α→Prop):jN (xN RO R):=fun w w' cs x S hx hk hs=>by
 unfold xN at hx ⊢
 split
 ·next e=>rw[if_pos e]at hx;exact h _ _ _ _ _ hx hk hs
 next e=>rw[if_neg e]at hx;exact hx
def xO (w:World) (p:Option Addr) (size i:Nat):List Value:=(List.range size).map fun j=>(w.cell? ((p.getD default).add (i*size+j))).getD default
theorem jt (w:World) (p:Option Addr) (size i:Nat):(xO w p size i).length=size:=by simp[xO]
theorem SliceAt.old {α:Type} {w:World} {size:Nat} {R:List Value→α→Prop} {p:Option Addr} {xs:List α} (h:SliceAt w size R p xs) {i:Nat} (hi:i<xs.length):R (xO w p size i) xs[i]∧∀j,j<size→∀a,p=some a→w.cell? (a.add (i*size+j))=(xO w p size i)[j]?:=by
 obtain⟨b,o,cs,rfl,hl,hc,hr⟩:=h.get hi
 have key:∀j,j<size→w.cell? ((⟨b,o,none⟩:Addr).add (i*size+j))=cs[j]?:=fun j hj=>by
  rw[zw,←Nat.add_assoc]
  exact hc j hj
 have e:xO w (some ⟨b,o,none⟩) size i=cs:=by
  refine List.ext_getElem? fun j=>?_
  rcases Nat.lt_or_ge j size with g|g
  ·unfold xO
   rw[List.getElem?_map,List.getElem?_range g]
   show some ((w.cell? ((⟨b,o,none⟩:Addr).add (i*size+j))).getD default)=_
   rw[key j g,List.getElem?_eq_getElem (by omega)]
   rfl
  rw[List.getElem?_eq_none (by rw[jt];exact g),List.getElem?_eq_none (by omega)]
 rw[e]
 exact⟨hr,fun j hj a ha=>by cases ha;exact key j hj⟩
def six (w:World) (g o:Nat) (a0 a1 a2 a3 a4 a5:Value):World:=(((((w.setCell ⟨g,o,none⟩ a0).setCell ⟨g,o+1,none⟩ a1).setCell ⟨g,o+2,none⟩ a2).setCell ⟨g,o+3,none⟩ a3).setCell ⟨g,o+4,none⟩ a4).setCell ⟨g,o+5,none⟩ a5
theorem six_other (w:World) (g o:Nat) (a0 a1 a2 a3 a4 a5:Value) {i:Nat} (h:i≠g):(six w g o a0 a1 a2 a3 a4 a5).heap[i]?=w.heap[i]?:=by
 unfold six
 repeat rw[Go.Deep.blk_setCell_other _ _ _ i h]
theorem six_size (w:World) (g o:Nat) (a0 a1 a2 a3 a4 a5:Value):(six w g o a0 a1 a2 a3 a4 a5).heap.size=w.heap.size:=by simp[six,World.setCell]
theorem V5 (w:World) (g o:Nat) (a0 a1 a2 a3 a4 a5:Value):Kept (fun i=>i=g) w (six w g o a0 a1 a2 a3 a4 a5):=by
 unfold six
 have h0:Kept (fun i=>i=g) w w:=Kept.refl _ w
 have h1:=h0.setCell (p:=⟨g,o,none⟩) rfl a0
 have h2:=h1.setCell (p:=⟨g,o+1,none⟩) rfl a1
 have h3:=h2.setCell (p:=⟨g,o+2,none⟩) rfl a2
 have h4:=h3.setCell (p:=⟨g,o+3,none⟩) rfl a3
 have h5:=h4.setCell (p:=⟨g,o+4,none⟩) rfl a4
 exact h5.setCell (p:=⟨g,o+5,none⟩) rfl a5
theorem RowPut.six {w w1:World} {e:TypeId} {g o:Nat} {cs:List Value} (h:RowPut w w1 e g o 6 cs) (hl:cs.length=6) (a0 a1 a2 a3 a4 a5:Value):RowPut w (Go.Proofs.YtecdphhdmjmmnaaGreatDoor.six w1 g o a0 a1 a2 a3 a4 a5) e g o 6 [a0,a1,a2,a3,a4,a5]:=by
 obtain⟨c0,c1,c2,c3,c4,c5,rfl⟩:=len_6 hl
 have h0:=RowPut.set h rfl (j:=0) (by omega) a0
 simp only[Nat.add_zero,List.set_cons_zero]at h0
 have h1:=RowPut.set h0 rfl (j:=1) (by omega) a1
 simp only[List.set_cons_succ,List.set_cons_zero]at h1
 have h2:=RowPut.set h1 rfl (j:=2) (by omega) a2
 simp only[List.set_cons_succ,List.set_cons_zero]at h2
 have h3:=RowPut.set h2 rfl (j:=3) (by omega) a3
 simp only[List.set_cons_succ,List.set_cons_zero]at h3
 have h4:=RowPut.set h3 rfl (j:=4) (by omega) a4
 simp only[List.set_cons_succ,List.set_cons_zero]at h4
 have h5:=RowPut.set h4 rfl (j:=5) (by omega) a5
 simp only[List.set_cons_succ,List.set_cons_zero]at h5
 unfold Go.Proofs.YtecdphhdmjmmnaaGreatDoor.six
 exact h5
end Go.Proofs.YtecdphhdmjmmnaaGreatDoor
namespace Go.Proofs
open Go.Shelf Go.RowKit Go.Lib
def Tryz.lays212_ren:Go.Shelf.Ren:=⟨fun|212=>123|263=>148|264=>149|n=>n,fun|46=>168|51=>202|53=>204|146=>210|148=>212|n=>n,fun|n=>n⟩
theorem Tryz.lays212:Go.Proofs.Lays.n212 Tryz.prog Tryz.lays212_ren:={
 mixed:=by kernel_rfl
 f212:=Tryz.func123.trans (congrArg some (by kernel_rfl))
 f263:=Tryz.func148.trans (congrArg some (by kernel_rfl))
 f264:=Tryz.func149.trans (congrArg some (by kernel_rfl))
 t46:=Tryz.underlying168
 a46:=Tryz.isAgg168
 z46:=Tryz.sizeOf168
 v46:=Tryz.zeroValue168
 t51:=Tryz.underlying202
 a51:=Tryz.isAgg202
 z51:=Tryz.sizeOf202
 v51:=Tryz.zeroValue202
 t53:=Tryz.underlying204
 a53:=Tryz.isAgg204
 z53:=Tryz.sizeOf204
 v53:=Tryz.zeroValue204
 t146:=Tryz.underlying210
 a146:=Tryz.isAgg210
 z146:=Tryz.sizeOf210
 v146:=Tryz.zeroValue210
 t148:=Tryz.underlying212
 a148:=Tryz.isAgg212
 z148:=Tryz.sizeOf212
 v148:=Tryz.zeroValue212 }
end Go.Proofs
namespace Go.Proofs.YtecdphhdmjmmnaaGreatDoor
open Go.RowKit Go.Shelf Go.Lib

theorem JA (x y:Nat) (hx:x<18446744073709551616) (hy:y<18446744073709551616) (w:World) :
  Calls Tryz.prog 123 #[.int .u64 x,.int .u64 y] w fun e w'=>e = .returned (.tuple #[.int .u64 ((x*y / 18446744073709551616:Nat):Int),.int .u64 ((x*y % 18446744073709551616:Nat):Int)])∧w'=w:=
 Any.bits_Mul Tryz.lays212 x y hx hy w

theorem zI {P:Program} (w:World) (dT sT ty elem:TypeId) (g o dLen dCap size:Nat) (a:Addr) (sLen sCap:Nat) (cur:Array Value) (t:TypeId) (cs:List Value)
  (hu:P.underlying dT=some (.slice elem)) (hs:(P.info? elem).map (·.size)=some size)
  (hg:w.heap[g]?=some (.cells cur t (0,0))) (hn:cs.length=Nat.min sLen dLen*size)
  (hsrc:∀j v,cs[j]?=some v→w.cell? (a.add j)=some v) (hfit:o+cs.length≤cur.size) (h1:∀v∈cs,v.oneCell'=true) :
  (Builtin.copy_ #[dT,sT] ty #[.slice (some ⟨g,o,none⟩) dLen dCap,.slice (some a) sLen sCap]).run P w =
   .ok (goInt (Nat.min sLen dLen:Nat)) (w.setRow g (cur.toList.take o++cs++cur.toList.drop (o+cs.length)).toArray):=by
 have hl:=run_loadCells_list (P:=P) w a cs hsrc
 have hst:=run_storeCells_at P g o t cs 0 cur w hg (by simpa using hfit) h1
 cases hq:P.info? elem with
 | none=>simp[hq]at hs
 | some i=>
  have hi:i.size=size:=by simpa[hq]using hs
  simp[Builtin.copy_,run_underlying hu,Builtin.lenOf,Builtin.firstCells,sizeOf,typeInfo,hq,hi,←hn,hl,hst]

theorem XA (b o j:Nat):(⟨b,o,none⟩:Addr).add j=⟨b,o+j,none⟩:=by unfold Addr.add;split<;>simp_all
def km (z:Int) (m:Nat) (j:Nat):Value:=if j<m then .int .i64 z else .int .i64 0

theorem kn {P:Program} (w:World) (dT sT ty elem:TypeId) (g size N m c dLen dCap sLen sCap:Nat) (a:Addr) (t:TypeId) (z:Int)
  (hu:P.underlying dT=some (.slice elem)) (hs:(P.info? elem).map (·.size)=some size)
  (hg:w.rowIs g t N (km z m)) (hn:c=Nat.min sLen dLen*size) (hsrc:∀j,j<c→w.cell? (a.add j)=some (.int .i64 z)) (hfit:m+c≤N) :
  ∃w',(Builtin.copy_ #[dT,sT] ty #[.slice (some ⟨g,m,none⟩) dLen dCap,.slice (some a) sLen sCap]).run P w = .ok (goInt (Nat.min sLen dLen:Nat)) w'∧w'.rowIs g t N (km z (m+c))∧Kept (fun k=>k=g) w w':=by
 obtain⟨cur,h1,h2,h3⟩:=hg
 have hr:=zI (P:=P) w dT sT ty elem g m dLen dCap size a sLen sCap cur t (List.replicate c (.int .i64 z)) hu hs h1 (by simpa using hn)
  (fun j v hj=>by
   rw[List.getElem?_replicate]at hj
   split at hj
   ·next hlt=>
    injection hj with hj
    rw[←hj]
    exact hsrc j hlt
   cases hj)
  (by simp;omega) (fun v hv=>by rw[(List.mem_replicate.1 hv).2];rfl)
 refine⟨_,hr,⟨_,setRow_heap w g cur _ t _ h1,by simp;omega,fun i hi=>?_⟩,⟨rfl,rfl,rfl,by simp[World.setRow],fun k _ hn=>setRow_other w g k _ (fun e=>hn e)⟩⟩
 have hcl:cur.toList.length=N:=by simpa using h2
 rw[List.getElem?_toArray,List.append_assoc]
 unfold km
 by_cases a1:i<m
 ·rw[if_pos (by omega),List.getElem?_append_left (by simp;omega),List.getElem?_take_of_lt a1,Array.getElem?_toList,h3 i hi]
  unfold km
  rw[if_pos a1]
 rw[List.getElem?_append_right (by simp;omega)]
 have e1:(cur.toList.take m).length=m:=by simp;omega
 rw[e1]
 by_cases a2:i<m+c
 ·rw[if_pos a2,List.getElem?_append_left (by simp;omega),List.getElem?_replicate,if_pos (by omega)]
 rw[if_neg a2,List.getElem?_append_right (by simp;omega),List.length_replicate,List.getElem?_drop]
 have e2:m+c+(i - m - c)=i:=by omega
 rw[e2,Array.getElem?_toList,h3 i hi]
 unfold km
 rw[if_neg a1]
theorem exec_copy {P:Program} {o:Oper} {a:Act} {w w':World} {d s:Operand} {t t':TypeId} {u v v':Value} (ho:o.op = .call { callee:=.builtin .copy,args:=#[d,s],argTypes:=#[t,t'] }) (hd:a.eval d=v) (hs:a.eval s=u) (h:(Builtin.copy_ #[t,t'] o.type #[v,u]).run P w = .ok v' w') :
  (execOp a.eval o).run P w = .ok (.value v') w':=by
 unfold execOp
 simp only[ho,resolve,invoke,builtin,Sem.run_bind,Sem.run_pure,Result.andThen_ok,List.map_toArray,List.map_cons,List.map_nil,hd,hs,h]
theorem JB:(Tryz.prog.info? 3).map (fun i=>(i.zero,i.size,i.bytes))=some (some (.int .i64 0),1,8):=by kernel_rfl
theorem Qx:(Tryz.prog.info? 3).map (·.size)=some 1:=by kernel_rfl
theorem jT:Tryz.prog.underlying 44=some (.slice 3):=by kernel_rfl
theorem Zc (xb xo xc:Nat) (z:Int) (n:Nat) (w:World) (hn:n≤1000000) (hx:∀j,j<1→w.cell? ⟨xb,xo+j,none⟩=some (.int .i64 z)) :
  Calls Tryz.prog 98 #[.slice (some ⟨xb,xo,none⟩) 1 xc,.int .i64 n] w fun e w'=>e = .returned (.slice (some ⟨w.heap.size,0,none⟩) n n)∧w'.rowIs w.heap.size 3 n (fun _=>.int .i64 z)∧Below w.heap.size w w':=by
 obtain⟨i1,k1,k2,k3,k4⟩:=info_parts JB
 have hmk:=run_make_row 44 3 i1 (.int .i64 0) jT k1 k2 k3 rfl .i64 .i64 n (by rw[k4];omega) (by omega)
 have hrow:=World.rowIs_made w (.int .i64 0) n 3
 have hbm:=JA 1 n (by omega) (by omega)
 have e0:1*n / 18446744073709551616=0:=by omega
 have e1:1*n % 18446744073709551616=n:=by omega
 have eu1:IntKind.u64.wrap 1=1:=by decide
 have eun:IntKind.u64.wrap (n:Int)=n:=by rw[IntKind.wrap_u64];omega
 have ein:IntKind.i64.wrap (n:Int)=n:=by rw[IntKind.wrap_i64];omega
 simp only[e0,e1]at hbm
 have HX:=q7 hx
 have HR:=q7 hrow
 clear hx hrow e0 e1
 obtain⟨q,hq,hqn,hq1,hq0⟩:∃q,q=Nat.min 1 n∧q≤n∧q≤1∧(q=0→n=0):=⟨Nat.min 1 n,rfl,Nat.min_le_right _ _,Nat.min_le_left _ _,fun h=>by
  have:Nat.min 1 n=1∨Nat.min 1 n=n:=by
   rcases Nat.le_total 1 n with a|a
   ·exact .inl (Nat.min_eq_left a)
   exact .inr (Nat.min_eq_right a)
  omega⟩
 obtain⟨w2,hcp,hr2,hk2⟩:=kn (P:=Tryz.prog) (w.alloc (.cells (madeCells #[.int .i64 0] n) 3)) 44 44 3 3 w.heap.size 1 n 0 q n n 1 xc ⟨xb,xo,none⟩ 3 z jT Qx
  (HR.out.congr fun i _=>by unfold km;rw[if_neg (by omega)]) (by rw[←hq];simp) (fun j hj=>by
   have h1:=HX.out j (by omega)
   rw[XA]
   exact(World.cell?_of_block (Below.heap_alloc w _ _ (q8 h1))).trans h1) (by omega)
 rw[←hq]at hcp
 have hgi:goInt (q:Nat) = .int .i64 (q:Int):=rfl
 rw[hgi]at hcp
 have HR2:=q7 hr2
 have HB2:Hid (Below w.heap.size w w2):=q7 (Below.trans ((Below.refl _ _).alloc (Nat.le_refl _) _) (hk2.below (by simp) (fun i hi=>by omega)))
 have HQ:=q7 hq
 clear hr2 hk2 hq HR HX hgi
 go_enter Tryz.func98,Tryz.ntmps98
 go_wp2_with fail
 refine(hbm _).mono ?_
 rintro e w' ⟨rfl,hw⟩
 rw[hw]
 clear hw
 go_wp2_with fail
 clear hcp hmk hbm
 go_loopw [8] (fun i wr=>∃m:Nat,m≤n∧(m=0→n=0)∧i = .int .i64 m∧wr.rowIs w.heap.size 3 n (km z m)∧Below w.heap.size w wr) (fun i _=>n - (intOf i).toNat)
 case atStart=>exact⟨q,hqn,hq0,rfl,by simpa using HR2.out,HB2.out⟩
 case round=>
  clear HR2 HB2 HQ hqn hq1 hq0
  obtain⟨m,hm,hm0,rfl,hR,hb⟩:=hrel
  have HR:=q7 hR
  have HB:=q7 hb
  clear hR hb
  by_cases hlt:m<n
  rotate_left
  ·go_wp2
   go_ret
   obtain rfl:m=n:=by omega
   exact⟨rfl,HR.out.congr fun i hi=>by unfold km;rw[if_pos hi],HB.out⟩
  have hlt2:(m:Int)<n:=by omega
  have hm1:1≤m:=by omega
  obtain⟨c,hc⟩:∃c,c=Nat.min m (n - m):=⟨_,rfl⟩
  have hc1:c≤m:=by rw[hc];exact Nat.min_le_left _ _
  have hc2:c≤n - m:=by rw[hc];exact Nat.min_le_right _ _
  have hc3:1≤c:=by rw[hc];exact Nat.le_min.2 ⟨hm1,by omega⟩
  have hne:¬ n=m:=by omega
  have hwr:IntKind.i64.wrap ((m:Int)+c)=(m:Int)+c:=by rw[IntKind.wrap_i64];omega
  have HC:=q7 hc
  clear hc
  go_wp2_with fail
  refine qm (S:=fun _=>True) (by kernel_rfl) 9 ?_
  refine tkZ 0 38 (.int .i64 m) rfl rfl trivial (fun w' h=>?_) ?_
  ·go_simp
  refine tkZ 1 39 (.slice (some ⟨w.heap.size,0,none⟩) n n) rfl rfl trivial (fun w' h=>?_) ?_
  ·go_simp
  refine tkZ 2 40 (.int .i64 m) rfl rfl trivial (fun w' h=>?_) ?_
  ·go_simp
  refine tkZ 3 41 (.slice (some ⟨w.heap.size,m,none⟩) (n - m) (n - m)) rfl rfl trivial (fun w' h=>?_) ?_
  ·go_simp
  refine tkZ 4 42 (.slice (some ⟨w.heap.size,0,none⟩) n n) rfl rfl trivial (fun w' h=>?_) ?_
  ·go_simp
  refine tkZ 5 43 (.int .i64 m) rfl rfl trivial (fun w' h=>?_) ?_
  ·go_simp
  refine tkZ 6 44 (.slice (some ⟨w.heap.size,0,none⟩) m n) rfl rfl trivial (fun w' h=>?_) ?_
  ·go_simp
  obtain⟨w2,hcp,hr2,hk2⟩:=kn (P:=Tryz.prog) wr.drew 44 44 3 3 w.heap.size 1 n m c (n - m) (n - m) m n ⟨w.heap.size,0,none⟩ 3 z jT Qx HR.out (by rw[←HC.out];simp) (fun j hj=>by
   rw[XA,Nat.zero_add]
   rw[HR.out.drew.cell (i:=j) (by omega)]
   unfold km
   rw[if_pos (by omega)]) (by omega)
  rw[←HC.out]at hcp
  refine qk (i:=7) (by kernel_rfl) (qn 45 (.int .i64 c) w2 rfl rfl rfl (exec_copy rfl (by go_simp) (by go_simp) hcp) trivial ?_)
  refine qk (i:=8) (by kernel_rfl) (qn 46 (.int .i64 ((m+c:Nat):Int)) w2 rfl rfl rfl (by go_simp) trivial ?_)
  refine qk (i:=9) (by kernel_rfl) (qn 8 (.int .i64 ((m+c:Nat):Int)) w2 rfl rfl rfl (by go_simp) trivial (qB (by kernel_rfl) ?_ _))
  show Exit.inBlock 1 _ Exit.normal _ _
  have HR3:=q7 hr2
  have HB3:Hid (Below w.heap.size w w2):=q7 (HB.out.trans ((Below.refl _ _).drew.trans (hk2.below (B:=w.heap.size) (by exact HB.out.size) (fun i hi=>by omega))))
  clear hr2 hk2 hcp
  refine⟨⟨.int .i64 ((m+c:Nat):Int),.int .i64 m,.slice (some ⟨w.heap.size,0,none⟩) n n,.int .i64 n,.bool true,.int .i64 m,.slice (some ⟨w.heap.size,0,none⟩) n n,.int .i64 m,.slice (some ⟨w.heap.size,m,none⟩) (n - m) (n - m),.slice (some ⟨w.heap.size,0,none⟩) n n,.int .i64 m,.slice (some ⟨w.heap.size,0,none⟩) m n,.int .i64 c,.int .i64 ((m+c:Nat):Int),⟨m+c,by omega,by omega,rfl,HR3.out,HB3.out⟩,?_⟩,?_⟩
  ·go_simp
  go_simp
  simp[intOf];omega

end Go.Proofs.YtecdphhdmjmmnaaGreatDoor
namespace Go.Proofs.YtecdphhdmjmmnaaGreatDoor
open Go.RowKit

def qQ (xs:List (Bool×Int)):List Value:=xs.flatMap fun x=>[.bool x.1,.int .i64 x.2]
theorem vD (x:Bool×Int) (xs:List (Bool×Int)):qQ (x::xs) = .bool x.1::.int .i64 x.2::qQ xs:=rfl
theorem ko (xs ys:List (Bool×Int)):qQ (xs++ys)=qQ xs++qQ ys:=by simp[qQ]
theorem zM:∀xs:List (Bool×Int),(qQ xs).length=xs.length*2
 | []=>rfl
 | x::xs=>by rw[vD,List.length_cons,List.length_cons,zM xs,List.length_cons];omega
theorem kR:∀(xs:List (Bool×Int)) (k:Nat),qQ (xs.take k)=(qQ xs).take (k*2)
 | [],k=>by simp[qQ]
 | x::xs,0=>by simp[qQ]
 | x::xs,k+1=>by rw[List.take_succ_cons,vD,vD,kR xs k,show(k+1)*2=k*2+1+1 by omega,List.take_succ_cons,List.take_succ_cons]
theorem kS:∀(xs:List (Bool×Int)) (k:Nat),qQ (xs.drop k)=(qQ xs).drop (k*2)
 | [],k=>by simp[qQ]
 | x::xs,0=>by simp[qQ]
 | x::xs,k+1=>by rw[List.drop_succ_cons,vD,kS xs k,show(k+1)*2=k*2+1+1 by omega,List.drop_succ_cons,List.drop_succ_cons]
theorem kp:∀xs:List (Bool×Int),∀u∈qQ xs,u.oneCell'=true:=by
 intro xs u hu
 obtain⟨x,_,h⟩:=List.mem_flatMap.1 hu
 simp only[List.mem_cons,List.not_mem_nil,or_false]at h
 rcases h with rfl|rfl<;>rfl
theorem ZJ:∀{xs:List (Bool×Int)} {cs:Nat→List Value},(∀i (h:i<xs.length),cs i=[.bool xs[i].1,.int .i64 xs[i].2])→(List.range xs.length).flatMap cs=qQ xs
 | [],_,_=>rfl
 | x::xs,cs,h=>by
  rw[List.length_cons,List.range_succ_eq_map,List.flatMap_cons,h 0 (by simp)]
  have ih:=ZJ (xs:=xs) (cs:=fun i=>cs (i+1)) fun i hi=>by
   have:=h (i+1) (by simpa using hi)
   simpa using this
  unfold List.flatMap at ih ⊢
  rw[List.map_map]
  rw[show(List.range xs.length).map (cs∘Nat.succ)=(List.range xs.length).map (fun i=>cs (i+1))from rfl,ih]
  rfl

theorem SlO.row {w:World} {v:Value} {xs:List (Bool×Int)} {S:Blks} (h:SlO 43 2 Xu w v xs S):w.ownsRow 0 43 2 v xs.length (qQ xs)∧(∀x∈xs,I64 x.2)∧(∀g,v.ownBlock=some g→S g)∧InB w S:=by
 obtain⟨cs,T,h⟩:=h
 refine⟨?_,fun x hx=>?_,h.blk,h.inb⟩
 ·have:=h.own
  rwa [ZJ fun i hi=>(h.el i hi).1]at this
 obtain⟨i,hi,rfl⟩:=List.getElem_of_mem hx
 exact(h.el i hi).2
theorem SlO.ofRow {w:World} {v:Value} {xs:List (Bool×Int)} {S:Blks} (h:w.ownsRow 0 43 2 v xs.length (qQ xs)) (hx:∀x∈xs,I64 x.2) (hv:∀g,v.ownBlock=some g→S g) (hS:InB w S):SlO 43 2 Xu w v xs S:=by
 refine⟨kj xs,fun _ _=>False,⟨?_,fun _ _=>rfl,fun i _=>ZD xs i,fun i hi=>⟨?_,hx _ (List.getElem_mem hi)⟩,fun _ _ _ _ _ _ a _=>a,fun _ _ _ _ a=>a,hv,fun _ _ _ a=>a.elim,hS⟩⟩
 ·rw[ZJ fun i hi=>by unfold kj;simp[List.getD,hi]]
  exact h
 unfold kj;simp[List.getD,hi]

def RowAt (w:World) (e:TypeId) (g cap size:Nat) (cur:Array Value):Prop:=w.heap[g]?=some (.cells cur e (0,0))∧cur.size=cap*size∧cap≤maxLen
theorem RowAt.put {w:World} {e:TypeId} {g cap size:Nat} {cur:Array Value} (h:RowAt w e g cap size cur) {l:List Value} (hl:l.length=cap*size):RowAt (w.setRow g l.toArray) e g cap size l.toArray:=⟨setRow_heap w g cur _ e _ h.1,by simpa using hl,h.2.2⟩
theorem RowAt.drew {w:World} {e:TypeId} {g cap size:Nat} {cur:Array Value} (h:RowAt w e g cap size cur):RowAt w.drew e g cap size cur:=h
theorem RowAt.own {w:World} {e:TypeId} {g cap size:Nat} {cur:Array Value} (h:RowAt w e g cap size cur) {n:Nat} {xs:List Value} (hn:n≤cap) (hl:xs.length=n*size) (hx:cur.toList.take (n*size)=xs):w.ownsRow 0 e size (.slice (some ⟨g,0,none⟩) n cap) n xs:=
 ⟨hl,.inr ⟨g,cap,cur,rfl,Nat.zero_le _,h.1,hn,h.2.2,h.2.1,hx⟩⟩
theorem RowAt.cell {w:World} {e:TypeId} {g cap size:Nat} {cur:Array Value} (h:RowAt w e g cap size cur) (j:Nat):w.cell? ⟨g,j,none⟩=cur[j]?:=cell_of_row w g j cur e (0,0) h.1
theorem RowAt.keep {w:World} {e:TypeId} {g cap size:Nat} {cur:Array Value} (_h:RowAt w e g cap size cur) (r:Array Value):Kept (fun k=>k=g) w (w.setRow g r):=⟨rfl,rfl,rfl,by simp[World.setRow],fun k _ hk=>setRow_other w g k _ hk⟩

section
variable {P : Program}
theorem step_append_row {ops:Array Oper} {o:Oper} {a:Act} {w:World} {K:Act→World→Prop} {Q:Exit→Act→World→Prop} {E:Prop}
  (hg:o.guard=none) (s x:Operand) (t:TypeId) (hop:o.op=Op.call { callee:=Callee.builtin Builtin.append,args:=#[s,x],argTypes:=#[t,t] })
  (e:TypeId) (i:TypeInfo) (size:Nat) (ht:P.underlying t=some (.slice e)) (hi:P.info? e=some i) (hsz:i.size=size)
  (g n cap:Nat) (cur:Array Value) (hs:a.eval s = .slice (some ⟨g,0,none⟩) n cap) (hr:RowAt w e g cap size cur)
  (ad:Addr) (m c:Nat) (news:List Value) (hx:a.eval x = .slice (some ad) m c) (hn:news.length=m*size) (hc:∀j u,news[j]?=some u→w.cell? (ad.add j)=some u) (h1c:∀u∈news,u.oneCell'=true)
  (hroom:n+m≤cap)
  (hK:K (a.put o.dst (.slice (some ⟨g,0,none⟩) (n+m) cap)) (w.setRow g (cur.toList.take (n*size)++news++cur.toList.drop (n*size+news.length)).toArray)) :
  if Region.wanted o (yielded ops a.tmps)=true then Oper.wp P o a w K Q else E:=by
 have hw:Region.wanted o (yielded ops a.tmps)=true:=by simp[Region.wanted,hg]
 rw[if_pos hw]
 subst hsz
 have hfit:n*i.size+news.length≤cur.size:=by rw[hn,hr.2.1,←Nat.add_mul];exact Nat.mul_le_mul_right _ hroom
 have hrun:=run_append_room (P:=P) w t o.type e i ht hi g n cap cur hr.1 ad m c news hn hc h1c hroom hfit
 unfold Oper.wp execOp
 simp only[hop,resolve,invoke,builtin,Sem.run_bind,Sem.run_pure,Result.andThen_ok,List.map_toArray,List.map_cons,List.map_nil,hs,hx,hrun]
 exact hK
theorem run_clear_row (w:World) (t e ty:TypeId) (z:Value) (size:Nat) (ht:P.underlying t=some (.slice e)) (hv:∀w,(zeroValue e).run P w = .ok z w) (hz:z.cells.size=size) (h1:∀u∈z.cells.toList,u.oneCell'=true) (g o c:Nat) (cap:Nat) (cur:Array Value) (hr:RowAt w e g cap size cur) (hf:o+size≤cur.size) :
  (Builtin.clear_ #[t] ty #[.slice (some ⟨g,o,none⟩) 1 c]).run P w = .ok (.tuple #[]) (w.setRow g (cur.toList.take o++z.cells.toList++cur.toList.drop (o+size)).toArray):=by
 have hzc:(Builtin.zeroCells z.cells 1).toList=z.cells.toList:=by
  unfold Builtin.zeroCells
  apply List.ext_getElem
  ·simp
  intro i h1 h2
  have h3:i<z.cells.size:=by simpa using h2
  simp[Nat.mod_eq_of_lt h3,getElem!_pos z.cells i h3]
 have hl:z.cells.toList.length=size:=by rw[Array.length_toList,hz]
 have hst:=run_storeCells_at P g o e z.cells.toList 0 cur w hr.1 (by rw[Nat.add_zero,hl];exact hf) h1
 simp only[Nat.add_zero,hl]at hst
 simp[Builtin.clear_,run_underlying ht,hv,hzc,hst]
end
end Go.Proofs.YtecdphhdmjmmnaaGreatDoor
namespace Go.Proofs.YtecdphhdmjmmnaaGreatDoor
open Go.RowKit Go.Shelf

theorem Qy (g cap n k j:Nat) (xs:List (Bool×Int)) (cur:Array Value) (w:World) (hr:RowAt w 43 g cap 2 cur) (hx:cur.toList.take (n*2)=qQ xs) (hl:xs.length=n) (hn:n≤cap) (hk:k<n) (hj:j=k+1) :
  Calls Tryz.prog 126 #[.slice (some ⟨g,0,none⟩) n cap,.int .i64 k,.int .i64 j] w fun e w'=>
   e = .returned (.slice (some ⟨g,0,none⟩) (n - 1) cap)∧(∃cur',RowAt w' 43 g cap 2 cur'∧cur'.toList.take ((n - 1)*2)=qQ (xs.eraseIdx k))∧Kept (fun b=>b=g) w w':=by
 obtain⟨i1,k1,k2,k3,k4⟩:=info_parts kl
 have hcm:cap≤9223372036854775807:=hr.2.2
 have hcs:=hr.2.1
 have hlt:k<j:=by omega
 have hjn:j≤n:=by omega
 obtain⟨news,hnews⟩:∃news,news=qQ (xs.drop j):=⟨_,rfl⟩
 have hlen:news.length=(n - j)*2:=by rw[hnews,zM,List.length_drop,hl]
 have hget:∀t u,news[t]?=some u→cur[j*2+t]?=some u:=fun t u hu=>by
  rw[hnews,kS,List.getElem?_drop,←hx]at hu
  rw[←Array.getElem?_toList]
  rw[List.getElem?_take]at hu
  split at hu
  ·exact hu
  cases hu
 obtain⟨A,hA,hsrc⟩:∃A:Addr,(if cap=j then some (⟨g,0,none⟩:Addr)else some ⟨g,j*2,none⟩)=some A∧Hid (∀t u,news[t]?=some u→w.drew.cell? (A.add t)=some u):=by
  by_cases h:cap=j
  ·refine⟨⟨g,0,none⟩,by simp[h],fun t u hu=>?_⟩
   have h0:news.length=0:=by rw[hlen];omega
   rw[List.length_eq_zero_iff.1 h0]at hu
   simp at hu
  refine⟨⟨g,j*2,none⟩,by simp[h],fun t u hu=>?_⟩
  rw[zw]
  exact(hr.drew.cell _).trans (hget t u hu)
 have s2:Hid (∀u∈news,u.oneCell'=true):=by rw[hnews];exact kp _
 have s1:=q7 hlen
 obtain⟨c1,hc1⟩:∃c1:List Value,c1=cur.toList.take (k*2)++news++cur.toList.drop (k*2+news.length):=⟨_,rfl⟩
 have haa:c1.length=cap*2:=by
  rw[hc1]
  simp only[List.length_append,List.length_take,List.length_drop,Array.length_toList,hcs,hlen]
  omega
 obtain⟨W1,hW1⟩:∃W1,W1=w.drew.setRow g c1.toArray:=⟨_,rfl⟩
 have hr1:RowAt W1 43 g cap 2 c1.toArray:=by rw[hW1];exact hr.drew.put haa
 have hcl:∀ty c,(Builtin.clear_ #[51] ty #[.slice (some ⟨g,(n - 1)*2,none⟩) 1 c]).run Tryz.prog W1 = .ok (.tuple #[]) (W1.setRow g (c1.toArray.toList.take ((n - 1)*2)++(Value.agg #[.bool false,.int .i64 0]).cells.toList++c1.toArray.toList.drop ((n - 1)*2+2)).toArray):=fun ty c=>
  run_clear_row W1 51 43 ty (.agg #[.bool false,.int .i64 0]) 2 Tryz.underlying51 Tryz.zeroValue43 rfl (fun u hu=>by simp[Value.cells]at hu;rcases hu with rfl|rfl<;>rfl) g _ c cap _ hr1 (by simp[haa];omega)
 have HW:=q7 hW1
 have HR:=q7 hr
 have HR1:=q7 hr1
 have hkc:k≤cap:=by omega
 have hjc:j≤cap:=by omega
 have hkm:k+(n - j)=n - 1:=by omega
 have hn1:n - (n - 1)=1:=by omega
 have HX:=q7 (And.intro hx (And.intro hc1 haa))
 have HN:=q7 (And.intro hnews (And.intro hl hj))
 have mixed:Tryz.prog.follows .mixedOrders=true:=by kernel_rfl
 clear hW1 hr hr1 hget hlen hnews hx hc1 haa hj
 go_enter Tryz.func126,Tryz.ntmps126
 go_wp2_with fail
 go_region_law_o (refine step_append_row rfl (.tmp 22) (.tmp 25) 51 rfl 43 i1 2 Tryz.underlying51 k1 k3 g k cap cur (by simp[Act.eval,Act.put]) HR.out.drew A (n - j) (cap - j) news (by simp[Act.eval,Act.put]) s1.out hsrc.out s2.out (by omega) ?_;rw[←HX.out.2.1,←HW.out,hkm])
 go_wp2
 go_ret
 obtain⟨hx,hc1,haa⟩:=HX.out
 obtain⟨hnews,hl,hj⟩:=HN.out
 have hhG:(c1.take ((n - 1)*2)++Value.bool false::Value.int .i64 0::c1.drop ((n - 1)*2+2)).length=cap*2:=by
  simp only[List.length_append,List.length_take,List.length_drop,haa,List.length_cons]
  omega
 refine⟨rfl,⟨_,HR1.out.put hhG,?_⟩,((Kept.refl _ _).drew.trans (HW.out ▸ HR.out.drew.keep _) (fun _ _ h=>h)).trans (HR1.out.keep _) (fun _ _ h=>h)⟩
 have e1:c1.take ((n - 1)*2)=qQ (xs.eraseIdx k):=by
  have l1:(cur.toList.take (k*2)++news).length=(n - 1)*2:=by
   simp only[List.length_append,List.length_take,Array.length_toList,hcs,s1.out]
   omega
  rw[hc1,←l1,List.take_left,hnews,List.eraseIdx_eq_take_drop_succ,ko,kR,←hx,List.take_take,hj]
  congr 2
  omega
 have l2:(c1.take ((n - 1)*2)).length=(n - 1)*2:=by
  simp only[List.length_take,haa]
  omega
 show List.take ((n - 1)*2) (c1.take ((n - 1)*2)++_)=_
 rw[List.take_append_of_le_length (by rw[l2];exact Nat.le_refl _),List.take_take,Nat.min_self]
 exact e1
end Go.Proofs.YtecdphhdmjmmnaaGreatDoor
