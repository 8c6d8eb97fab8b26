/-
  What span.spans needs: the numbers of a function, the world within.
-/
import Derived.Test.YtbnnhmcloecijaaGreatDoorSpnG
set_option maxRecDepth 100000
set_option maxHeartbeats 16000000
namespace Go.Proofs.YtbnnhmcloecijaaGreatDoor
open Go.RowKit

def spF (l:Nat→Spn) (j:Nat):Value:=if j % 3=0 then .int .i64 (l (j / 3)).lo else if j % 3=1 then .int .i64 (l (j / 3)).hi else .bool (l (j / 3)).has
theorem spF_0 (l:Nat→Spn) (r:Nat):spF l (r*3) = .int .i64 (l r).lo:=by
 have e:r*3 / 3=r:=by omega
 unfold spF
 rw [zZ (by omega),e]
theorem spF_1 (l:Nat→Spn) (r:Nat):spF l (r*3+1) = .int .i64 (l r).hi:=by
 have e:(r*3+1) / 3=r:=by omega
 unfold spF
 rw [zQ (by omega),zZ (by omega),e]
theorem spF_2 (l:Nat→Spn) (r:Nat):spF l (r*3+2) = .bool (l r).has:=by
 have e:(r*3+2) / 3=r:=by omega
 unfold spF
 rw [zQ (by omega),zQ (by omega),e]
theorem VI {l:Nat→Spn} {d:Nat} (s:Spn) {w:World} {B n:Nat} {t:TypeId} (hR:w.rowIs B t n (spF l)) :
  (((w.setCell ⟨B,d*3,none⟩ (.int .i64 s.lo)).setCell ⟨B,d*3+1,none⟩ (.int .i64 s.hi)).setCell ⟨B,d*3+2,none⟩ (.bool s.has)).rowIs B t n (spF (VC l d s)):=by
 refine (((hR.set (d*3) (.int .i64 s.lo)).set (d*3+1) (.int .i64 s.hi)).set (d*3+2) (.bool s.has)).congr fun j _=>?_
 by_cases e:j / 3=d
 ·have hj:j=d*3∨j=d*3+1∨j=d*3+2:=by omega
  rcases hj with rfl|rfl|rfl
  ·rw [zQ (by omega),zQ (by omega),zZ rfl,spF_0,QJ]
  ·rw [zQ (by omega),zZ rfl,spF_1,QJ]
  rw [zZ rfl,spF_2,QJ]
 rw [zQ (by omega),zQ (by omega),zQ (by omega)]
 unfold spF
 rw [XZ e]
theorem jp (a b a' b':Int) (c c':Bool) (w:World) :
  (binOp .eql 59 (.agg #[.int .i64 a,.int .i64 b,.bool c]) (.agg #[.int .i64 a',.int .i64 b',.bool c'])).run Tryz.prog w = .ok (.bool (a == a'&&b == b'&&c == c')) w:=by
 by_cases h1:a=a'<;>by_cases h2:b=b'<;>cases c<;>cases c'<;>simp [go_sem,h1,h2]

theorem spVal_any (X O n:Nat) (l:Nat→Spn) (r:Bool) (m:Int) (w:World) (_hn:n≤1000) (hX:w.cell? ⟨X,0,none⟩=some (.slice (some ⟨O,0,none⟩) n n)) (hT:w.rowIs O 59 (n*3) (spF l)) (hv:r=true→0≤m∧m<n) :
  Calls Tryz.prog 36 #[.agg #[.bool r,.int .i64 m],.pointer (some ⟨X,0,none⟩)] w fun e w'=>e = .returned (.agg (spC (vlS l (r,m))))∧Below w.heap.size w w':=by
 have hzX:=qd hX
 cases r with
 | false=>
  rw [show vlS l (false,m)=ofS m m from rfl]
  clear hT hv
  go_enter Tryz.func36,Tryz.ntmps36
  go_wp2_with (go_at_call 18;refine (qP _ _).mono ?_;rintro e w1 ⟨rfl,rfl⟩)
  refine zk (v:=.agg (spC (ofS m m))) ?_ rfl ⟨rfl,?_⟩
  ·simp [results,Tryz.results36,go_sem,spC,ofS]
  exact bZ
 | true=>
  obtain ⟨h1,h2⟩:=hv rfl
  obtain ⟨q,rfl⟩:∃q:Nat,m=q:=⟨m.toNat,by omega⟩
  have hq:q<n:=by omega
  have c0:=hT.cell (i:=q*3) (by omega)
  have c1:=hT.cell (i:=q*3+1) (by omega)
  have c2:=hT.cell (i:=q*3+2) (by omega)
  have hO:=hT.lt
  rw [spF_0] at c0
  rw [spF_1] at c1
  rw [spF_2] at c2
  rw [show vlS l (true,(q:Int))=l q from rfl]
  clear hT hv h1 h2
  obtain ⟨⟨a,b,s⟩,hs⟩:∃s,s=l q:=⟨_,rfl⟩
  rw [←hs] at c0 c1 c2 ⊢
  clear hs
  simp only at c0 c1 c2
  go_enter Tryz.func36,Tryz.ntmps36
  go_wp2_with fail
  refine zk (v:=.agg (spC ⟨a,b,s⟩)) ?_ rfl ⟨rfl,?_⟩
  ·simp [results,Tryz.results36,go_sem,spC]
  exact bZ

theorem kJ {P:Program} {ops:Array Oper} {b:Bool} {Q:Exit→Act→World→Prop} {a:Act} {w:World} (n:Nat) (h:Code.wp P (.region n ops b) Q a w):Code.wp P (.region n ops b) Q a w:=h

structure PutW (w:World) (O A n:Nat) (l:Nat→Spn) (ag:Bool) (x y:Spn) (w':World):Prop where
 kept:Kept (fun k=>k=O∨k=A) w w'
 x:w'.heap[w.heap.size]?=some (.cells #[.int .i64 x.lo,.int .i64 x.hi,.bool x.has] 59 (0,0))
 y:w'.heap[w.heap.size+1]?=some (.cells #[.int .i64 y.lo,.int .i64 y.hi,.bool y.has] 59 (0,0))
 row:w'.rowIs O 59 (n*3) (spF l)
 ag:w'.heap[A]?=some (.cells #[.bool ag] 4 (0,0))
 o:O<w.heap.size
 a:A<w.heap.size
 oa:O≠A
theorem Xk {S:Blks} {w w':World} (h:Kept S w w') {p:Addr} (hp:w.heap.size≤p.block) (v:Value):Kept S w (w'.setCell p v):=
 ⟨h.os,h.tape,h.output,by rw [yK];exact h.size,fun k hk hn=>(zJ w' p v k (fun e=>by omega)).trans (h.block k hk hn)⟩
theorem PutW.lo {w w':World} {O A n:Nat} {l:Nat→Spn} {ag:Bool} {x y:Spn} (h:PutW w O A n l ag x y w') (v:Int):PutW w O A n l ag ⟨v,x.hi,x.has⟩ y (w'.setCell ⟨w.heap.size,0,none⟩ (.int .i64 v)):=
 ⟨Xk h.kept (zK _) _,by rw [qV h.x];rfl,(zJ _ _ _ _ (by show w.heap.size+1≠w.heap.size;omega)).trans h.y,
  h.row.of_block (zJ _ _ _ _ (by show O≠w.heap.size;have:=h.o;omega)),(zJ _ _ _ _ (by show A≠w.heap.size;have:=h.a;omega)).trans h.ag,h.o,h.a,h.oa⟩
theorem PutW.hi {w w':World} {O A n:Nat} {l:Nat→Spn} {ag:Bool} {x y:Spn} (h:PutW w O A n l ag x y w') (v:Int):PutW w O A n l ag ⟨x.lo,v,x.has⟩ y (w'.setCell ⟨w.heap.size,1,none⟩ (.int .i64 v)):=
 ⟨Xk h.kept (zK _) _,by rw [qV h.x];rfl,(zJ _ _ _ _ (by show w.heap.size+1≠w.heap.size;omega)).trans h.y,
  h.row.of_block (zJ _ _ _ _ (by show O≠w.heap.size;have:=h.o;omega)),(zJ _ _ _ _ (by show A≠w.heap.size;have:=h.a;omega)).trans h.ag,h.o,h.a,h.oa⟩
theorem PutW.has {w w':World} {O A n:Nat} {l:Nat→Spn} {ag:Bool} {x y:Spn} (h:PutW w O A n l ag x y w') (v:Bool):PutW w O A n l ag ⟨x.lo,x.hi,v⟩ y (w'.setCell ⟨w.heap.size,2,none⟩ (.bool v)):=
 ⟨Xk h.kept (zK _) _,by rw [qV h.x];rfl,(zJ _ _ _ _ (by show w.heap.size+1≠w.heap.size;omega)).trans h.y,
  h.row.of_block (zJ _ _ _ _ (by show O≠w.heap.size;have:=h.o;omega)),(zJ _ _ _ _ (by show A≠w.heap.size;have:=h.a;omega)).trans h.ag,h.o,h.a,h.oa⟩
theorem PutW.put {w w':World} {O A n:Nat} {l:Nat→Spn} {ag:Bool} {x y:Spn} (h:PutW w O A n l ag x y w'):PutW w O A n l true x y (w'.setCell ⟨A,0,none⟩ (.bool true)):=
 ⟨h.kept.setCell (.inr rfl) _,(zJ _ _ _ _ (by show w.heap.size≠A;have:=h.a;omega)).trans h.x,(zJ _ _ _ _ (by show w.heap.size+1≠A;have:=h.a;omega)).trans h.y,
  h.row.of_block (zJ _ _ _ _ h.oa),by rw [qV h.ag];rfl,h.o,h.a,h.oa⟩
theorem PutW.start {w w1:World} {O A n:Nat} {l:Nat→Spn} {ag:Bool} {x y:Spn} (hT:w.rowIs O 59 (n*3) (spF l)) (hA:w.heap[A]?=some (.cells #[.bool ag] 4 (0,0))) (oa:O≠A)
  (hb:Below (w.heap.size+1+1) ((w.alloc (.cells #[.int .i64 x.lo,.int .i64 x.hi,.bool x.has] 59)).alloc (.cells #[.int .i64 y.lo,.int .i64 y.hi,.bool y.has] 59)) w1):PutW w O A n l ag x y w1:=by
 obtain ⟨W,hW⟩:∃W,W=(w.alloc (.cells #[.int .i64 x.lo,.int .i64 x.hi,.bool x.has] 59)).alloc (.cells #[.int .i64 y.lo,.int .i64 y.hi,.bool y.has] 59):=⟨_,rfl⟩
 rw [←hW] at hb
 have h0:Below w.heap.size w W:=by rw [hW];exact bZ
 have h1:=h0.trans (hb.mono (by omega))
 have zA:=q8 hA
 exact ⟨Kept.of_below h1,(hb.block w.heap.size (by omega)).trans (by rw [hW];exact qg (qn w _)),(hb.block (w.heap.size+1) (by omega)).trans (by rw [hW];exact qh (by simp)),
  hT.of_block (h1.block O hT.lt),(h1.block A zA).trans hA,hT.lt,zA,oa⟩
theorem PutW.done {w w':World} {O A n d:Nat} {l:Nat→Spn} {ag:Bool} {x y:Spn} (h:PutW w O A n l ag x y w') {s:Spn} (hs:s=x) :
  (((w'.setCell ⟨O,d*3,none⟩ (.int .i64 s.lo)).setCell ⟨O,d*3+1,none⟩ (.int .i64 s.hi)).setCell ⟨O,d*3+2,none⟩ (.bool s.has)).rowIs O 59 (n*3) (spF (VC l d x))∧
  (((w'.setCell ⟨O,d*3,none⟩ (.int .i64 s.lo)).setCell ⟨O,d*3+1,none⟩ (.int .i64 s.hi)).setCell ⟨O,d*3+2,none⟩ (.bool s.has)).heap[A]?=some (.cells #[.bool ag] 4 (0,0))∧
  Kept (fun k=>k=O∨k=A) w (((w'.setCell ⟨O,d*3,none⟩ (.int .i64 s.lo)).setCell ⟨O,d*3+1,none⟩ (.int .i64 s.hi)).setCell ⟨O,d*3+2,none⟩ (.bool s.has)):=by
 subst hs
 have hne:A≠O:=fun e=>h.oa e.symm
 exact ⟨VI s h.row,(zJ _ _ _ _ hne).trans ((zJ _ _ _ _ hne).trans ((zJ _ _ _ _ hne).trans h.ag)),
  ((h.kept.setCell (.inl rfl) _).setCell (.inl rfl) _).setCell (.inl rfl) _⟩
theorem JK {turn:Nat} {old s:Spn} (h:2<turn∧old.has=true):Yu turn old s=⟨if s.lo<old.lo then vz else s.lo,if old.hi<s.hi then vi else s.hi,s.has⟩:=zZ h

theorem put_any (X O A T n d turn:Nat) (l:Nat→Spn) (s:Spn) (ag:Bool) (w:World) (_hn:n≤1000) (hd:d<n) (ht:turn<1000000000) (hX:w.cell? ⟨X,0,none⟩=some (.slice (some ⟨O,0,none⟩) n n)) (hT:w.rowIs O 59 (n*3) (spF l)) (hA:w.heap[A]?=some (.cells #[.bool ag] 4 (0,0))) (hU:w.cell? ⟨T,0,none⟩=some (.int .i64 turn))
  (xo:X≠O) (xa:X≠A) (oa:O≠A) (tq:T≠O) (ta:T≠A) :
  Calls Tryz.prog 37 #[.int .i64 d,.agg #[.int .i64 s.lo,.int .i64 s.hi,.bool s.has],.pointer (some ⟨X,0,none⟩),.pointer (some ⟨A,0,none⟩),.pointer (some ⟨T,0,none⟩)] w fun e w'=>e = .returned (.tuple #[])∧w'.rowIs O 59 (n*3) (spF (kG turn l d s))∧w'.heap[A]?=some (.cells #[.bool (ag || Kz l d s)] 4 (0,0))∧Kept (fun k=>k=O∨k=A) w w':=by
 have zO:=hT.lt
 have c0:=hT.cell (i:=d*3) (by omega)
 have c1:=hT.cell (i:=d*3+1) (by omega)
 have c2:=hT.cell (i:=d*3+2) (by omega)
 rw [spF_0] at c0
 rw [spF_1] at c1
 rw [spF_2] at c2
 have zX:=qd hX
 have zA:=q8 hA
 have zT:=qd hU
 have HX:=q7 hX
 have HU:=q7 hU
 have HJ:=q7 (kI (l d) s)
 have HP:=q7 (show kG turn l d s=VC l d (if eqS (zR (l d) s) (l d)=true then l d else Yu turn (l d) (zR (l d) s)) from rfl)
 have HC:=q7 (show Kz l d s = !eqS (zR (l d) s) (l d) from rfl)
 have HS:=q7 (show VC l d (l d)=l from VD)
 obtain ⟨⟨ol,oh,os⟩,ho⟩:∃x,x=l d:=⟨_,rfl⟩
 have HW:=q7 (fun w1=>PutW.start (w:=w) (w1:=w1) (x:=s) (y:=⟨ol,oh,os⟩) hT hA oa)
 rw [←ho] at c0 c1 c2 HJ HP HC HS
 clear ho hT hA
 obtain ⟨⟨jl,jh,js⟩,hj⟩:∃x,x=zR ⟨ol,oh,os⟩ s:=⟨_,rfl⟩
 rw [←hj] at HJ HP HC
 clear hj
 simp only [spC] at HJ
 simp only at c0 c1 c2 HW
 go_enter Tryz.func37,Tryz.ntmps37
 go_wp2_with fail
 refine (HJ.out _).mono ?_
 rintro e w1 ⟨rfl,hb1⟩
 have P0:=q7 (HW.out w1 (by simpa using hb1))
 clear HJ HW hb1 hX hU c0 c1 c2
 have x0:=(blk P0.out.x).1 0
 have x1:=(blk P0.out.x).1 1
 have x2:=(blk P0.out.x).1 2
 have xf:=(blk P0.out.x).2
 have zx:=q8 P0.out.x
 simp only [zE,zB,zD] at x0 x1 x2
 have y0:=(blk P0.out.y).1 0
 have y1:=(blk P0.out.y).1 1
 have y2:=(blk P0.out.y).1 2
 simp only [zE,zB,zD] at y0 y1 y2
 repeat' ((fail_if_success (refine kJ 3 ?_));first|go_values|go_skip|go_guarded|go_step|go_upon|go_back|(simp only at *;go_simp)|(go_values<;>(try go_simp))|(go_ite<;>go_prune<;>(try go_simp))|(split<;>(first|(rename_i hx;exact (hx _ rfl).elim)|go_prune)))
 obtain ⟨w2,hw2⟩:∃w2,w2=((w1.setCell ⟨w.heap.size,0,none⟩ (.int .i64 jl)).setCell ⟨w.heap.size,1,none⟩ (.int .i64 jh)).setCell ⟨w.heap.size,2,none⟩ (.bool js):=⟨_,rfl⟩
 rw [←hw2]
 have P2:Hid (PutW w O A n l ag ⟨jl,jh,js⟩ ⟨ol,oh,os⟩ w2):=q7 (by rw [hw2];exact ((P0.out.lo jl).hi jh).has js)
 clear x0 x1 x2 xf zx y0 y1 y2
 clear hw2 P0
 have x0:=(blk P2.out.x).1 0
 have x1:=(blk P2.out.x).1 1
 have x2:=(blk P2.out.x).1 2
 have xf:=(blk P2.out.x).2
 have zx:=q8 P2.out.x
 simp only [zE,zB,zD] at x0 x1 x2
 have y0:=(blk P2.out.y).1 0
 have y1:=(blk P2.out.y).1 1
 have y2:=(blk P2.out.y).1 2
 simp only [zE,zB,zD] at y0 y1 y2
 have aa:=(blk P2.out.ag).1 0
 have af:=(blk P2.out.ag).2
 simp only [zE,zB] at aa
 try simp only at x0 x1 x2 y0 y1 y2
 have hq:∀w,(binOp .eql 59 (.agg #[.int .i64 jl,.int .i64 jh,.bool js]) (.agg #[.int .i64 ol,.int .i64 oh,.bool os])).run Tryz.prog w = .ok (.bool (eqS ⟨jl,jh,js⟩ ⟨ol,oh,os⟩)) w:=jp _ _ _ _ _ _
 cases he:eqS ⟨jl,jh,js⟩ ⟨ol,oh,os⟩ with
 | true=>
  have HE:=q7 he
  rw [he] at hq
  clear he
  go_wp2_with fail
  refine zk (results_none rfl _ _ _) rfl ⟨rfl,?_,?_,P2.out.kept⟩
  ·rw [HP.out,zZ HE.out,HS.out];exact P2.out.row
  rw [HC.out,HE.out]
  exact (Bool.or_false ag).symm ▸ P2.out.ag
 | false=>
  have HE:=q7 he
  rw [he] at hq
  clear he
  repeat' ((fail_if_success (refine kJ 5 ?_));first|go_values|go_skip|go_guarded|go_step|go_upon|go_back|(simp only [Int.not_lt,Int.not_le] at *;go_simp)|(go_values<;>(try go_simp))|(go_ite<;>go_prune<;>(try go_simp))|(split<;>(first|(rename_i hx;exact (hx _ rfl).elim)|go_prune)))
  obtain ⟨w3,hw3⟩:∃w3,w3=w2.setCell ⟨A,0,none⟩ (.bool true):=⟨_,rfl⟩
  rw [←hw3]
  have P3:Hid (PutW w O A n l true ⟨jl,jh,js⟩ ⟨ol,oh,os⟩ w3):=q7 (by rw [hw3];exact P2.out.put)
  clear x0 x1 x2 xf zx y0 y1 y2 aa af
  clear hw3 P2 hq
  have x0:=(blk P3.out.x).1 0
  have x1:=(blk P3.out.x).1 1
  have x2:=(blk P3.out.x).1 2
  have xf:=(blk P3.out.x).2
  have zx:=q8 P3.out.x
  simp only [zE,zB,zD] at x0 x1 x2
  have y0:=(blk P3.out.y).1 0
  have y1:=(blk P3.out.y).1 1
  have y2:=(blk P3.out.y).1 2
  simp only [zE,zB,zD] at y0 y1 y2
  have hUU:=(P3.out.kept.cell (p:=⟨T,0,none⟩) zT (fun h=>h.elim tq ta)).trans HU.out
  try simp only at x0 x1 x2 y0 y1 y2
  have HP2:=q7 (show kG turn l d s=VC l d (Yu turn ⟨ol,oh,os⟩ ⟨jl,jh,js⟩) from by rw [HP.out,HE.out];rfl)
  have HC2:=q7 (show (ag || Kz l d s)=true from by rw [HC.out,HE.out];simp)
  clear HP HC HE HS
  by_cases h2:2<turn
  rotate_left
  ·have ht2:decide ((2:Int)<turn)=false:=by simp;omega
   have H2:=q7 h2
   clear h2
   repeat' ((fail_if_success (refine kJ 10 ?_));first|go_values|go_skip|go_guarded|go_step|go_upon|go_back|(simp only [Int.not_lt,Int.not_le] at *;go_simp)|(go_values<;>(try go_simp))|(go_ite<;>go_prune<;>(try go_simp))|(split<;>(first|(rename_i hx;exact (hx _ rfl).elim)|go_prune)))
   obtain ⟨w4,hw4⟩:∃w4,w4=w3:=⟨_,rfl⟩
   rw [←hw4]
   have P4:Hid (PutW w O A n l true ⟨jl,jh,js⟩ ⟨ol,oh,os⟩ w4):=q7 (by rw [hw4];exact P3.out)
   clear x0 x1 x2 xf zx y0 y1 y2 hUU
   clear hw4 P3 ht2
   have x0:=(blk P4.out.x).1 0
   have x1:=(blk P4.out.x).1 1
   have x2:=(blk P4.out.x).1 2
   have xf:=(blk P4.out.x).2
   have zx:=q8 P4.out.x
   simp only [zE,zB,zD] at x0 x1 x2
   have hXX:=(P4.out.kept.cell (p:=⟨X,0,none⟩) zX (fun h=>h.elim xo xa)).trans HX.out
   have o0:=P4.out.row.cell (i:=d*3) (by omega)
   have o1:=P4.out.row.cell (i:=d*3+1) (by omega)
   have o2:=P4.out.row.cell (i:=d*3+2) (by omega)
   have of0:=P4.out.row.frozen (d*3)
   have of1:=P4.out.row.frozen (d*3+1)
   have of2:=P4.out.row.frozen (d*3+2)
   try simp only at x0 x1 x2
   go_wp2_with fail
   have hw:Yu turn ⟨ol,oh,os⟩ ⟨jl,jh,js⟩=⟨jl,jh,js⟩:=zQ (fun h=>H2.out h.1)
   have hD:=PutW.done (d:=d) P4.out rfl
   rw [HP2.out,hw,HC2.out]
   exact bodyPost_end (results_none rfl _ _ _) rfl ⟨rfl,hD⟩
  have ht2:decide ((2:Int)<turn)=true:=by simp;omega
  have H2:=q7 h2
  clear h2
  cases os with
  | true=>
   by_cases hl:jl<ol
   ·by_cases hh:oh<jh
    ·have HL:=q7 hl
     have HH:=q7 hh
     repeat' ((fail_if_success (refine kJ 10 ?_));first|go_values|go_skip|go_guarded|go_step|go_upon|go_back|(simp only [Int.not_lt,Int.not_le] at *;go_simp)|(go_values<;>(try go_simp))|(go_ite<;>go_prune<;>(try go_simp))|(split<;>(first|(rename_i hx;exact (hx _ rfl).elim)|go_prune)))
     obtain ⟨w4,hw4⟩:∃w4,w4=(w3.setCell ⟨w.heap.size,0,none⟩ (.int .i64 (-9223372036854775808))).setCell ⟨w.heap.size,1,none⟩ (.int .i64 9223372036854775807):=⟨_,rfl⟩
     rw [←hw4]
     have P4:Hid (PutW w O A n l true ⟨vz,vi,js⟩ ⟨ol,oh,true⟩ w4):=q7 (by rw [hw4];exact ((P3.out.lo _).hi _))
     clear x0 x1 x2 xf zx y0 y1 y2 hUU
     clear hw4 P3 ht2 hl hh
     have x0:=(blk P4.out.x).1 0
     have x1:=(blk P4.out.x).1 1
     have x2:=(blk P4.out.x).1 2
     have xf:=(blk P4.out.x).2
     have zx:=q8 P4.out.x
     simp only [zE,zB,zD] at x0 x1 x2
     have hXX:=(P4.out.kept.cell (p:=⟨X,0,none⟩) zX (fun h=>h.elim xo xa)).trans HX.out
     have o0:=P4.out.row.cell (i:=d*3) (by omega)
     have o1:=P4.out.row.cell (i:=d*3+1) (by omega)
     have o2:=P4.out.row.cell (i:=d*3+2) (by omega)
     have of0:=P4.out.row.frozen (d*3)
     have of1:=P4.out.row.frozen (d*3+1)
     have of2:=P4.out.row.frozen (d*3+2)
     try simp only at x0 x1 x2
     go_wp2_with fail
     have hw:Yu turn ⟨ol,oh,true⟩ ⟨jl,jh,js⟩=⟨vz,vi,js⟩:=(JK ⟨H2.out,rfl⟩).trans (Spn.ext' (zZ (by have:=HL.out;show jl<ol;omega)) (zZ (by have:=HH.out;show oh<jh;omega)) rfl)
     have hD:=PutW.done (d:=d) P4.out rfl
     rw [HP2.out,hw,HC2.out]
     exact bodyPost_end (results_none rfl _ _ _) rfl ⟨rfl,hD⟩
    have HL:=q7 hl
    have HH:=q7 hh
    repeat' ((fail_if_success (refine kJ 10 ?_));first|go_values|go_skip|go_guarded|go_step|go_upon|go_back|(simp only [Int.not_lt,Int.not_le] at *;go_simp)|(go_values<;>(try go_simp))|(go_ite<;>go_prune<;>(try go_simp))|(split<;>(first|(rename_i hx;exact (hx _ rfl).elim)|go_prune)))
    obtain ⟨w4,hw4⟩:∃w4,w4=w3.setCell ⟨w.heap.size,0,none⟩ (.int .i64 (-9223372036854775808)):=⟨_,rfl⟩
    rw [←hw4]
    have P4:Hid (PutW w O A n l true ⟨vz,jh,js⟩ ⟨ol,oh,true⟩ w4):=q7 (by rw [hw4];exact (P3.out.lo _))
    clear x0 x1 x2 xf zx y0 y1 y2 hUU
    clear hw4 P3 ht2 hl hh
    have x0:=(blk P4.out.x).1 0
    have x1:=(blk P4.out.x).1 1
    have x2:=(blk P4.out.x).1 2
    have xf:=(blk P4.out.x).2
    have zx:=q8 P4.out.x
    simp only [zE,zB,zD] at x0 x1 x2
    have hXX:=(P4.out.kept.cell (p:=⟨X,0,none⟩) zX (fun h=>h.elim xo xa)).trans HX.out
    have o0:=P4.out.row.cell (i:=d*3) (by omega)
    have o1:=P4.out.row.cell (i:=d*3+1) (by omega)
    have o2:=P4.out.row.cell (i:=d*3+2) (by omega)
    have of0:=P4.out.row.frozen (d*3)
    have of1:=P4.out.row.frozen (d*3+1)
    have of2:=P4.out.row.frozen (d*3+2)
    try simp only at x0 x1 x2
    go_wp2_with fail
    have hw:Yu turn ⟨ol,oh,true⟩ ⟨jl,jh,js⟩=⟨vz,jh,js⟩:=(JK ⟨H2.out,rfl⟩).trans (Spn.ext' (zZ (by have:=HL.out;show jl<ol;omega)) (zQ (by have:=HH.out;show ¬ oh<jh;omega)) rfl)
    have hD:=PutW.done (d:=d) P4.out rfl
    rw [HP2.out,hw,HC2.out]
    exact bodyPost_end (results_none rfl _ _ _) rfl ⟨rfl,hD⟩
   by_cases hh:oh<jh
   ·have HL:=q7 hl
    have HH:=q7 hh
    repeat' ((fail_if_success (refine kJ 10 ?_));first|go_values|go_skip|go_guarded|go_step|go_upon|go_back|(simp only [Int.not_lt,Int.not_le] at *;go_simp)|(go_values<;>(try go_simp))|(go_ite<;>go_prune<;>(try go_simp))|(split<;>(first|(rename_i hx;exact (hx _ rfl).elim)|go_prune)))
    obtain ⟨w4,hw4⟩:∃w4,w4=(w3).setCell ⟨w.heap.size,1,none⟩ (.int .i64 9223372036854775807):=⟨_,rfl⟩
    rw [←hw4]
    have P4:Hid (PutW w O A n l true ⟨jl,vi,js⟩ ⟨ol,oh,true⟩ w4):=q7 (by rw [hw4];exact (P3.out.hi _))
    clear x0 x1 x2 xf zx y0 y1 y2 hUU
    clear hw4 P3 ht2 hl hh
    have x0:=(blk P4.out.x).1 0
    have x1:=(blk P4.out.x).1 1
    have x2:=(blk P4.out.x).1 2
    have xf:=(blk P4.out.x).2
    have zx:=q8 P4.out.x
    simp only [zE,zB,zD] at x0 x1 x2
    have hXX:=(P4.out.kept.cell (p:=⟨X,0,none⟩) zX (fun h=>h.elim xo xa)).trans HX.out
    have o0:=P4.out.row.cell (i:=d*3) (by omega)
    have o1:=P4.out.row.cell (i:=d*3+1) (by omega)
    have o2:=P4.out.row.cell (i:=d*3+2) (by omega)
    have of0:=P4.out.row.frozen (d*3)
    have of1:=P4.out.row.frozen (d*3+1)
    have of2:=P4.out.row.frozen (d*3+2)
    try simp only at x0 x1 x2
    go_wp2_with fail
    have hw:Yu turn ⟨ol,oh,true⟩ ⟨jl,jh,js⟩=⟨jl,vi,js⟩:=(JK ⟨H2.out,rfl⟩).trans (Spn.ext' (zQ (by have:=HL.out;show ¬ jl<ol;omega)) (zZ (by have:=HH.out;show oh<jh;omega)) rfl)
    have hD:=PutW.done (d:=d) P4.out rfl
    rw [HP2.out,hw,HC2.out]
    exact bodyPost_end (results_none rfl _ _ _) rfl ⟨rfl,hD⟩
   have HL:=q7 hl
   have HH:=q7 hh
   repeat' ((fail_if_success (refine kJ 10 ?_));first|go_values|go_skip|go_guarded|go_step|go_upon|go_back|(simp only [Int.not_lt,Int.not_le] at *;go_simp)|(go_values<;>(try go_simp))|(go_ite<;>go_prune<;>(try go_simp))|(split<;>(first|(rename_i hx;exact (hx _ rfl).elim)|go_prune)))
   obtain ⟨w4,hw4⟩:∃w4,w4=w3:=⟨_,rfl⟩
   rw [←hw4]
   have P4:Hid (PutW w O A n l true ⟨jl,jh,js⟩ ⟨ol,oh,true⟩ w4):=q7 (by rw [hw4];exact P3.out)
   clear x0 x1 x2 xf zx y0 y1 y2 hUU
   clear hw4 P3 ht2 hl hh
   have x0:=(blk P4.out.x).1 0
   have x1:=(blk P4.out.x).1 1
   have x2:=(blk P4.out.x).1 2
   have xf:=(blk P4.out.x).2
   have zx:=q8 P4.out.x
   simp only [zE,zB,zD] at x0 x1 x2
   have hXX:=(P4.out.kept.cell (p:=⟨X,0,none⟩) zX (fun h=>h.elim xo xa)).trans HX.out
   have o0:=P4.out.row.cell (i:=d*3) (by omega)
   have o1:=P4.out.row.cell (i:=d*3+1) (by omega)
   have o2:=P4.out.row.cell (i:=d*3+2) (by omega)
   have of0:=P4.out.row.frozen (d*3)
   have of1:=P4.out.row.frozen (d*3+1)
   have of2:=P4.out.row.frozen (d*3+2)
   try simp only at x0 x1 x2
   go_wp2_with fail
   have hw:Yu turn ⟨ol,oh,true⟩ ⟨jl,jh,js⟩=⟨jl,jh,js⟩:=(JK ⟨H2.out,rfl⟩).trans (Spn.ext' (zQ (by have:=HL.out;show ¬ jl<ol;omega)) (zQ (by have:=HH.out;show ¬ oh<jh;omega)) rfl)
   have hD:=PutW.done (d:=d) P4.out rfl
   rw [HP2.out,hw,HC2.out]
   exact bodyPost_end (results_none rfl _ _ _) rfl ⟨rfl,hD⟩
  | false=>
   repeat' ((fail_if_success (refine kJ 10 ?_));first|go_values|go_skip|go_guarded|go_step|go_upon|go_back|(simp only [Int.not_lt,Int.not_le] at *;go_simp)|(go_values<;>(try go_simp))|(go_ite<;>go_prune<;>(try go_simp))|(split<;>(first|(rename_i hx;exact (hx _ rfl).elim)|go_prune)))
   obtain ⟨w4,hw4⟩:∃w4,w4=w3:=⟨_,rfl⟩
   rw [←hw4]
   have P4:Hid (PutW w O A n l true ⟨jl,jh,js⟩ ⟨ol,oh,false⟩ w4):=q7 (by rw [hw4];exact P3.out)
   clear x0 x1 x2 xf zx y0 y1 y2 hUU
   clear hw4 P3 ht2
   have x0:=(blk P4.out.x).1 0
   have x1:=(blk P4.out.x).1 1
   have x2:=(blk P4.out.x).1 2
   have xf:=(blk P4.out.x).2
   have zx:=q8 P4.out.x
   simp only [zE,zB,zD] at x0 x1 x2
   have hXX:=(P4.out.kept.cell (p:=⟨X,0,none⟩) zX (fun h=>h.elim xo xa)).trans HX.out
   have o0:=P4.out.row.cell (i:=d*3) (by omega)
   have o1:=P4.out.row.cell (i:=d*3+1) (by omega)
   have o2:=P4.out.row.cell (i:=d*3+2) (by omega)
   have of0:=P4.out.row.frozen (d*3)
   have of1:=P4.out.row.frozen (d*3+1)
   have of2:=P4.out.row.frozen (d*3+2)
   try simp only at x0 x1 x2
   go_wp2_with fail
   have hw:Yu turn ⟨ol,oh,false⟩ ⟨jl,jh,js⟩=⟨jl,jh,js⟩:=zQ (fun h=>by cases h.2)
   have hD:=PutW.done (d:=d) P4.out rfl
   rw [HP2.out,hw,HC2.out]
   exact bodyPost_end (results_none rfl _ _ _) rfl ⟨rfl,hD⟩


def OkS (l:Nat→Spn):Prop:=∀r,SpOk (l r)
theorem OkS.vl {l:Nat→Spn} (h:OkS l) {v:Bool×Int} (hv:I64 v.2):SpOk (vlS l v):=by
 unfold vlS
 split
 ·exact h _
 unfold I64 at hv
 exact .of (by omega) (by omega) (by omega)
theorem OkS.phs {l:Nat→Spn} (h:OkS l):∀(src:List (Bool×Int)) (s:Spn),(∀v∈src,I64 v.2)→SpOk s→SpOk (src.foldl (fun s v=>zR s (vlS l v)) s)
 | [],_,_,hs=>hs
 | v::src,_s,hv,hs=>h.phs src _ (fun x hx=>hv x (yc _ hx)) (hs.join (h.vl (hv v yg)))
theorem OkS.made {l:Nat→Spn} (h:OkS l) {n:Nat}:∀{x:ItS},ItOk n x→SpOk (x.made l)
 | .phi p,hx=>h.phs p.src _ (fun v hv=>(hx.2 v hv).1) .none
 | .ins _i,hx=>.mak (h.vl hx.2.2.2.1) (h.vl hx.2.2.2.2.1) hx.2.1
theorem OkS.it {turn n:Nat} {s:(Nat→Spn)×Bool} {x:ItS} (h:OkS s.1) (hx:ItOk n x):OkS (itS turn s x).1:=by
 unfold itS
 split
 ·exact h
 exact putSp_ok h (h.made hx)
theorem VJ {turn:Nat} {a b:Spn} (h:eqS (zR a b) a=true):newS turn a b=a:=by unfold newS;rw [zZ h]
structure StepS (n turn:Nat) (s s':(Nat→Spn)×Bool):Prop where
 ok:OkS s'.1
 flag:s'.2=false→s.2=false∧s'.1=s.1
 le:2<turn→JA n s'.1≤JA n s.1
 lt:2<turn→s.2=false→s'.2=true→JA n s'.1<JA n s.1
theorem YC {turn n:Nat} {s:(Nat→Spn)×Bool} {x:ItS} (h:OkS s.1) (hx:ItOk n x):StepS n turn s (itS turn s x):=by
 refine ⟨h.it hx,?_,?_,?_⟩
 ·unfold itS
  split
  ·exact fun e=>⟨e,rfl⟩
  intro e
  have e:(s.2 || Kz s.1 x.dst.toNat (x.made s.1))=false:=e
  rw [Bool.or_eq_false_iff] at e
  refine ⟨e.1,?_⟩
  have e2:eqS (zR (s.1 x.dst.toNat) (x.made s.1)) (s.1 x.dst.toNat)=true:=by simpa [Kz] using e.2
  show kG turn s.1 x.dst.toNat (x.made s.1)=s.1
  unfold kG
  rw [VJ e2,VD]
 ·intro h2
  unfold itS
  split
  ·exact zK _
  show JA n (kG turn s.1 x.dst.toNat (x.made s.1))≤_
  unfold kG
  refine (JB ?_ n).1
  cases e:eqS (zR (s.1 x.dst.toNat) (x.made s.1)) (s.1 x.dst.toNat)
  ·exact Nat.le_of_lt (Yv h2 (h _) (h.made hx) e)
  rw [VJ e];exact zK _
 intro h2 h3
 unfold itS
 split
 ·intro h4;rw [h3] at h4;cases h4
 next hd=>
 intro h4
 have h4:(s.2 || Kz s.1 x.dst.toNat (x.made s.1))=true:=h4
 rw [h3,Bool.false_or] at h4
 have e:eqS (zR (s.1 x.dst.toNat) (x.made s.1)) (s.1 x.dst.toNat)=false:=by simpa [Kz] using h4
 show JA n (kG turn s.1 x.dst.toNat (x.made s.1))<_
 unfold kG
 have hr:=Yv h2 (h x.dst.toNat) (h.made hx) e
 exact (JB (Nat.le_of_lt hr) n).2 (by have:=hx.dst;omega) hr
theorem StepS.trans {n turn:Nat} {a b c:(Nat→Spn)×Bool} (h:StepS n turn a b) (g:StepS n turn b c):StepS n turn a c:=
 ⟨g.ok,fun e=>by
  obtain ⟨e1,e2⟩:=g.flag e
  obtain ⟨e3,e4⟩:=h.flag e1
  exact ⟨e3,e2.trans e4⟩,fun t=>yv (g.le t) (h.le t),fun t ha hc=>by
  cases hb:b.2
  ·exact xB (g.lt t hb hc) (h.le t)
  exact Nat.lt_of_le_of_lt (g.le t) (h.lt t ha hb)⟩
theorem Xl {turn n:Nat}:∀(L:List ItS) {s:(Nat→Spn)×Bool},OkS s.1→(∀x∈L,ItOk n x)→StepS n turn s (L.foldl (itS turn) s)
 | [],_,h,_=>⟨h,fun e=>⟨e,rfl⟩,fun _=>zK _,fun _ a b=>by rw [List.foldl_nil,a] at b;cases b⟩
 | x::L,s,h,hL=>by
  have h1:=YC (turn:=turn) h (hL x yg)
  exact h1.trans (Xl L h1.ok fun y hy=>hL y (yc _ hy))

def KJ (f:FunL):Prop:=∀x∈itsF f,ItOk f.regs.toNat x
theorem kZ {f:FunL} (hf:KJ f) (turn:Nat) {l:Nat→Spn} (h:OkS l):StepS f.regs.toNat turn (l,false) (KA f turn l):=Xl (itsF f) h hf
theorem ms_fall {f:FunL} (hf:KJ f) {t:Nat} {l:Nat→Spn} (h:OkS l) (hc:(KA f t l).2=true):msS f.regs.toNat (t+1) (KA f t l).1<msS f.regs.toNat t l:=by
 have hs:=kZ hf t h
 unfold msS
 by_cases h2:2<t
 ·have:=hs.lt h2 rfl hc
  have e1:3 - (t+1)=0:=by omega
  have e2:3 - t=0:=by omega
  rw [e1,e2]
  have this:JA f.regs.toNat (KA f t l).1<JA f.regs.toNat l:=this
  omega
 have h3:=rksS_le f.regs.toNat (KA f t l).1
 obtain ⟨k,hk⟩:∃k,3 - t=k+1:=⟨2 - t,by omega⟩
 have e1:3 - (t+1)=k:=by omega
 rw [hk,e1,Nat.add_mul]
 omega
theorem OkS.init (f:FunL):OkS (Q6 f):=fun r=>by
 unfold Q6
 split
 ·exact .all
 exact .none
structure LeftS (f:FunL) (t:Nat) (l:Nat→Spn) (k:Nat):Prop where
 ok:OkS l
 fuel:msS f.regs.toNat t l<k
 same:spnN f k t l=qN f
theorem LeftS.start (f:FunL):LeftS f 0 (Q6 f) (msS f.regs.toNat 0 (Q6 f)+1):=⟨.init f,by omega,rfl⟩
theorem LeftS.next {f:FunL} (hf:KJ f) {t:Nat} {l:Nat→Spn} {k:Nat} (h:LeftS f t l (k+1)) (hc:(KA f t l).2=true):LeftS f (t+1) (KA f t l).1 k:=
 ⟨(kZ hf t h.ok).ok,by have:=ms_fall hf h.ok hc;have:=h.fuel;omega,by
  have e:=h.same
  unfold spnN at e
  rw [zZ hc] at e
  exact e⟩
theorem LeftS.last {f:FunL} (hf:KJ f) {t:Nat} {l:Nat→Spn} {k:Nat} (h:LeftS f t l (k+1)) (hc:(KA f t l).2=false):l=qN f:=by
 have e:=h.same
 unfold spnN at e
 rw [zQ (by simp [hc])] at e
 rw [←e]
 exact ((kZ hf t h.ok).flag hc).2.symm

theorem VK {turn n:Nat}:∀(L:List ItS) {s:(Nat→Spn)×Bool},OkS s.1→(∀x∈L,ItOk n x)→(L.foldl (itS turn) s).2=false→∀x∈L,0≤x.dst→zR (s.1 x.dst.toNat) (x.made s.1)=s.1 x.dst.toNat
 | [],_,_,_,_,x,hx,_=>by cases hx
 | y::L,s,h,hL,hc,x,hx,hd=>by
  have h1:=YC (turn:=turn) h (hL y yg)
  have h2:=Xl (turn:=turn) L h1.ok (fun z hz=>hL z (yc _ hz))
  obtain ⟨c1,_⟩:=h2.flag hc
  obtain ⟨_,c3⟩:=h1.flag c1
  rcases yC.1 hx with e|hx
  ·subst e
   unfold itS at c1
   rw [zQ (by omega)] at c1
   have c1:(s.2 || Kz s.1 x.dst.toNat (x.made s.1))=false:=c1
   rw [Bool.or_eq_false_iff] at c1
   exact eqS_iff.1 (by simpa [Kz] using c1.2)
  have:=VK L h1.ok (fun z hz=>hL z (yc _ hz)) hc x hx hd
  rw [c3] at this
  exact this
theorem VL {f:FunL} (hf:KJ f):∀(k t:Nat) (l:Nat→Spn),OkS l→msS f.regs.toNat t l<k→OkS (spnN f k t l)∧∃t',(KA f t' (spnN f k t l)).2=false
 | 0,_,_,_,h=>by omega
 | k+1,t,l,h,hm=>by
  unfold spnN
  cases hc:(KA f t l).2
  ·rw [zQ (by simp)]
   have hs:=kZ hf t h
   refine ⟨hs.ok,t,?_⟩
   rw [(hs.flag hc).2]
   exact hc
  rw [zZ rfl]
  exact VL hf k (t+1) _ (kZ hf t h).ok (by have:=ms_fall hf h hc;omega)
theorem spnF_calm {f:FunL} (hf:KJ f):OkS (qN f)∧∀x∈itsF f,0≤x.dst→zR (qN f x.dst.toNat) (x.made (qN f))=qN f x.dst.toNat:=by
 obtain ⟨h1,t,h2⟩:=VL hf (msS f.regs.toNat 0 (Q6 f)+1) 0 (Q6 f) (.init f) (by omega)
 exact ⟨h1,VK (itsF f) (s:=(qN f,false)) h1 hf h2⟩


theorem YD {f:FunL} (hS:FunR' f) {w:World} {fp:Option Addr} (hF:SliceAt w 6 (BlkR w) fp f.blocks):KJ f:=fun x hx=>by
 have hp0:=hS.par
 unfold itsF at hx
 obtain ⟨b,hb,hx⟩:=yU.1 hx
 obtain ⟨k,hk,rfl⟩:=yX hb
 obtain ⟨bb,bo,q1,c1,q2,c2,q3,c3,_,_,_,_,_,_,_,_,_,_,_,_,hp,hi,_⟩:=ke hF (zI _ _) hk
 rcases yH.1 hx with h|h
 ·obtain ⟨p,hp',rfl⟩:=yD.1 h
  obtain ⟨j,hj,rfl⟩:=yX hp'
  obtain ⟨_,_,q,c,_,_,_,_,_,hs⟩:=V1 hp (zI _ _) hj
  have haL:=hS.phi k hk _ (zP hj)
  have hd:=haL.dst
  refine ⟨by omega,fun v hv=>?_⟩
  have hsv:=haL.src _ hv
  obtain ⟨m,hm,rfl⟩:=yX hv
  obtain ⟨_,_,_,_,_,h64⟩:=KZ hs (zI _ _) hm
  exact ⟨h64,fun hr=>by have:=hsv hr;omega⟩
 obtain ⟨i,hi',rfl⟩:=yD.1 h
 obtain ⟨j,hj,rfl⟩:=yX hi'
 obtain ⟨_,_,_,_,_,_,_,_,_,_,_,_,_,_,_,h3,h4,_⟩:=V2 hi (zI _ _) hj
 obtain ⟨g1,g2,g3,ga,gb,_⟩:=hS.ins k hk _ (zP hj)
 exact ⟨by omega,g1,g2,h3,h4,fun hr=>by have:=ga hr;omega,fun hr=>by have:=gb hr;omega⟩

structure SpW (w:World) (fv:Array Value) (R X O T A:Nat) (l:Nat→Spn) (turn:Nat) (ag:Bool) (W:World):Prop where
 below:Below w.heap.size w W
 fb:W.heap[w.heap.size]?=some (.cells fv 36 (0,0))
 x:W.heap[X]?=some (.cells #[.slice (some ⟨O,0,none⟩) R R] 49 (0,0))
 o:W.rowIs O 59 (R*3) (spF l)
 t:W.heap[T]?=some (.cells #[.int .i64 turn] 3 (0,0))
 a:W.heap[A]?=some (.cells #[.bool ag] 4 (0,0))
 hX:w.heap.size<X
 hO:w.heap.size<O
 hT:w.heap.size<T
 hA:w.heap.size<A
 xo:X≠O
 xa:X≠A
 oa:O≠A
 «to»:T≠O
 ta:T≠A
theorem SpW.next {w:World} {fv:Array Value} {R X O T A:Nat} {l:Nat→Spn} {turn:Nat} {ag:Bool} {W W':World} (h:SpW w fv R X O T A l turn ag W) (hb:Below W.heap.size W W'):SpW w fv R X O T A l turn ag W':=
 { h with
  below:=h.below.trans (hb.mono h.below.size)
  fb:=(hb.block _ (q8 h.fb)).trans h.fb
  x:=(hb.block _ (q8 h.x)).trans h.x
  o:=h.o.of_block (hb.block _ h.o.lt)
  t:=(hb.block _ (q8 h.t)).trans h.t
  a:=(hb.block _ (q8 h.a)).trans h.a }
theorem SpW.other {w:World} {fv:Array Value} {R X O T A:Nat} {l:Nat→Spn} {turn:Nat} {ag:Bool} {W W':World} {S:Blks} (h:SpW w fv R X O T A l turn ag W) (hk:Kept S W W') (hS:∀i,S i→w.heap.size<i∧i≠X∧i≠O∧i≠T∧i≠A):SpW w fv R X O T A l turn ag W':=
 { h with
  below:=h.below.trans (hk.below h.below.size fun i hi=>Nat.le_of_lt (hS i hi).1)
  fb:=(hk.block _ (q8 h.fb) (fun e=>by have:=(hS _ e).1;omega)).trans h.fb
  x:=(hk.block _ (q8 h.x) (fun e=>(hS _ e).2.1 rfl)).trans h.x
  o:=h.o.of_block (hk.block _ h.o.lt (fun e=>(hS _ e).2.2.1 rfl))
  t:=(hk.block _ (q8 h.t) (fun e=>(hS _ e).2.2.2.1 rfl)).trans h.t
  a:=(hk.block _ (q8 h.a) (fun e=>(hS _ e).2.2.2.2 rfl)).trans h.a }
theorem SpW.put {w:World} {fv:Array Value} {R X O T A:Nat} {l:Nat→Spn} {turn:Nat} {ag:Bool} {W W':World} (h:SpW w fv R X O T A l turn ag W) {l':Nat→Spn} {ag':Bool}
  (hr:W'.rowIs O 59 (R*3) (spF l')) (ha:W'.heap[A]?=some (.cells #[.bool ag'] 4 (0,0))) (hk:Kept (fun k=>k=O∨k=A) W W'):SpW w fv R X O T A l' turn ag' W':=
 { h with
  below:=h.below.trans (hk.below h.below.size fun i hi=>by rcases hi with rfl|rfl;exact Nat.le_of_lt h.hO;exact Nat.le_of_lt h.hA)
  fb:=(hk.block _ (q8 h.fb) (fun e=>by have:=h.hO;have:=h.hA;omega)).trans h.fb
  x:=(hk.block _ (q8 h.x) (fun e=>e.elim h.xo h.xa)).trans h.x
  o:=hr
  t:=(hk.block _ (q8 h.t) (fun e=>e.elim h.to h.ta)).trans h.t
  a:=ha }
theorem put_at {w:World} {fv:Array Value} {R X O T A:Nat} {l:Nat→Spn} {turn:Nat} {ag:Bool} {W:World} (h:SpW w fv R X O T A l turn ag W) (hR:R≤100) (ht:turn<1000000000) {d:Nat} (hd:d<R) (s:Spn) :
  Calls Tryz.prog 37 #[.int .i64 d,.agg #[.int .i64 s.lo,.int .i64 s.hi,.bool s.has],.pointer (some ⟨X,0,none⟩),.pointer (some ⟨A,0,none⟩),.pointer (some ⟨T,0,none⟩)] W fun e W'=>e = .returned (.tuple #[])∧SpW w fv R X O T A (kG turn l d s) turn (ag || Kz l d s) W'∧Kept (fun k=>k=O∨k=A) W W':=
 (put_any X O A T R d turn l s ag W (by omega) hd ht ((blk h.x).1 0) h.o h.a ((blk h.t).1 0) h.xo h.xa h.oa h.to h.ta).mono fun _ _ ⟨he,hr,ha,hk⟩=>⟨he,h.put hr ha hk,hk⟩
theorem val_at {w:World} {fv:Array Value} {R X O T A:Nat} {l:Nat→Spn} {turn:Nat} {ag:Bool} {W:World} (h:SpW w fv R X O T A l turn ag W) (hR:R≤100) {r:Bool} {m:Int} (hv:r=true→0≤m∧m<R) :
  Calls Tryz.prog 36 #[.agg #[.bool r,.int .i64 m],.pointer (some ⟨X,0,none⟩)] W fun e W'=>e = .returned (.agg #[.int .i64 (vlS l (r,m)).lo,.int .i64 (vlS l (r,m)).hi,.bool (vlS l (r,m)).has])∧Below W.heap.size W W':=
 spVal_any X O R l r m W (by omega) ((blk h.x).1 0) h.o hv
theorem spJoin_at (a b:Spn) (w:World) :
  Calls Tryz.prog 38 #[.agg #[.int .i64 a.lo,.int .i64 a.hi,.bool a.has],.agg #[.int .i64 b.lo,.int .i64 b.hi,.bool b.has]] w fun e w'=>e = .returned (.agg #[.int .i64 (zR a b).lo,.int .i64 (zR a b).hi,.bool (zR a b).has])∧Below w.heap.size w w':=kI a b w
theorem makes_at (op:Int) (x y:Spn) (w:World) (hop:1≤op∧op≤22) (hx:SpOk x) (hy:SpOk y) (hA:AllW w) :
  Calls Tryz.prog 39 #[.int .i64 op,.agg #[.int .i64 x.lo,.int .i64 x.hi,.bool x.has],.agg #[.int .i64 y.lo,.int .i64 y.hi,.bool y.has]] w fun e w'=>e = .returned (.agg #[.int .i64 (Xu op x y).lo,.int .i64 (Xu op x y).hi,.bool (Xu op x y).has])∧Below w.heap.size w w':=JJ op x y w hop hx hy hA
end Go.Proofs.YtbnnhmcloecijaaGreatDoor
