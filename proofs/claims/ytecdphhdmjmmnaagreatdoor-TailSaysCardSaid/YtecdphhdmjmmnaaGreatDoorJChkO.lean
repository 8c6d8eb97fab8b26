/-
  The contract of the checker's body.
-/
import Derived.Deep.OwnRows
import Derived.OwnWalk
import Derived.Maps.AppendAt
import Derived.Test.YtecdphhdmjmmnaaGreatDoorJChkJ
set_option maxRecDepth 100000
set_option maxHeartbeats 16000000
namespace Go.Proofs.YtecdphhdmjmmnaaGreatDoor
open Go.RowKit

theorem q7 {p:Prop} (h:p):Hid p:=h

theorem q9 {w:World} {b:Nat} {o:Obj} (h:w.heap[b]?=some o):b<w.heap.size:=by
 rcases Nat.lt_or_ge b w.heap.size with g|g
 ·exact g
 rw[Array.getElem?_eq_none g]at h;cases h

theorem SliceAt.mono {α:Type} {w w':World} {size:Nat} {R R':List Value→α→Prop} {p:Option Addr} {xs:List α} (h:SliceAt w size R p xs) (hb:Below w.heap.size w w') (_hs:0<size) (hR:∀cs x,R cs x→R' cs x):SliceAt w' size R' p xs:=by
 rcases h with h|⟨b,o,hp,h⟩
 ·exact .inl h
 refine .inr ⟨b,o,hp,fun i hi=>?_⟩
 obtain⟨cs,hl,hc,hr⟩:=h i hi
 refine⟨cs,hl,fun j hj=>?_,hR _ _ hr⟩
 have hc0:=hc j hj
 rw[List.getElem?_eq_getElem (by omega)]at hc0
 rw[hb.cell (p:=⟨b,o+i*size+j,none⟩) (q8 hc0),hc j hj]
theorem SlF.mono {α:Type} {w w':World} {size bytes:Nat} {R R':List Value→α→Prop} {v:Value} {xs:List α} (h:SlF w size bytes R v xs) (hb:Below w.heap.size w w') (hs:0<size) (hR:∀cs x,R cs x→R' cs x):SlF w' size bytes R' v xs:=by
 obtain⟨p,c,h1,h2,h3,h4,h5⟩:=h
 exact⟨p,c,h1,h2,h3,h4,h5.mono hb hs hR⟩
theorem InsR.below {w w':World} {cs:List Value} {x:InsL} (h:InsR w cs x) (hb:Below w.heap.size w w'):InsR w' cs x:=by
 obtain⟨v,h0,h1,h2,h3,h4,h5,h6⟩:=h
 exact⟨v,h0,h1,h2,h3,h4,h5,h6.mono hb (by omega) fun _ _ h=>h⟩
theorem PhiR.below {w w':World} {cs:List Value} {x:PhiL} (h:PhiR w cs x) (hb:Below w.heap.size w w'):PhiR w' cs x:=by
 obtain⟨v,h0,h1,h6⟩:=h
 exact⟨v,h0,h1,h6.mono hb (by omega) fun _ _ h=>h⟩
theorem BlkR.below {w w':World} {cs:List Value} {x:BlkL} (h:BlkR w cs x) (hb:Below w.heap.size w w'):BlkR w' cs x:=by
 obtain⟨v1,v2,v3,h0,h1,h2,h3,h4,h5⟩:=h
 exact⟨v1,v2,v3,h0,h1,h2,h3.mono hb (by omega) fun _ _ h=>h.below hb,h4.mono hb (by omega) fun _ _ h=>h.below hb,h5.mono hb (by omega) fun _ _ h=>h⟩
theorem FunR.below {w w':World} {cs:List Value} {x:FunL} (h:FunR w cs x) (hb:Below w.heap.size w w'):FunR w' cs x:=by
 obtain⟨v,h0,h1,h2,h3,h4⟩:=h
 exact⟨v,h0,h1,h2,h3,h4.mono hb (by omega) fun _ _ h=>h.below hb⟩
theorem GloR.below {w w':World} {cs:List Value} {x:GloL} (h:GloR w cs x) (hb:Below w.heap.size w w'):GloR w' cs x:=by
 obtain⟨v,h0,h1,h2,h3⟩:=h
 exact⟨v,h0,h1,h2,h3.mono hb (by omega) fun _ _ h=>h⟩

theorem zS {w w':World} {p:Option Addr} {xs:List GloL} (h:SliceAt w 3 (GloR w) p xs) (hb:Below w.heap.size w w'):SliceAt w' 3 (GloR w') p xs:=h.mono hb (by omega) fun _ _ h=>h.below hb
theorem xI {w w':World} {p:Option Addr} {xs:List FunL} (h:SliceAt w 4 (FunR w) p xs) (hb:Below w.heap.size w w'):SliceAt w' 4 (FunR w') p xs:=h.mono hb (by omega) fun _ _ h=>h.below hb
theorem zF {w w':World} {p:Option Addr} {xs:List BlkL} (h:SliceAt w 6 (BlkR w) p xs) (hb:Below w.heap.size w w'):SliceAt w' 6 (BlkR w') p xs:=h.mono hb (by omega) fun _ _ h=>h.below hb
theorem SlF.out {α:Type} {w:World} {size bytes:Nat} {R:List Value→α→Prop} {v:Value} {xs:List α} (h:SlF w size bytes R v xs):∃p c,v = .slice p xs.length c∧xs.length*bytes≤140737488351232∧SliceAt w size R p xs:=by
 obtain⟨p,c,h1,_,_,h4,h5⟩:=h
 exact⟨p,c,h1,by unfold reachBytes at h4;exact h4,h5⟩

theorem Qn {w w':World} {p:Option Addr} {xs:List Int} (h:SliceAt w 1 xC p xs) (hb:Below w.heap.size w w') {i:Nat} (hi:i<xs.length) :
  ∃b o,p=some ⟨b,o,none⟩∧w'.cell? ⟨b,o+i,none⟩=some (.int .i64 xs[i])∧I64 xs[i]:=by
 rcases h with rfl|⟨b,o,hp,h⟩
 ·simp at hi
 obtain⟨cs,_,hc,⟨rfl,hw⟩⟩:=h i hi
 have h0:=hc 0 (by omega)
 simp only[Nat.mul_one,Nat.add_zero,List.getElem?_cons_zero]at h0
 exact⟨b,o,hp,(hb.cell (p:=⟨b,o+i,none⟩) (q8 h0)).trans h0,hw⟩
theorem Xk {w w':World} {p:Option Addr} {xs:List (Bool×Int)} (h:SliceAt w 2 vO p xs) (hb:Below w.heap.size w w') {i:Nat} (hi:i<xs.length) :
  ∃b o,p=some ⟨b,o,none⟩∧w'.cell? ⟨b,o+i*2,none⟩=some (.bool xs[i].1)∧w'.cell? ⟨b,o+i*2+1,none⟩=some (.int .i64 xs[i].2)∧I64 xs[i].2:=by
 rcases h with rfl|⟨b,o,hp,h⟩
 ·simp at hi
 obtain⟨cs,_,hc,⟨rfl,hw⟩⟩:=h i hi
 have h0:w.cell? ⟨b,o+i*2,none⟩=some (.bool xs[i].1):=hc 0 (by omega)
 have h1:w.cell? ⟨b,o+i*2+1,none⟩=some (.int .i64 xs[i].2):=hc 1 (by omega)
 have hl:=q8 h0
 exact⟨b,o,hp,(hb.cell (p:=⟨b,_,none⟩) hl).trans h0,(hb.cell (p:=⟨b,_,none⟩) hl).trans h1,hw⟩
theorem phiGet {w w':World} {p:Option Addr} {xs:List PhiL} (h:SliceAt w 2 (PhiR w) p xs) (hb:Below w.heap.size w w') {i:Nat} (hi:i<xs.length) :
  ∃b o q c,p=some ⟨b,o,none⟩∧w'.cell? ⟨b,o+i*2,none⟩=some (.int .i64 xs[i].dst)∧w'.cell? ⟨b,o+i*2+1,none⟩=some (.slice q xs[i].src.length c)∧I64 xs[i].dst∧xs[i].src.length*16≤140737488351232∧SliceAt w' 2 vO q xs[i].src:=by
 rcases h with rfl|⟨b,o,hp,h⟩
 ·simp at hi
 obtain⟨cs,_,hc,hr⟩:=h i hi
 obtain⟨v,rfl,hw,hs⟩:=hr
 obtain⟨q,c,rfl,hl2,hs2⟩:=hs.out
 have h0:w.cell? ⟨b,o+i*2,none⟩=some (.int .i64 xs[i].dst):=hc 0 (by omega)
 have h1:w.cell? ⟨b,o+i*2+1,none⟩=some (.slice q xs[i].src.length c):=hc 1 (by omega)
 have hl:=q8 h0
 exact⟨b,o,q,c,hp,(hb.cell (p:=⟨b,_,none⟩) hl).trans h0,(hb.cell (p:=⟨b,_,none⟩) hl).trans h1,hw,hl2,hs2.mono hb (by omega) fun _ _ h=>h⟩
theorem Q1 {w w':World} {p:Option Addr} {xs:List InsL} (h:SliceAt w 8 (InsR w) p xs) (hb:Below w.heap.size w w') {i:Nat} (hi:i<xs.length) :
  ∃b o q c,p=some ⟨b,o,none⟩∧w'.cell? ⟨b,o+i*8,none⟩=some (.int .i64 xs[i].op)∧w'.cell? ⟨b,o+i*8+1,none⟩=some (.int .i64 xs[i].dst)∧w'.cell? ⟨b,o+i*8+2,none⟩=some (.bool xs[i].ar)∧w'.cell? ⟨b,o+i*8+3,none⟩=some (.int .i64 xs[i].an)∧w'.cell? ⟨b,o+i*8+4,none⟩=some (.bool xs[i].br)∧w'.cell? ⟨b,o+i*8+5,none⟩=some (.int .i64 xs[i].bn)∧w'.cell? ⟨b,o+i*8+6,none⟩=some (.int .i64 xs[i].fn)∧w'.cell? ⟨b,o+i*8+7,none⟩=some (.slice q xs[i].args.length c)∧I64 xs[i].op∧I64 xs[i].dst∧I64 xs[i].an∧I64 xs[i].bn∧I64 xs[i].fn∧xs[i].args.length*16≤140737488351232∧SliceAt w' 2 vO q xs[i].args:=by
 rcases h with rfl|⟨b,o,hp,h⟩
 ·simp at hi
 obtain⟨cs,_,hc,hr⟩:=h i hi
 obtain⟨v,rfl,w1,w2,w3,w4,w5,hs⟩:=hr
 obtain⟨q,c,rfl,hl2,hs2⟩:=hs.out
 have h0:w.cell? ⟨b,o+i*8,none⟩=some (.int .i64 xs[i].op):=hc 0 (by omega)
 have hl:=q8 h0
 have g:∀j,j<8→w'.cell? ⟨b,o+i*8+j,none⟩=w.cell? ⟨b,o+i*8+j,none⟩:=fun j _=>hb.cell (p:=⟨b,_,none⟩) hl
 exact⟨b,o,q,c,hp,(g 0 (by omega)).trans h0,(g 1 (by omega)).trans (hc 1 (by omega)),(g 2 (by omega)).trans (hc 2 (by omega)),(g 3 (by omega)).trans (hc 3 (by omega)),(g 4 (by omega)).trans (hc 4 (by omega)),(g 5 (by omega)).trans (hc 5 (by omega)),(g 6 (by omega)).trans (hc 6 (by omega)),(g 7 (by omega)).trans (hc 7 (by omega)),w1,w2,w3,w4,w5,hl2,hs2.mono hb (by omega) fun _ _ h=>h⟩
theorem zE {w w':World} {p:Option Addr} {xs:List BlkL} (h:SliceAt w 6 (BlkR w) p xs) (hb:Below w.heap.size w w') {i:Nat} (hi:i<xs.length) :
  ∃b o q1 c1 q2 c2 q3 c3,p=some ⟨b,o,none⟩∧w'.cell? ⟨b,o+i*6,none⟩=some (.slice q1 xs[i].phis.length c1)∧w'.cell? ⟨b,o+i*6+1,none⟩=some (.slice q2 xs[i].list.length c2)∧w'.cell? ⟨b,o+i*6+2,none⟩=some (.int .i64 xs[i].fin.kind)∧w'.cell? ⟨b,o+i*6+3,none⟩=some (.bool xs[i].fin.onr)∧w'.cell? ⟨b,o+i*6+4,none⟩=some (.int .i64 xs[i].fin.onn)∧w'.cell? ⟨b,o+i*6+5,none⟩=some (.slice q3 xs[i].fin.to.length c3)∧I64 xs[i].fin.kind∧I64 xs[i].fin.onn∧
   xs[i].phis.length*32≤140737488351232∧xs[i].list.length*80≤140737488351232∧xs[i].fin.to.length*8≤140737488351232∧SliceAt w' 2 (PhiR w') q1 xs[i].phis∧SliceAt w' 8 (InsR w') q2 xs[i].list∧SliceAt w' 1 xC q3 xs[i].fin.to:=by
 rcases h with rfl|⟨b,o,hp,h⟩
 ·simp at hi
 obtain⟨cs,_,hc,hr⟩:=h i hi
 obtain⟨v1,v2,v3,rfl,w1,w2,hs1,hs2,hs3⟩:=hr
 obtain⟨q1,c1,rfl,l1,t1⟩:=hs1.out
 obtain⟨q2,c2,rfl,l2,t2⟩:=hs2.out
 obtain⟨q3,c3,rfl,l3,t3⟩:=hs3.out
 have h0:w.cell? ⟨b,o+i*6,none⟩=some (.slice q1 xs[i].phis.length c1):=hc 0 (by omega)
 have hl:=q8 h0
 have g:∀j,j<6→w'.cell? ⟨b,o+i*6+j,none⟩=w.cell? ⟨b,o+i*6+j,none⟩:=fun j _=>hb.cell (p:=⟨b,_,none⟩) hl
 exact⟨b,o,q1,c1,q2,c2,q3,c3,hp,(g 0 (by omega)).trans h0,(g 1 (by omega)).trans (hc 1 (by omega)),(g 2 (by omega)).trans (hc 2 (by omega)),(g 3 (by omega)).trans (hc 3 (by omega)),(g 4 (by omega)).trans (hc 4 (by omega)),(g 5 (by omega)).trans (hc 5 (by omega)),w1,w2,l1,l2,l3,t1.mono hb (by omega) fun _ _ h=>h.below hb,t2.mono hb (by omega) fun _ _ h=>h.below hb,t3.mono hb (by omega) fun _ _ h=>h⟩
theorem kd {w w':World} {p:Option Addr} {xs:List FunL} (h:SliceAt w 4 (FunR w) p xs) (hb:Below w.heap.size w w') {i:Nat} (hi:i<xs.length) :
  ∃b o q c,p=some ⟨b,o,none⟩∧w'.cell? ⟨b,o+i*4,none⟩=some (.string xs[i].name)∧w'.cell? ⟨b,o+i*4+1,none⟩=some (.int .i64 xs[i].params)∧w'.cell? ⟨b,o+i*4+2,none⟩=some (.int .i64 xs[i].regs)∧w'.cell? ⟨b,o+i*4+3,none⟩=some (.slice q xs[i].blocks.length c)∧
   xs[i].name.size≤140737488351232∧I64 xs[i].params∧I64 xs[i].regs∧xs[i].blocks.length*96≤140737488351232∧SliceAt w' 6 (BlkR w') q xs[i].blocks:=by
 rcases h with rfl|⟨b,o,hp,h⟩
 ·simp at hi
 obtain⟨cs,_,hc,hr⟩:=h i hi
 obtain⟨v,rfl,w0,w1,w2,hs⟩:=hr
 obtain⟨q,c,rfl,hl2,hs2⟩:=hs.out
 have h0:w.cell? ⟨b,o+i*4,none⟩=some (.string xs[i].name):=hc 0 (by omega)
 have hl:=q8 h0
 have g:∀j,j<4→w'.cell? ⟨b,o+i*4+j,none⟩=w.cell? ⟨b,o+i*4+j,none⟩:=fun j _=>hb.cell (p:=⟨b,_,none⟩) hl
 exact⟨b,o,q,c,hp,(g 0 (by omega)).trans h0,(g 1 (by omega)).trans (hc 1 (by omega)),(g 2 (by omega)).trans (hc 2 (by omega)),(g 3 (by omega)).trans (hc 3 (by omega)),by unfold reachBytes at w0;omega,w1,w2,hl2,hs2.mono hb (by omega) fun _ _ h=>h.below hb⟩
theorem gloGet {w w':World} {p:Option Addr} {xs:List GloL} (h:SliceAt w 3 (GloR w) p xs) (hb:Below w.heap.size w w') {i:Nat} (hi:i<xs.length) :
  ∃b o q c,p=some ⟨b,o,none⟩∧w'.cell? ⟨b,o+i*3,none⟩=some (.string xs[i].name)∧w'.cell? ⟨b,o+i*3+1,none⟩=some (.int .i64 xs[i].size)∧w'.cell? ⟨b,o+i*3+2,none⟩=some (.slice q xs[i].init.length c)∧
   xs[i].name.size≤140737488351232∧I64 xs[i].size∧xs[i].init.length*8≤140737488351232∧SliceAt w' 1 xC q xs[i].init:=by
 rcases h with rfl|⟨b,o,hp,h⟩
 ·simp at hi
 obtain⟨cs,_,hc,hr⟩:=h i hi
 obtain⟨v,rfl,w0,w1,hs⟩:=hr
 obtain⟨q,c,rfl,hl2,hs2⟩:=hs.out
 have h0:w.cell? ⟨b,o+i*3,none⟩=some (.string xs[i].name):=hc 0 (by omega)
 have hl:=q8 h0
 have g:∀j,j<3→w'.cell? ⟨b,o+i*3+j,none⟩=w.cell? ⟨b,o+i*3+j,none⟩:=fun j _=>hb.cell (p:=⟨b,_,none⟩) hl
 exact⟨b,o,q,c,hp,(g 0 (by omega)).trans h0,(g 1 (by omega)).trans (hc 1 (by omega)),(g 2 (by omega)).trans (hc 2 (by omega)),by unfold reachBytes at w0;omega,w1,hl2,hs2.mono hb (by omega) fun _ _ h=>h⟩



def qJ (T:List (List Int)):Nat→List (Nat×Nat)
 | 0=>[]
 | i+1=>qJ T i++(T.getD i []).map fun t=>(t.toNat,i)
def qP (ps:List (Nat×Nat)) (t:Nat):List Nat:=(ps.filter (·.1 == t)).map (·.2)

theorem VJ (ps:List (Nat×Nat)) (t i:Nat):qP (ps++[(t,i)]) t=qP ps t++[i]:=by
 simp[qP,List.filter_append]
theorem Jl (ps:List (Nat×Nat)) {t u:Nat} (i:Nat) (h:u≠t):qP (ps++[(t,i)]) u=qP ps u:=by
 have h2:(t == u)=false:=by simp;omega
 simp[qP,List.filter_append,h2]
theorem Qa (ps:List (Nat×Nat)) (t:Nat):(qP ps t).length≤ps.length:=by
 unfold qP;rw[List.length_map];exact List.length_filter_le _ _
theorem ke (T:List (List Int)) (k n:Nat) (hk:k≤n) (h:∀i,i<n→(T.getD i []).length≤2):(qJ T k).length≤2*k:=by
 induction k with
 | zero=>simp[qJ]
 | succ k ih=>
  have:=ih (by omega)
  have:=h k (by omega)
  simp only[qJ,List.length_append,List.length_map]
  omega

structure Rows2 (w:World) (B T:Nat) (n:Nat) (ts ti:TypeId) (ps:List (Nat×Nat)) (f:Nat→Value):Prop where
 tab:w.rowIs T ts n f
 row:∀j,j<n→w.ownsRow B ti 1 (f j) (qP ps j).length ((qP ps j).map fun i:Nat=>.int .i64 (i:Int))
 two:∀j k,j<n→k<n→j≠k→(f j).ownBlock=none∨(f j).ownBlock≠(f k).ownBlock
 low:T<B

theorem Rows2.alloc {w:World} {B T n:Nat} {ts ti:TypeId} {ps:List (Nat×Nat)} {f:Nat→Value} (h:Rows2 w B T n ts ti ps f) (o:Obj):Rows2 (w.alloc o) B T n ts ti ps f:=
 ⟨h.tab.alloc o,fun j hj=>(h.row j hj).alloc o,h.two,h.low⟩
theorem Rows2.drew {w:World} {B T n:Nat} {ts ti:TypeId} {ps:List (Nat×Nat)} {f:Nat→Value} (h:Rows2 w B T n ts ti ps f):Rows2 w.drew B T n ts ti ps f:=
 ⟨h.tab.drew,fun j hj=>(h.row j hj).drew,h.two,h.low⟩

theorem Rows2.made (w:World) (n:Nat) (ts ti:TypeId):Rows2 (w.alloc (.cells (madeCells #[.slice none 0 0] n) ts)) (w.heap.size+1) w.heap.size n ts ti [] (fun _=>.slice none 0 0):=
 ⟨World.rowIs_made w _ n ts,fun j _=>World.ownsRow_nil _ _ _ _,fun _ _ _ _ _=>.inl rfl,by omega⟩

theorem Rows2.put {w w':World} {B T n:Nat} {ts ti:TypeId} {ps:List (Nat×Nat)} {f:Nat→Value} (h:Rows2 w B T n ts ti ps f) (hB:B≤w.heap.size) {t i:Nat} (ht:t<n) {v':Value}
  (hown:w'.ownsRow B ti 1 v' ((qP ps t).length+1) (((qP ps t).map fun i:Nat=>.int .i64 (i:Int))++[.int .i64 (i:Int)])) (hg:w.grownBy w' (f t).ownBlock)
  (hv:v'.ownBlock=(f t).ownBlock∨v'.ownBlock=some w.heap.size) :
  Rows2 (w'.setCell ⟨T,t,none⟩ v') B T n ts ti (ps++[(t,i)]) (fun j=>if j=t then v' else f j):=by
 have hlow:∀j,j<n→∀k,(f j).ownBlock=some k→B≤k∧k<w.heap.size:=fun j hj k hk=>(h.row j hj).lt k hk
 have hT:some T≠(f t).ownBlock:=fun e=>by have:=(hlow t ht T e.symm).1;have:=h.low;omega
 have hTw:T<w.heap.size:=by have:=h.low;omega
 have keep:∀(v:Value) (m:Nat) (xs:List Value),w'.ownsRow B ti 1 v m xs→(w'.setCell ⟨T,t,none⟩ v').ownsRow B ti 1 v m xs:=fun v m xs ho=>by
  refine ho.kept (row:=some T) ⟨rfl,rfl,rfl,by simp[World.setCell],fun k hk hne=>?_⟩ ?_
  ·exact Below.heap_setCell _ _ _ _ (fun e=>hne (by rw[e]))
  cases hb:v.ownBlock with
  | none=>exact .inl rfl
  | some k=>exact .inr (fun e=>by have h1:=(ho.lt k hb).1;have h2:=h.low;injection e with e;omega)
 refine⟨?_,fun j hj=>?_,fun j k hj hk hjk=>?_,h.low⟩
 ·exact(h.tab.of_block (hg.block T hTw hT)).set t v'
 ·by_cases hjt:j=t
  ·subst hjt
   simp only[if_true]
   rw[VJ,List.length_append,List.map_append]
   exact keep _ _ _ hown
  simp only[if_neg hjt]
  rw[Jl _ _ hjt]
  exact keep _ _ _ ((h.row j hj).kept hg (h.two j t hj ht hjt))
 show(if j=t then v' else f j).ownBlock=none∨(if j=t then v' else f j).ownBlock≠(if k=t then v' else f k).ownBlock
 by_cases hjt:j=t
 ·have hkt:k≠t:=fun e=>hjk (hjt.trans e.symm)
  rw[if_pos hjt,if_neg hkt]
  rcases hv with e|e
  ·rw[e];exact h.two t k ht hk (fun e=>hkt e.symm)
  refine .inr (fun g=>?_)
  have:=(hlow k hk _ (g.symm.trans e)).2
  omega
 rw[if_neg hjt]
 by_cases hkt:k=t
 ·rw[if_pos hkt]
  rcases hv with e|e
  ·rw[e];exact h.two j t hj ht hjt
  cases hb:(f j).ownBlock with
  | none=>exact .inl rfl
  | some q=>exact .inr (fun g=>by have:=(hlow j hj q hb).2;rw[e]at g;injection g with g;omega)
 rw[if_neg hkt];exact h.two j k hj hk hjk
theorem Rows2.atTab {w w':World} {B T n:Nat} {ts ti:TypeId} {ps:List (Nat×Nat)} {f:Nat→Value} (h:Rows2 w B T n ts ti ps f) {t:Nat} (ht:t<n) (hg:w.grownBy w' (f t).ownBlock):w'.cell? ⟨T,t,none⟩=some (f t)∧w'.frozen? ⟨T,t,none⟩=false:=by
 have hT:some T≠(f t).ownBlock:=fun e=>by have:=((h.row t ht).lt T e.symm).1;have:=h.low;omega
 have hb:=hg.block T h.tab.lt hT
 exact⟨(World.cell?_of_block (a:=⟨T,t,none⟩) hb).trans (h.tab.cell ht),(World.frozen?_of_block (a:=⟨T,t,none⟩) hb).trans (h.tab.frozen t)⟩

theorem Xl:Tryz.prog.underlying 44=some (.slice 3):=by kernel_rfl
theorem Xm:Tryz.prog.underlying 59=some (.slice 44):=by kernel_rfl
theorem Jm:(Tryz.prog.info? 3).map (fun i=>(i.zero,i.size,i.bytes))=some (some (.int .i64 0),1,8):=by kernel_rfl
theorem V0:(Tryz.prog.info? 44).map (fun i=>(i.zero,i.size,i.bytes))=some (some (.slice none 0 0),1,24):=by kernel_rfl

def Jn (w:World) (b o i:Nat) (to:List Int):Prop:=
 ∃p1 l1 c1 p2 l2 c2 k r m p c,w.cell? ⟨b,o+i*6,none⟩=some (.slice p1 l1 c1)∧w.cell? ⟨b,o+i*6+1,none⟩=some (.slice p2 l2 c2)∧w.cell? ⟨b,o+i*6+2,none⟩=some (.int .i64 k)∧
  w.cell? ⟨b,o+i*6+3,none⟩=some (.bool r)∧w.cell? ⟨b,o+i*6+4,none⟩=some (.int .i64 m)∧w.cell? ⟨b,o+i*6+5,none⟩=some (.slice p to.length c)∧SliceAt w 1 xC p to

theorem ahead_any (nm:ByteArray) (params regs:Int) (bb bo bc n:Nat) (TS:List (List Int)) (w:World) (hn:n≤40)
  (hB:∀i,i<n→Jn w bb bo i (TS.getD i []))
  (hE:∀i,i<n→(TS.getD i []).length≤2∧∀t∈TS.getD i [],1≤t∧t<n) :
  Calls Tryz.prog 55 #[.agg #[.string nm,.int .i64 params,.int .i64 regs,.slice (some ⟨bb,bo,none⟩) n bc]] w fun e w'=>
   (∃f:Nat→Value,e = .returned (.slice (some ⟨w.heap.size+1,0,none⟩) n n)∧Rows2 w' (w.heap.size+1+1) (w.heap.size+1) n 44 3 (qJ TS n) f)∧Below w.heap.size w w':=by
 obtain⟨i1,k1,k2,k3,k4⟩:=info_parts Jm
 obtain⟨i2,l1,l2,l3,l4⟩:=info_parts V0
 have hmk:=run_make_row 59 44 i2 (.slice none 0 0) Xm l1 l2 l3 rfl .i64 .i64 n (by rw[l4];omega) (by omega)
 have HB:Hid (∀i,i<n→Jn w bb bo i (TS.getD i [])):=hB
 have HE:Hid (∀i,i<n→(TS.getD i []).length≤2∧∀t∈TS.getD i [],1≤t∧t<n):=hE
 clear hB hE
 go_enter Tryz.func55,Tryz.ntmps55
 go_wp2
 go_loopw [15] (fun i wr=>∃k:Nat,k≤n∧i = .int .i64 k∧(∃f,Rows2 wr (w.heap.size+1+1) (w.heap.size+1) n 44 3 (qJ TS k) f)∧Below w.heap.size w wr) (fun i _=>n - (intOf i).toNat)
 case atStart=>exact⟨0,by omega,rfl,⟨_,by have:=Rows2.made (w.alloc (.cells #[.string nm,.int .i64 params,.int .i64 regs,.slice (some ⟨bb,bo,none⟩) n bc] 37)) n 44 3;simpa[qJ]using this⟩,by exact bZ⟩
 case round=>
  obtain⟨k,hk,rfl,⟨f,hR⟩,hb⟩:=hrel
  have HBw:Hid (Below w.heap.size w wr):=hb
  have HR:Hid (Rows2 wr (w.heap.size+1+1) (w.heap.size+1) n 44 3 (qJ TS k) f):=hR
  have hsz:w.heap.size+1<wr.heap.size:=hR.tab.lt
  clear hb hR
  by_cases hlt:k<n
  rotate_left
  ·go_wp2
   go_ret
   obtain rfl:k=n:=by omega
   exact⟨⟨f,rfl,HR.out⟩,HBw.out⟩
  obtain⟨p1,m1,c1,p2,m2,c2,kk,r,m,p,c,e0,e1,e2,e3,e4,e5,hto⟩:=HB.out k hlt
  have hbb:=q8 e0
  rw[←HBw.out.cell (p:=⟨bb,bo+k*6,none⟩) hbb]at e0
  rw[←HBw.out.cell (p:=⟨bb,bo+k*6+1,none⟩) hbb]at e1
  rw[←HBw.out.cell (p:=⟨bb,bo+k*6+2,none⟩) hbb]at e2
  rw[←HBw.out.cell (p:=⟨bb,bo+k*6+3,none⟩) hbb]at e3
  rw[←HBw.out.cell (p:=⟨bb,bo+k*6+4,none⟩) hbb]at e4
  rw[←HBw.out.cell (p:=⟨bb,bo+k*6+5,none⟩) hbb]at e5
  obtain⟨hl2,hts⟩:=HE.out k hlt
  have HTO:Hid (SliceAt w 1 xC p (TS.getD k [])):=hto
  have HTS:Hid (∀t∈TS.getD k [],1≤t∧t<n):=hts
  clear hto hts
  generalize hto:TS.getD k []=to at *
  have HK:Hid (TS.getD k []=to):=hto
  clear hto
  go_wp2
  go_loopw [24] (fun i wq=>∃j:Nat,j≤to.length∧i = .int .i64 j∧(∃f,Rows2 wq (w.heap.size+1+1) (w.heap.size+1) n 44 3 (qJ TS k++(to.map fun t=>(t.toNat,k)).take j) f)∧Below w.heap.size w wq) (fun i _=>to.length - (intOf i).toNat)
  case atStart=>exact⟨0,by omega,rfl,⟨f,by simpa using HR.out.alloc _⟩,by have:=HBw.out;exact this.alloc (by omega) _⟩
  case round=>
   clear HR HBw e0 e1 e2 e3 e4 e5
   obtain⟨j,hj,rfl,⟨f,hR⟩,hb⟩:=hrel
   have HBw:Hid (Below w.heap.size w wr):=hb
   have HR:Hid (Rows2 wr (w.heap.size+1+1) (w.heap.size+1) n 44 3 (qJ TS k++(to.map fun t=>(t.toNat,k)).take j) f):=hR
   have hsz:w.heap.size+1<wr.heap.size:=hR.tab.lt
   clear hb hR
   by_cases hjl:j<to.length
   rotate_left
   ·go_wp2
    obtain rfl:j=to.length:=by omega
    refine⟨⟨k+1,by omega,by go_num,⟨f,?_⟩,HBw.out⟩,by simp[intOf];omega⟩
    have HR2:=HR.out
    rw[List.take_of_length_le (by simp)]at HR2
    unfold qJ
    rw[HK.out]
    exact HR2
   obtain⟨t,ht⟩:∃t:Nat,to[j]=(t:Int):=⟨to[j].toNat,by have:=(HTS.out _ (List.getElem_mem hjl)).1;omega⟩
   have htn:t<n:=by have:=(HTS.out _ (List.getElem_mem hjl)).2;omega
   obtain⟨tb,tof,hp,htc⟩:∃tb tof,p=some ⟨tb,tof,none⟩∧wr.cell? ⟨tb,tof+j,none⟩=some (.int .i64 t):=by
    rcases HTO.out with h0|⟨tb,tof,hp,hc⟩
    ·rw[h0]at hjl;simp at hjl
    refine⟨tb,tof,hp,?_⟩
    obtain⟨cs,_,hc,⟨rfl,_⟩⟩:=hc j hjl
    have h2:=hc 0 (by omega)
    simp only[Nat.mul_one,Nat.add_zero,List.getElem?_cons_zero]at h2
    rw[HBw.out.cell (p:=⟨tb,tof+j,none⟩) (q8 h2),h2,ht]
   subst hp
   have hrow:=HR.out.row t htn
   obtain⟨q,qc,hq⟩:∃q qc,f t = .slice q (qP (qJ TS k++(to.map fun t=>(t.toNat,k)).take j) t).length qc:=by
    rcases hrow.2 with⟨h1,h2⟩|⟨g,cap,cur,h1,_⟩
    ·refine⟨none,0,?_⟩
     rw[h1,h2]
    exact⟨_,_,h1⟩
   have HQ:Hid (f t = .slice q (qP (qJ TS k++(to.map fun t=>(t.toNat,k)).take j) t).length qc):=hq
   have hfc:=HR.out.tab.cell htn
   have hff:=HR.out.tab.frozen t
   rw[hq]at hfc hrow
   clear hq
   have HT:Hid (to[j]?=some (t:Int)):=by show _=_;rw[List.getElem?_eq_getElem hjl,ht]
   clear ht
   have hm2:(qP (qJ TS k++(to.map fun t=>(t.toNat,k)).take j) t).length≤2*k+2:=by
    have h1:=Qa (qJ TS k++(to.map fun t=>(t.toNat,k)).take j) t
    have h2:=ke TS k n hk (fun i hi=>(HE.out i hi).1)
    rw[List.length_append,List.length_take,List.length_map]at h1
    omega
   generalize hm:(qP (qJ TS k++(to.map fun t=>(t.toNat,k)).take j) t).length=m at *
   have HM:Hid ((qP (qJ TS k++(to.map fun t=>(t.toNat,k)).take j) t).length=m):=hm
   clear hm
   go_wp2_with (at_builtin;refine wpList_append_own_at _ rfl _ _ 44 rfl (w.heap.size+1+1) 3 i1 (.int .i64 0) 1 8 Xl k1 k2 k3 k4 rfl (by decide) _ _ _ rfl (hrow.alloc _) ⟨wr.heap.size,0,none⟩ 1 1 [.int .i64 k] rfl rfl (cell_one_new _ _ _) (by simp[Value.oneCell']) ?_ ?_ ?_ ?_)
   ·unfold maxLen;omega
   ·omega
   ·simp;omega
   intro v' w1 hown' hgrow _ hat
   have HP:=(HR.out.alloc (.cells #[.int .i64 k] 3)).put (i:=k) (by simp;omega) htn (v':=v') (w':=w1) (by rw[HM.out];exact hown') (by rw[HQ.out];exact hgrow) (by rw[HQ.out];simpa using hat)
   obtain⟨q2,c2',hv2⟩:∃q2 c2,v' = .slice q2 (m+1) c2:=by
    rcases hown'.2 with⟨h1,h2⟩|⟨g,cap,cur,h1,_⟩
    ·omega
    exact⟨_,_,h1⟩
   subst hv2
   obtain⟨hc1,hf1⟩:=(HR.out.alloc (.cells #[.int .i64 k] 3)).atTab htn (w':=w1) (by rw[HQ.out];exact hgrow)
   rw[HQ.out]at hc1
   have hbw:=(HBw.out.alloc (by omega) (.cells #[.int .i64 k] 3)).grown hgrow (by simp;omega) (fun kk e=>by have:=(hrow.lt kk e).1;omega)
   have HB2:=q7 hbw
   have HP2:=q7 HP
   clear HP hown' hgrow hat hfc hff htc hrow hbw
   go_wp2
   refine⟨⟨j+1,by omega,by go_num,⟨fun i=>if i=t then Value.slice q2 (m+1) c2' else f i,?_⟩,?_⟩,by simp[intOf];omega⟩
   ·rw[List.take_add_one,List.getElem?_map,HT.out]
    have HP3:=HP2.out
    rw[List.append_assoc]at HP3
    exact HP3
   exact HB2.out.setCell (by show _≤w.heap.size+1;omega) _

def kf (w:World) (p:Option Addr) (S:List ByteArray):Prop:=
 S=[]∨∃b o,p=some ⟨b,o,none⟩∧∀i (h:i<S.length),w.cell? ⟨b,o+i,none⟩=some (.string S[i])

theorem bytes_eq {a b:ByteArray}:(a.toList == b.toList)=true↔a=b:=by
 rw[beq_iff_eq,ByteArray.toList_eq,ByteArray.toList_eq]
 constructor
 ·intro h
  obtain⟨x⟩:=a
  obtain⟨y⟩:=b
  rw[show x=y from Array.toList_inj.1 h]
 rintro rfl;rfl

theorem index_str (b o c n:Nat) (S:Nat→ByteArray) (v:ByteArray) (w:World) (hn:n≤9223372036854775807) (hc:∀i,i<n→w.cell? ⟨b,o+i,none⟩=some (.string (S i))) :
  Calls Tryz.prog 53 #[.slice (some ⟨b,o,none⟩) n c,.string v] w fun e w'=>(∃k:Int,e = .returned (.int .i64 k)∧Hid ((k<0∧∀i,i<n→S i≠v)∨(0≤k∧∃i,i<n∧S i=v)))∧w=w':=by
 go_enter Tryz.func53,Tryz.ntmps53
 go_wp2
 go_loop [8] (fun i=>∃k:Nat,k≤n∧i = .int .i64 k∧∀j,j<k→S j≠v) (fun i=>n - (intOf i).toNat)
 case atStart=>exact⟨0,by omega,rfl,fun j hj=>by omega⟩
 case round=>
  obtain⟨k,hk,rfl,hV⟩:=hrel
  have HV:Hid (∀j,j<k→S j≠v):=hV
  clear hV
  by_cases hlt:k<n
  rotate_left
  ·go_wp2
   go_ret
   refine⟨⟨_,rfl,.inl ⟨by omega,fun i hi=>HV.out i (by omega)⟩⟩,rfl⟩
  have c0:=hc k hlt
  have Hlt:Hid (k<n):=hlt
  generalize hs:S k=s at c0
  have HS:Hid (S k=s):=hs
  clear hs hc
  go_wp2
  ·rename_i hw _
   go_ret
   refine⟨⟨_,rfl,.inr ⟨by simp,k,Hlt.out,?_⟩⟩,rfl⟩
   rw[HS.out]
   exact(bytes_eq.1 hw).symm
  rename_i hw
  refine⟨⟨k+1,by omega,by go_num,fun j hj=>?_⟩,by simp[intOf];omega⟩
  by_cases hj2:j<k
  ·exact HV.out j hj2
  obtain rfl:j=k:=by omega
  rw[HS.out]
  intro he
  rw[bytes_eq.2 he.symm]at hw
  cases hw
theorem index_nil (p:Option Addr) (c:Nat) (v:ByteArray) (w:World) :
  Calls Tryz.prog 53 #[.slice p 0 c,.string v] w fun e w'=>e = .returned (.int .i64 (-1))∧w=w':=by
 go_enter Tryz.func53,Tryz.ntmps53
 go_wp2
 go_loop [8] (fun i=>i = .int .i64 0) (fun _=>0)
 case atStart=>rfl
 case round=>
  subst hrel
  go_wp2
  go_ret
  exact⟨rfl,rfl⟩

def Ji (S:List ByteArray) (v:ByteArray):Bool:=S.any fun s=>s.toList == v.toList
theorem hasB_iff {S:List ByteArray} {v:ByteArray}:Ji S v=true↔v∈S:=by
 unfold Ji
 rw[List.any_eq_true]
 constructor
 ·rintro⟨s,hs,he⟩
  rw[←bytes_eq.1 he];exact hs
 intro h
 exact⟨v,h,bytes_eq.2 rfl⟩
theorem jP (p:Option Addr) (c:Nat) (S:List ByteArray) (v:ByteArray) (w:World) (hn:S.length≤9223372036854775807) (h:kf w p S) :
  Calls Tryz.prog 26 #[.slice p S.length c,.string v] w fun e w'=>e = .returned (.bool (Ji S v))∧w=w':=by
 rcases h with rfl|⟨b,o,rfl,h⟩
 ·go_enter Tryz.func26,Tryz.ntmps26
  go_wp2_with (go_at_call 53;refine(index_nil _ _ _ _).mono ?_;rintro e w1 ⟨rfl,rfl⟩)
  go_ret
  exact⟨by simp[Ji],rfl⟩
 have HC:Hid (∀i,i<S.length→w.cell? ⟨b,o+i,none⟩=some (.string (S.getD i ByteArray.empty))):=fun i hi=>by
  rw[h i hi];simp[List.getD,hi]
 clear h
 go_enter Tryz.func26,Tryz.ntmps26
 go_wp2_with fail
 refine(index_str _ _ _ _ (fun i=>S.getD i ByteArray.empty) _ _ hn HC.out).mono ?_
 rintro e w1 ⟨⟨k,rfl,hk⟩,rfl⟩
 by_cases hk0:0≤k
 ·have HB:Hid (Ji S v=true):=by
   show _=_
   rcases hk.out with⟨h1,_⟩|⟨_,i,hi,hs⟩
   ·omega
   rw[hasB_iff,←hs]
   simp[List.getD,hi]
  clear hk
  go_wp2
  go_ret
  exact⟨by rw[HB.out];simp,rfl⟩
 have HB:Hid (Ji S v=false):=by
  show _=_
  rcases hk.out with⟨_,h2⟩|⟨h1,_⟩
  ·rw[Bool.eq_false_iff]
   intro hb
   have hm:=hasB_iff.1 hb
   obtain⟨i,hi,he⟩:=List.mem_iff_getElem.1 hm
   exact h2 i hi (by simp[List.getD,hi,he])
  omega
 clear hk
 go_wp2
 go_ret
 exact⟨by rw[HB.out];simp;omega,rfl⟩

theorem zh:∀{l:List Int},(∀x∈l,x=0)→qA l=0
 | [],_=>rfl
 | x::l,h=>by
  unfold qA
  rw[if_pos (h x List.mem_cons_self)]
  exact zh (fun y hy=>h y (List.mem_cons_of_mem _ hy))
theorem jr:∀{l:List Int} {k:Nat} (hk:k<l.length),(∀j (hj:j<k),l[j]'(by omega)=0)→l[k]≠0→qA l=l[k]
 | x::l,0,_,_,h=>by
  unfold qA
  rw[if_neg (by simpa using h)];rfl
 | x::l,k+1,hk,h0,h=>by
  have hx:x=0:=h0 0 (by omega)
  unfold qA
  rw[if_pos hx]
  have:=jr (l:=l) (k:=k) (by simpa using hk) (fun j hj=>by have:=h0 (j+1) (by omega);simpa using this) (by simpa using h)
  simpa using this
theorem xe {l:List Int} (h:qA l=0):∀x∈l,x=0:=by
 induction l with
 | nil=>intro x hx;cases hx
 | cons y l ih=>
  unfold qA at h
  by_cases hy:y=0
  ·rw[if_pos hy]at h
   intro x hx
   rcases List.mem_cons.1 hx with rfl|hx
   ·exact hy
   exact ih h x hx
  rw[if_neg hy]at h;exact absurd h hy

def xA (n:Nat) (g:Nat→Int):Option (Int×Int):=((List.range n).find? fun i=>g i != 0).map fun i=>(g i,(i:Int))
theorem zt {n:Nat} {g:Nat→Int} (h:∀j,j<n→g j=0):xA n g=none:=by
 unfold xA
 rw[List.find?_eq_none.2]
 ·rfl
 intro i hi
 simp[h i (List.mem_range.1 hi)]
theorem k5 {n:Nat} {g:Nat→Int} (h:xA n g=none):∀j,j<n→g j=0:=by
 intro j hj
 unfold xA at h
 rw[Option.map_eq_none_iff,List.find?_eq_none]at h
 have:=h j (List.mem_range.2 hj)
 simpa using this
theorem Z6:∀(n k:Nat) (p:Nat→Bool),k<n→(∀j,j<k→p j=false)→p k=true→(List.range n).find? p=some k:=by
 intro n k p hk h0 h1
 rw[List.find?_eq_some_iff_append]
 refine⟨h1,List.range k,(List.range (n - k - 1)).map (·+(k+1)),?_,fun a ha=>by simp[h0 a (List.mem_range.1 ha)]⟩
 apply List.ext_getElem
 ·simp;omega
 intro i h2 h3
 rw[List.getElem_range]
 rcases Nat.lt_trichotomy i k with g|g|g
 ·rw[List.getElem_append_left (by simpa using g)];simp
 ·subst g;rw[List.getElem_append_right (by simp)];simp
 rw[List.getElem_append_right (by simp;omega)]
 rw[List.getElem_cons]
 rw[dif_neg (by simp;omega)]
 simp;omega
theorem k6 {n k:Nat} {g:Nat→Int} (hk:k<n) (h0:∀j,j<k→g j=0) (h:g k≠0):xA n g=some (g k,(k:Int)):=by
 unfold xA
 rw[Z6 n k _ hk (fun j hj=>by simp[h0 j hj]) (by simpa using h)]
 rfl

def Z7 (u:UniL) (k:Nat):Int:=(u.funcs.map (·.params)).getD k 0
def V1 (f:FunL) (x:EndL):Int:=vZ f.regs f.blocks.length x.kind x.onr x.onn x.to
def insL (u:UniL) (f:FunL) (x:InsL):Int:=jJ f.regs u.funcs.length (Z7 u) x.op x.dst x.an x.bn x.fn x.ar x.br x.args
def Xn (f:FunL) (block cnt:Nat) (x:PhiL):Int:=Zu f.regs block cnt x.dst x.src
def kL (f:FunL):List (List Int):=f.blocks.map fun b=>b.fin.to
def xp (f:FunL):List (Nat×Nat):=qJ (kL f) f.blocks.length
def blkE (u:UniL) (f:FunL) (i:Nat) (b:BlkL):Int:=
 if qA (b.phis.map (Xn f i (qP (xp f) i).length))=0 then qA (b.list.map (insL u f))else qA (b.phis.map (Xn f i (qP (xp f) i).length))
def Jo (u:UniL) (f:FunL) (i:Nat):Int:=match f.blocks[i]? with|some b=>blkE u f i b|none=>0
def jK (u:UniL) (f:FunL):Int:=
 if qA (f.blocks.map fun b=>V1 f b.fin)=0 then qA ((List.range f.blocks.length).map (Jo u f))else qA (f.blocks.map fun b=>V1 f b.fin)

def zi (f:FunL):Nat:=(f.blocks.map fun b=>b.phis.length+b.list.length).sum
def jQ (names:List ByteArray) (f:FunL):Int:=
 if jO f.name=false then 12
 else if Ji names f.name=true then 7
 else if ¬(0≤f.params∧f.params≤6)∨¬(f.params≤f.regs∧f.regs≤100)then 3
 else if ¬(1≤f.blocks.length∧f.blocks.length≤40)∨300<zi f then 2
 else 0
def xY (u:UniL) (k:Nat):Int:=((u.globals.take k).map (·.size)).sum
def Jp (names:List ByteArray) (words:Int) (g:GloL):Int:=
 if jO g.name=false then 12
 else if Ji names g.name=true then 7
 else if ¬(1≤g.size∧g.size≤200)then 3
 else if g.size<g.init.length then 9
 else if 200<words+g.size then 10
 else 0
def xZ (u:UniL) (k:Nat):List ByteArray:=(u.globals.take k).map (·.name)
def xL (u:UniL) (k:Nat):List ByteArray:=u.globals.map (·.name)++(u.funcs.take k).map (·.name)
def Xo (u:UniL) (i:Nat):Int:=match u.globals[i]? with|some g=>Jp (xZ u i) (xY u i) g|none=>0
def kg (u:UniL) (i:Nat):Int:=match u.funcs[i]? with|some f=>jQ (xL u i) f|none=>0
def kM (u:UniL) (i:Nat):Int:=match u.funcs[i]? with|some f=>jK u f|none=>0
def kN (f:FunL):Bool:=f.name.toList == [109,97,105,110]
def mainAt (u:UniL):Option Nat:=(List.range u.funcs.length).find? fun i=>match u.funcs[i]? with|some f=>kN f|none=>false
def chkO (u:UniL):Option (Int×Int):=
 if 10<u.globals.length∨10<u.funcs.length then some (2,0)
 else match xA u.globals.length (Xo u) with
 | some r=>some r
 | none=>match xA u.funcs.length (kg u) with
 | some r=>some r
 | none=>match xA u.funcs.length (kM u) with
 | some r=>some r
 | none=>match mainAt u with
 | none=>some (6,0)
 | some m=>if 0<Z7 u m then some (5,(m:Int))else none
def chk (u:UniL):Int×Int:=(chkO u).getD (0,0)

theorem vw (f:FunL) (i:Nat) (hi:i<f.blocks.length):(kL f).getD i []=f.blocks[i].fin.to:=by
 simp[kL,List.getD,hi]

theorem Xp {regs:Int} {nb:Nat} {kind:Int} {r:Bool} {n:Int} {to:List Int} (h:vZ regs nb kind r n to=0):to.length≤2∧∀t∈to,1≤t∧t<nb:=by
 unfold vZ at h
 by_cases a:1≤kind∧kind≤3
 ·rw[if_neg (by simpa using a)]at h
  by_cases b:(to.length:Int)=kind - 1
  ·rw[if_neg (by simpa using b)]at h
   by_cases c:to.any (fun t=>!zR t 1 ((nb:Int) - 1))=true
   ·rw[if_pos c]at h;cases h
   refine⟨by omega,fun t ht=>?_⟩
   rw[List.any_eq_true]at c
   have hc:¬(!zR t 1 ((nb:Int) - 1))=true:=fun hh=>c ⟨t,ht,hh⟩
   unfold zR at hc
   simp at hc
   omega
  rw[if_pos (by simpa using b)]at h;cases h
 rw[if_pos (by simpa using a)]at h;cases h

theorem qg {w:World} {k:Nat} {A:Array Value} {T:TypeId} (h:w.heap[k]?=some (.cells A T (0,0))) (o:Nat) (v:Value):(w.setCell ⟨k,o,none⟩ v).heap[k]?=some (.cells (A.setIfInBounds o v) T (0,0)):=by
 simp[World.setCell,Array.getElem?_modify,h]
theorem Rows2.at {w:World} {B T n:Nat} {ts ti:TypeId} {ps:List (Nat×Nat)} {f:Nat→Value} (h:Rows2 w B T n ts ti ps f) {i:Nat} (hi:i<n):∃q c,w.cell? ⟨T,i,none⟩=some (.slice q (qP ps i).length c):=by
 have hc:=h.tab.cell hi
 rcases (h.row i hi).2 with⟨h1,h2⟩|⟨g,cap,cur,h1,_⟩
 ·rw[h1]at hc;exact⟨none,0,by rw[h2];exact hc⟩
 rw[h1]at hc;exact⟨_,_,hc⟩
theorem Qo {u:UniL} {f:FunL} {k:Nat} (hk:k<f.blocks.length):Jo u f k=blkE u f k f.blocks[k]:=by
 unfold Jo
 rw[List.getElem?_eq_getElem hk]
theorem blkI_phi {u:UniL} {f:FunL} {k j:Nat} (hk:k<f.blocks.length) (hj:j<f.blocks[k].phis.length) (h0:∀i (h:i<f.blocks[k].phis.length),i<j→Xn f k (qP (xp f) k).length f.blocks[k].phis[i]=0)
  (h:Xn f k (qP (xp f) k).length f.blocks[k].phis[j]≠0):Jo u f k=Xn f k (qP (xp f) k).length f.blocks[k].phis[j]:=by
 rw[Qo hk]
 have hl:=jr (l:=f.blocks[k].phis.map (Xn f k (qP (xp f) k).length)) (k:=j) (by simpa using hj) (fun i hi=>by simpa using h0 i (by omega) hi) (by simpa using h)
 rw[List.getElem_map]at hl
 unfold blkE
 rw[hl,if_neg h]
theorem blkI_ins {u:UniL} {f:FunL} {k j:Nat} (hk:k<f.blocks.length) (hp:∀i (h:i<f.blocks[k].phis.length),Xn f k (qP (xp f) k).length f.blocks[k].phis[i]=0) (hj:j<f.blocks[k].list.length) (h0:∀i (h:i<f.blocks[k].list.length),i<j→insL u f f.blocks[k].list[i]=0)
  (h:insL u f f.blocks[k].list[j]≠0):Jo u f k=insL u f f.blocks[k].list[j]:=by
 rw[Qo hk]
 have hz:qA (f.blocks[k].phis.map (Xn f k (qP (xp f) k).length))=0:=zh fun x hx=>by
  obtain⟨b,hb,rfl⟩:=List.mem_map.1 hx
  obtain⟨i,hi,rfl⟩:=List.mem_iff_getElem.1 hb
  exact hp i hi
 have hl:=jr (l:=f.blocks[k].list.map (insL u f)) (k:=j) (by simpa using hj) (fun i hi=>by simpa using h0 i (by omega) hi) (by simpa using h)
 rw[List.getElem_map]at hl
 unfold blkE
 rw[if_pos hz,hl]
theorem blkI_zero {u:UniL} {f:FunL} {k:Nat} (hk:k<f.blocks.length) (hp:∀i (h:i<f.blocks[k].phis.length),Xn f k (qP (xp f) k).length f.blocks[k].phis[i]=0) (h0:∀i (h:i<f.blocks[k].list.length),insL u f f.blocks[k].list[i]=0):Jo u f k=0:=by
 rw[Qo hk]
 have hz:qA (f.blocks[k].phis.map (Xn f k (qP (xp f) k).length))=0:=zh fun x hx=>by
  obtain⟨b,hb,rfl⟩:=List.mem_map.1 hx
  obtain⟨i,hi,rfl⟩:=List.mem_iff_getElem.1 hb
  exact hp i hi
 unfold blkE
 rw[if_pos hz]
 exact zh fun x hx=>by
  obtain⟨b,hb,rfl⟩:=List.mem_map.1 hx
  obtain⟨i,hi,rfl⟩:=List.mem_iff_getElem.1 hb
  exact h0 i hi
theorem Xq {u:UniL} {f:FunL} {k:Nat} {e:Int} (hA:qA (f.blocks.map fun b=>V1 f b.fin)=0) (hk:k<f.blocks.length) (h0:∀j,j<k→Jo u f j=0) (h:Jo u f k=e) (he:e≠0):jK u f=e:=by
 unfold jK
 rw[if_pos hA]
 have hl:=jr (l:=(List.range f.blocks.length).map (Jo u f)) (k:=k) (by simpa using hk) (fun i hi=>by simpa using h0 i hi) (by simpa[h]using he)
 rw[hl]
 simpa using h
theorem VK {u:UniL} {f:FunL} (hA:qA (f.blocks.map fun b=>V1 f b.fin)=0) (h0:∀j,j<f.blocks.length→Jo u f j=0):jK u f=0:=by
 unfold jK
 rw[if_pos hA]
 exact zh fun x hx=>by
  obtain⟨i,hi,rfl⟩:=List.mem_map.1 hx
  exact h0 i (List.mem_range.1 hi)
theorem parAt {w w':World} {u:UniL} {fp:Option Addr} (h:SliceAt w 4 (FunR w) fp u.funcs) (hb:Below w.heap.size w w'):u.funcs.length=0∨∃fb fo,fp=some ⟨fb,fo,none⟩∧∀i,i<u.funcs.length→w'.cell? ⟨fb,fo+i*4+1,none⟩=some (.int .i64 (Z7 u i)):=by
 rcases h with h0|⟨b,o,hp,h⟩
 ·exact .inl (by rw[h0];rfl)
 refine .inr ⟨b,o,hp,fun i hi=>?_⟩
 obtain⟨b2,o2,q,c,hp2,_,e1,_⟩:=kd (.inr ⟨b,o,hp,h⟩) hb hi
 rw[hp]at hp2
 cases hp2
 rw[e1]
 simp[Z7,List.getD,hi]
theorem Ways.below {w w':World} (h:Ways w) (hb:Below w.heap.size w w'):Ways w':=by
 obtain⟨h0,h1,h2,h3⟩:=h
 have hl:=q8 h0
 exact⟨(hb.cell (p:=⟨0,_,none⟩) hl).trans h0,(hb.cell (p:=⟨0,_,none⟩) hl).trans h1,(hb.cell (p:=⟨0,_,none⟩) hl).trans h2,(hb.cell (p:=⟨0,_,none⟩) hl).trans h3⟩

theorem Zv {w w':World} {b o:Nat} {f:FunL} (h:SliceAt w 6 (BlkR w) (some ⟨b,o,none⟩) f.blocks) (hb:Below w.heap.size w w') (i:Nat) (hi:i<f.blocks.length):Jn w' b o i ((kL f).getD i []):=by
 obtain⟨b2,o2,q1,c1,q2,c2,q3,c3,hp,e0,e1,e2,e3,e4,e5,_,_,_,_,_,_,_,ht⟩:=zE h hb hi
 cases hp
 rw[vw f i hi]
 exact⟨_,_,_,_,_,_,_,_,_,_,_,e0,e1,e2,e3,e4,e5,ht⟩

theorem body_any (u:UniL) (f:FunL) (g1 fp:Option Addr) (g2 g3 fc bc bb bo:Nat) (w:World)
  (h1:0≤f.regs) (h2:f.regs≤100) (hn1:1≤f.blocks.length) (hn2:f.blocks.length≤40)
  (hfl:u.funcs.length≤10) (hF:SliceAt w 4 (FunR w) fp u.funcs) (hb:SliceAt w 6 (BlkR w) (some ⟨bb,bo,none⟩) f.blocks) (hw0:Ways w) :
  Calls Tryz.prog 29 #[.agg #[.slice g1 g2 g3,.slice fp u.funcs.length fc,.string f.name,.int .i64 f.params,.int .i64 f.regs,.slice (some ⟨bb,bo,none⟩) f.blocks.length bc,.slice none 0 0]] w fun e w'=>e = .returned (.int .i64 (jK u f))∧Below w.heap.size w w':=by
 have HF:Hid (SliceAt w 4 (FunR w) fp u.funcs):=hF
 have HB:Hid (SliceAt w 6 (BlkR w) (some ⟨bb,bo,none⟩) f.blocks):=hb
 have HW:Hid (Ways w):=hw0
 clear hF hb hw0
 go_enter Tryz.func29,Tryz.ntmps29
 go_wp2
 go_loopw [18] (fun i wr=>∃k:Nat,k≤f.blocks.length∧i = .int .i64 k∧(∀j (h:j<f.blocks.length),j<k→V1 f f.blocks[j].fin=0)∧Below (w.heap.size+1) (w.alloc (.cells #[.slice g1 g2 g3,.slice fp u.funcs.length fc,.string f.name,.int .i64 f.params,.int .i64 f.regs,.slice (some ⟨bb,bo,none⟩) f.blocks.length bc,.slice none 0 0] 73)) wr) (fun i _=>f.blocks.length - (intOf i).toNat)
 case atStart=>exact⟨0,by omega,rfl,fun j _ h=>by omega,Below.refl _ _⟩
 case round=>
  obtain⟨k,hk,rfl,hV,hb⟩:=hrel
  have HV:=q7 hV
  have HBw:=q7 hb
  have hbw:Below w.heap.size w wr:=((Below.refl _ _).alloc (Nat.le_refl _) _).trans (hb.mono (by omega))
  have HBx:=q7 hbw
  have hz:w.heap.size<wr.heap.size:=by have:=hb.size;simp at this;omega
  obtain⟨hcc,hcf⟩:=blk (qd hb (by omega) (qr _ _))
  clear hV hb hbw
  by_cases hlt:k<f.blocks.length
  ·obtain⟨b2,o2,q1,c1,q2,c2,q3,c3,hp,e0,e1,e2,e3,e4,e5,_,_,_,_,hl3,_,_,ht⟩:=zE HB.out HBx.out hlt
   cases hp
   have HT:=q7 ht
   have HE:Hid (V1 f f.blocks[k].fin=vZ f.regs f.blocks.length f.blocks[k].fin.kind f.blocks[k].fin.onr f.blocks[k].fin.onn f.blocks[k].fin.to):=rfl
   clear ht
   go_wp2_with fail
   refine(end_any _ _ _ _ _ _ _ _ _ _ _ _ _ _ _ _ _ _ _ _ _ _ (by omega) (by omega) (by omega) (by omega) ?_ ?_).mono ?_
   ·exact HT.out.mono ((Below.refl _ _).alloc (Nat.le_refl _) _) (by omega) fun _ _ h=>h
   ·exact HW.out.below (HBx.out.alloc (by omega) _)
   rintro e w3 ⟨rfl,hb3⟩
   have HN:Hid (Below (w.heap.size+1) (w.alloc (.cells #[.slice g1 g2 g3,.slice fp u.funcs.length fc,.string f.name,.int .i64 f.params,.int .i64 f.regs,.slice (some ⟨bb,bo,none⟩) f.blocks.length bc,.slice none 0 0] 73)) w3):=HBw.out.trans (((Below.refl _ _).alloc (by omega) _).trans (hb3.mono (by simp;omega)))
   generalize hE:vZ f.regs f.blocks.length f.blocks[k].fin.kind f.blocks[k].fin.onr f.blocks[k].fin.onn f.blocks[k].fin.to=ee
   have HE2:Hid (V1 f f.blocks[k].fin=ee):=hE
   clear hE HE hb3
   by_cases hz0:ee=0
   ·have hzb:(ee != 0)=false:=by simp[hz0]
    have HZ:=q7 hz0
    clear hz0
    go_wp2_with fail
    refine⟨⟨k+1,by omega,by go_num,fun j hj hjk=>?_,HN.out⟩,by simp[intOf];omega⟩
    by_cases hj2:j<k
    ·exact HV.out j hj hj2
    obtain rfl:j=k:=by omega
    rw[HE2.out];exact HZ.out
   have hzb:(ee != 0)=true:=by simp[hz0]
   have HZ:=q7 hz0
   clear hz0
   go_wp2_with fail
   go_ret
   refine⟨?_,(Below.trans ((Below.refl _ _).alloc (Nat.le_refl _) _) (HN.out.mono (by omega)))⟩
   have hl:qA (f.blocks.map fun b=>V1 f b.fin)=ee:=by
    have:=jr (l:=f.blocks.map fun b=>V1 f b.fin) (k:=k) (by simpa using hlt) (fun j hj=>by simpa using HV.out j (by omega) hj) (by simpa[HE2.out]using HZ.out)
    simpa[HE2.out]using this
   unfold jK
   rw[hl,if_neg HZ.out]
   rfl
  have HA:Hid (qA (f.blocks.map fun b=>V1 f b.fin)=0):=by
   refine zh fun x hx=>?_
   obtain⟨b,hb,rfl⟩:=List.mem_map.1 hx
   obtain⟨i,hi,rfl⟩:=List.mem_iff_getElem.1 hb
   exact HV.out i hi (by omega)
  have hcnt:∀i,(qP (xp f) i).length≤80:=by
   intro i
   have h1:=Qa (xp f) i
   have h2:=ke (kL f) f.blocks.length f.blocks.length (Nat.le_refl _) (fun i hi=>by
    rw[vw f i hi]
    exact(Xp (xe HA.out _ (List.mem_map.2 ⟨f.blocks[i],List.getElem_mem hi,rfl⟩))).1)
   unfold xp at h1 ⊢
   omega
  go_wp2_with fail
  refine(ahead_any _ _ _ _ _ _ _ (kL f) _ hn2 (fun i hi=>Zv HB.out HBx.out i hi) (fun i hi=>?_)).mono ?_
  ·rw[vw f i hi]
   exact Xp (xe HA.out _ (List.mem_map.2 ⟨f.blocks[i],List.getElem_mem hi,rfl⟩))
  rintro e w2 ⟨⟨F,rfl,hR⟩,hb2⟩
  have heo:=qd hb2 hz (qd HBw.out (by omega) (qr w _))
  obtain⟨hkM,hkO⟩:=blk heo
  have HR:=q7 hR
  have HB2:=q7 hb2
  clear hR hb2 hcc hcf
  have heo:=q7 heo
  go_wp2_with fail
  obtain⟨W,hW⟩:∃W,w2.setCell ⟨w.heap.size,6,none⟩ (.slice (some ⟨wr.heap.size+1,0,none⟩) f.blocks.length f.blocks.length)=W:=⟨_,rfl⟩
  rw[hW]
  have hT:=HR.out.tab.lt
  have hWs:W.heap.size=w2.heap.size:=by rw[←hW];simp[World.setCell]
  have hWB:Hid (Below w.heap.size w W):=by
   rw[←hW]
   exact(HBx.out.trans (HB2.out.mono (by omega))).setCell (Nat.le_refl _) _
  have hWc:Hid (W.heap[w.heap.size]?=some (.cells #[.slice g1 g2 g3,.slice fp u.funcs.length fc,.string f.name,.int .i64 f.params,.int .i64 f.regs,.slice (some ⟨bb,bo,none⟩) f.blocks.length bc,.slice (some ⟨wr.heap.size+1,0,none⟩) f.blocks.length f.blocks.length] 73)):=by
   rw[←hW]
   exact qg heo.out 6 _
  have hWr:Hid (∀i,i<f.blocks.length→∃q c,W.cell? ⟨wr.heap.size+1,i,none⟩=some (.slice q (qP (xp f) i).length c)):=by
   intro i hi
   obtain⟨q,c,hc⟩:=HR.out.at hi
   rw[←hW]
   exact⟨q,c,by rw[World.cell?_of_block (Below.heap_setCell _ _ _ _ (by show wr.heap.size+1≠w.heap.size;omega))];exact hc⟩
  have hzW:w.heap.size<W.heap.size:=by omega
  clear hW HR HB2 hkM hkO heo HBw HBx HV
  generalize wr.heap.size+1=T at hT hWc hWr ⊢
  go_loopw [38] (fun i wr=>∃k:Nat,k≤f.blocks.length∧i = .int .i64 k∧(∀j,j<k→Jo u f j=0)∧Below W.heap.size W wr) (fun i _=>f.blocks.length - (intOf i).toNat)
  case atStart=>exact⟨0,by omega,rfl,fun j h=>by omega,Below.refl _ _⟩
  case round=>
   obtain⟨wo,hwo⟩:∃wo:World,wo=wr:=⟨_,rfl⟩
   obtain⟨k,hk,rfl,hV,hb⟩:=hrel
   have HV:=q7 hV
   have HBo:=q7 hb
   have hzo:w.heap.size<wr.heap.size:=by have:=hb.size;omega
   have hoU:W.heap.size≤wr.heap.size:=hb.size
   have HBx:Hid (Below w.heap.size w wr):=hWB.out.trans (hb.mono (by omega))
   have hco:=qd hb hzW hWc.out
   obtain⟨hcc,hcf⟩:=blk hco
   have HCo:=q7 hco
   clear hV hb hco
   by_cases hlt:k<f.blocks.length
   rotate_left
   ·go_wp2
    go_ret
    refine⟨?_,HBx.out⟩
    rw[VK HA.out (fun j hj=>HV.out j (by omega))]
    rfl
   obtain⟨b2,o2,q1,c1,q2,c2,q3,c3,hp,e0,e1,e2,e3,e4,e5,_,_,hl1,hl2,hl3,hph,hins,_⟩:=zE HB.out HBx.out hlt
   cases hp
   have HPH:=q7 hph
   have HIN:=q7 hins
   clear hph hins
   go_wp2_with fail
   subst hwo
   go_loopw [46] (fun i wq=>∃j:Nat,j≤f.blocks[k].phis.length∧i = .int .i64 j∧(∀i (h:i<f.blocks[k].phis.length),i<j→Xn f k (qP (xp f) k).length f.blocks[k].phis[i]=0)∧Below (wo.heap.size+1) (wo.alloc (.cells #[.slice q1 f.blocks[k].phis.length c1,.slice q2 f.blocks[k].list.length c2,.int .i64 f.blocks[k].fin.kind,.bool f.blocks[k].fin.onr,.int .i64 f.blocks[k].fin.onn,.slice q3 f.blocks[k].fin.to.length c3] 48)) wq) (fun i _=>f.blocks[k].phis.length - (intOf i).toNat)
   case atStart=>exact⟨0,by omega,rfl,fun j _ h=>by omega,Below.refl _ _⟩
   case round=>
    obtain⟨j,hj,rfl,hV,hb⟩:=hrel
    have HVp:=q7 hV
    have HBp:=q7 hb
    have hzp:wo.heap.size<wr.heap.size:=by have:=hb.size;simp at this;omega
    have HBy:Hid (Below wo.heap.size wo wr):=((Below.refl _ _).alloc (Nat.le_refl _) _).trans (hb.mono (by omega))
    have hzq:w.heap.size<wr.heap.size:=by omega
    clear hcc hcf
    obtain⟨hcc,hcf⟩:=blk (qd HBy.out hzo HCo.out)
    obtain⟨haY,haZ⟩:=blk (qd hb (by omega) (qr wo _))
    clear hV hb
    by_cases hjl:j<f.blocks[k].phis.length
    ·obtain⟨b4,o4,q4,c4,hp4,d0,d1,_,hl4,hsr⟩:=phiGet HPH.out HBy.out hjl
     subst hp4
     have HSR:=q7 hsr
     obtain⟨q5,c5,hq5⟩:=hWr.out k hlt
     have HQ5:=q7 hq5
     clear hsr hq5
     have HE:Hid (Xn f k (qP (xp f) k).length f.blocks[k].phis[j]=Zu f.regs k (qP (xp f) k).length f.blocks[k].phis[j].dst f.blocks[k].phis[j].src):=rfl
     go_wp2_with fail
     refine(phi_any _ _ _ _ T 0 _ _ _ _ _ _ _ _ _ _ (qP (xp f) k).length c5 q5 _ _ _ _ _ _ (by omega) (by omega) ?_ ?_ ?_ ?_ ?_ ?_).mono ?_
     ·exact hlt
     ·omega
     ·omega
     ·have:=hcnt k;omega
     ·rw[Nat.zero_add,World.cell?_of_block (Below.heap_alloc _ _ _ (by show T<_;have:=HBy.out.size;omega)),HBy.out.cell (p:=⟨T,k,none⟩) (by show T<_;omega)]
      exact(HBo.out.cell (p:=⟨T,k,none⟩) (by show T<_;omega)).trans HQ5.out
     ·exact HSR.out.mono ((Below.refl _ _).alloc (Nat.le_refl _) _) (by omega) fun _ _ h=>h
     rintro e w3 ⟨rfl,hb3⟩
     generalize hE:Zu f.regs k (qP (xp f) k).length f.blocks[k].phis[j].dst f.blocks[k].phis[j].src=ee
     have HE2:Hid (Xn f k (qP (xp f) k).length f.blocks[k].phis[j]=ee):=hE
     have HN:Hid (Below (wo.heap.size+1) (wo.alloc (.cells #[.slice (some ⟨b4,o4,none⟩) f.blocks[k].phis.length c1,.slice q2 f.blocks[k].list.length c2,.int .i64 f.blocks[k].fin.kind,.bool f.blocks[k].fin.onr,.int .i64 f.blocks[k].fin.onn,.slice q3 f.blocks[k].fin.to.length c3] 48)) w3):=HBp.out.trans (((Below.refl _ _).alloc (by omega) _).trans (hb3.mono (by simp;omega)))
     clear hE HE hb3
     by_cases hz0:ee=0
     ·have hzb:(ee != 0)=false:=by simp[hz0]
      have HZ:=q7 hz0
      clear hz0
      go_wp2_with fail
      refine⟨⟨j+1,by omega,by go_num,fun i hi hij=>?_,HN.out⟩,by simp[intOf];omega⟩
      by_cases hj2:i<j
      ·exact HVp.out i hi hj2
      obtain rfl:i=j:=by omega
      rw[HE2.out];exact HZ.out
     have hzb:(ee != 0)=true:=by simp[hz0]
     have HZ:=q7 hz0
     clear hz0
     go_wp2_with fail
     go_ret
     refine⟨?_,HBx.out.trans (Below.trans ((Below.refl _ _).alloc (by omega) _) (HN.out.mono (by omega)))⟩
     rw[Xq HA.out hlt HV.out (blkI_phi hlt hjl (fun i hi hij=>HVp.out i hi hij) (by rw[HE2.out];exact HZ.out)) (by rw[HE2.out];exact HZ.out),HE2.out]
     rfl
    have HP0:Hid (∀i (h:i<f.blocks[k].phis.length),Xn f k (qP (xp f) k).length f.blocks[k].phis[i]=0):=fun i hi=>HVp.out i hi (by omega)
    clear HVp
    go_wp2_with fail
    go_loopw [61] (fun i wq=>∃j:Nat,j≤f.blocks[k].list.length∧i = .int .i64 j∧(∀i (h:i<f.blocks[k].list.length),i<j→insL u f f.blocks[k].list[i]=0)∧Below wr.heap.size wr wq) (fun i _=>f.blocks[k].list.length - (intOf i).toNat)
    case atStart=>exact⟨0,by omega,rfl,fun j _ h=>by omega,Below.refl _ _⟩
    case round=>
     obtain⟨wv,hwv⟩:∃wv:World,wv=wr:=⟨_,rfl⟩
     clear hcc hcf haY haZ
     obtain⟨j2,hj2,rfl,hV,hb⟩:=hrel
     have HVi:=q7 hV
     have HBi:=q7 hb
     have HBz:Hid (Below wo.heap.size wo wr):=HBy.out.trans (hb.mono HBy.out.size)
     have hzs:wo.heap.size≤wr.heap.size:=HBz.out.size
     have hsG:w.heap.size<wr.heap.size:=by omega
     obtain⟨hcc,hcf⟩:=blk (qd HBz.out hzo HCo.out)
     clear hV hb
     by_cases hkP:j2<f.blocks[k].list.length
     rotate_left
     ·go_wp2_with fail
      refine⟨⟨k+1,by omega,by go_num,fun i hi=>?_,HBo.out.trans (HBz.out.mono hoU)⟩,by simp[intOf];omega⟩
      by_cases hj3:i<k
      ·exact HV.out i hj3
      obtain rfl:i=k:=by omega
      exact blkI_zero hlt HP0.out (fun i hi=>HVi.out i hi (by omega))
     obtain⟨b4,o4,q4,c4,hp4,d0,d1,d2,d3,d4,d5,d6,d7,_,_,_,_,_,hl4,hsr⟩:=Q1 HIN.out HBz.out hkP
     subst hp4
     have HSR:=q7 hsr
     clear hsr
     have HE:Hid (insL u f f.blocks[k].list[j2]=jJ f.regs u.funcs.length (Z7 u) f.blocks[k].list[j2].op f.blocks[k].list[j2].dst f.blocks[k].list[j2].an f.blocks[k].list[j2].bn f.blocks[k].list[j2].fn f.blocks[k].list[j2].ar f.blocks[k].list[j2].br f.blocks[k].list[j2].args):=rfl
     subst hwv
     go_wp2_with fail
     refine(ins_any _ _ _ _ _ _ _ _ _ _ _ _ _ _ _ _ _ _ _ _ _ _ _ _ (Z7 u) _ _ (by omega) (by omega) (by omega) ?_ ?_ ?_).mono ?_
     ·exact parAt HF.out (HBx.out.trans ((HBz.out.mono (by omega)).trans ((Below.refl _ _).alloc (by omega) _)))
     ·omega
     ·exact HSR.out.mono ((Below.refl _ _).alloc (Nat.le_refl _) _) (by omega) fun _ _ h=>h
     rintro e w3 ⟨rfl,hb3⟩
     generalize hE:jJ f.regs u.funcs.length (Z7 u) f.blocks[k].list[j2].op f.blocks[k].list[j2].dst f.blocks[k].list[j2].an f.blocks[k].list[j2].bn f.blocks[k].list[j2].fn f.blocks[k].list[j2].ar f.blocks[k].list[j2].br f.blocks[k].list[j2].args=ee
     have HE2:Hid (insL u f f.blocks[k].list[j2]=ee):=hE
     have HN:Hid (Below wv.heap.size wv w3):=((Below.refl _ _).alloc (Nat.le_refl _) _).trans (hb3.mono (by simp))
     clear hE HE hb3
     by_cases hz0:ee=0
     ·have hzb:(ee != 0)=false:=by simp[hz0]
      have HZ:=q7 hz0
      clear hz0
      go_wp2_with fail
      refine⟨⟨j2+1,by omega,by go_num,fun i hi hij=>?_,HBi.out.trans (HN.out.mono HBi.out.size)⟩,by simp[intOf];omega⟩
      by_cases hj3:i<j2
      ·exact HVi.out i hi hj3
      obtain rfl:i=j2:=by omega
      rw[HE2.out];exact HZ.out
     have hzb:(ee != 0)=true:=by simp[hz0]
     have HZ:=q7 hz0
     clear hz0
     go_wp2_with fail
     go_ret
     refine⟨?_,HBx.out.trans ((HBz.out.trans (HN.out.mono hzs)).mono (by omega))⟩
     rw[Xq HA.out hlt HV.out (blkI_ins hlt HP0.out hkP (fun i hi hij=>HVi.out i hi hij) (by rw[HE2.out];exact HZ.out)) (by rw[HE2.out];exact HZ.out),HE2.out]
     rfl
end Go.Proofs.YtecdphhdmjmmnaaGreatDoor
