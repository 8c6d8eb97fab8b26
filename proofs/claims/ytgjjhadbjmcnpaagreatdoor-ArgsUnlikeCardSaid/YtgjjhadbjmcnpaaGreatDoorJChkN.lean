/-
  Plain: what the check tells of a unit.
-/
import Derived.Deep.OwnRows
import Derived.OwnWalk
import Derived.Maps.AppendAt
import Derived.Test.YtgjjhadbjmcnpaaGreatDoorJChkJ
set_option maxRecDepth 100000
set_option maxHeartbeats 16000000
namespace Go.Proofs.YtgjjhadbjmcnpaaGreatDoor
open Go.RowKit

theorem q8 {p:Prop} (h:p):Hid p:=h

theorem qd {w:World} {b:Nat} {o:Obj} (h:w.heap[b]?=some o):b<w.heap.size:=by
 rcases Nat.lt_or_ge b w.heap.size with g|g
 ·exact g
 rw [Array.getElem?_eq_none g] at h;cases h

theorem SliceAt.mono {α:Type} {w w':World} {size:Nat} {R R':List Value→α→Prop} {p:Option Addr} {xs:List α} (h:SliceAt w size R p xs) (hb:Below w.heap.size w w') (_hs:0<size) (hR:∀cs x,R cs x→R' cs x):SliceAt w' size R' p xs:=by
 rcases h with h|⟨b,o,hp,h⟩
 ·exact .inl h
 refine .inr ⟨b,o,hp,fun i hi=>?_⟩
 obtain ⟨cs,hl,hc,hr⟩:=h i hi
 refine ⟨cs,hl,fun j hj=>?_,hR _ _ hr⟩
 have hc0:=hc j hj
 rw [List.getElem?_eq_getElem (by omega)] at hc0
 rw [hb.cell (p:=⟨b,o+i*size+j,none⟩) (q9 hc0),hc j hj]
theorem SlF.mono {α:Type} {w w':World} {size bytes:Nat} {R R':List Value→α→Prop} {v:Value} {xs:List α} (h:SlF w size bytes R v xs) (hb:Below w.heap.size w w') (hs:0<size) (hR:∀cs x,R cs x→R' cs x):SlF w' size bytes R' v xs:=by
 obtain ⟨p,c,h1,h2,h3,h4,h5⟩:=h
 exact ⟨p,c,h1,h2,h3,h4,h5.mono hb hs hR⟩
theorem InsR.below {w w':World} {cs:List Value} {x:InsL} (h:InsR w cs x) (hb:Below w.heap.size w w'):InsR w' cs x:=by
 obtain ⟨v,h0,h1,h2,h3,h4,h5,h6⟩:=h
 exact ⟨v,h0,h1,h2,h3,h4,h5,h6.mono hb (by omega) fun _ _ h=>h⟩
theorem PhiR.below {w w':World} {cs:List Value} {x:PhiL} (h:PhiR w cs x) (hb:Below w.heap.size w w'):PhiR w' cs x:=by
 obtain ⟨v,h0,h1,h6⟩:=h
 exact ⟨v,h0,h1,h6.mono hb (by omega) fun _ _ h=>h⟩
theorem BlkR.below {w w':World} {cs:List Value} {x:BlkL} (h:BlkR w cs x) (hb:Below w.heap.size w w'):BlkR w' cs x:=by
 obtain ⟨v1,v2,v3,h0,h1,h2,h3,h4,h5⟩:=h
 exact ⟨v1,v2,v3,h0,h1,h2,h3.mono hb (by omega) fun _ _ h=>h.below hb,h4.mono hb (by omega) fun _ _ h=>h.below hb,h5.mono hb (by omega) fun _ _ h=>h⟩
theorem FunR.below {w w':World} {cs:List Value} {x:FunL} (h:FunR w cs x) (hb:Below w.heap.size w w'):FunR w' cs x:=by
 obtain ⟨v,h0,h1,h2,h3,h4⟩:=h
 exact ⟨v,h0,h1,h2,h3,h4.mono hb (by omega) fun _ _ h=>h.below hb⟩
theorem GloR.below {w w':World} {cs:List Value} {x:GloL} (h:GloR w cs x) (hb:Below w.heap.size w w'):GloR w' cs x:=by
 obtain ⟨v,h0,h1,h2,h3⟩:=h
 exact ⟨v,h0,h1,h2,h3.mono hb (by omega) fun _ _ h=>h⟩

theorem kc {w w':World} {p:Option Addr} {xs:List GloL} (h:SliceAt w 3 (GloR w) p xs) (hb:Below w.heap.size w w'):SliceAt w' 3 (GloR w') p xs:=h.mono hb (by omega) fun _ _ h=>h.below hb
theorem kd {w w':World} {p:Option Addr} {xs:List FunL} (h:SliceAt w 4 (FunR w) p xs) (hb:Below w.heap.size w w'):SliceAt w' 4 (FunR w') p xs:=h.mono hb (by omega) fun _ _ h=>h.below hb
theorem Qc {w w':World} {p:Option Addr} {xs:List BlkL} (h:SliceAt w 6 (BlkR w) p xs) (hb:Below w.heap.size w w'):SliceAt w' 6 (BlkR w') p xs:=h.mono hb (by omega) fun _ _ h=>h.below hb
theorem SlF.out {α:Type} {w:World} {size bytes:Nat} {R:List Value→α→Prop} {v:Value} {xs:List α} (h:SlF w size bytes R v xs):∃p c,v = .slice p xs.length c∧xs.length*bytes≤140737488351232∧SliceAt w size R p xs:=by
 obtain ⟨p,c,h1,_,_,h4,h5⟩:=h
 exact ⟨p,c,h1,by unfold reachBytes at h4;exact h4,h5⟩

theorem intGet {w w':World} {p:Option Addr} {xs:List Int} (h:SliceAt w 1 vX p xs) (hb:Below w.heap.size w w') {i:Nat} (hi:i<xs.length) :
  ∃b o,p=some ⟨b,o,none⟩∧w'.cell? ⟨b,o+i,none⟩=some (.int .i64 xs[i])∧I64 xs[i]:=by
 rcases h with rfl|⟨b,o,hp,h⟩
 ·simp at hi
 obtain ⟨cs,_,hc,⟨rfl,hw⟩⟩:=h i hi
 have h0:=hc 0 (by omega)
 simp only [Nat.mul_one,Nat.add_zero,List.getElem?_cons_zero] at h0
 exact ⟨b,o,hp,(hb.cell (p:=⟨b,o+i,none⟩) (q9 h0)).trans h0,hw⟩
theorem Ql {w w':World} {p:Option Addr} {xs:List (Bool×Int)} (h:SliceAt w 2 kY p xs) (hb:Below w.heap.size w w') {i:Nat} (hi:i<xs.length) :
  ∃b o,p=some ⟨b,o,none⟩∧w'.cell? ⟨b,o+i*2,none⟩=some (.bool xs[i].1)∧w'.cell? ⟨b,o+i*2+1,none⟩=some (.int .i64 xs[i].2)∧I64 xs[i].2:=by
 rcases h with rfl|⟨b,o,hp,h⟩
 ·simp at hi
 obtain ⟨cs,_,hc,⟨rfl,hw⟩⟩:=h i hi
 have h0:w.cell? ⟨b,o+i*2,none⟩=some (.bool xs[i].1):=hc 0 (by omega)
 have h1:w.cell? ⟨b,o+i*2+1,none⟩=some (.int .i64 xs[i].2):=hc 1 (by omega)
 have hl:=q9 h0
 exact ⟨b,o,hp,(hb.cell (p:=⟨b,_,none⟩) hl).trans h0,(hb.cell (p:=⟨b,_,none⟩) hl).trans h1,hw⟩
theorem phiGet {w w':World} {p:Option Addr} {xs:List PhiL} (h:SliceAt w 2 (PhiR w) p xs) (hb:Below w.heap.size w w') {i:Nat} (hi:i<xs.length) :
  ∃b o q c,p=some ⟨b,o,none⟩∧w'.cell? ⟨b,o+i*2,none⟩=some (.int .i64 xs[i].dst)∧w'.cell? ⟨b,o+i*2+1,none⟩=some (.slice q xs[i].src.length c)∧I64 xs[i].dst∧xs[i].src.length*16≤140737488351232∧SliceAt w' 2 kY q xs[i].src:=by
 rcases h with rfl|⟨b,o,hp,h⟩
 ·simp at hi
 obtain ⟨cs,_,hc,hr⟩:=h i hi
 obtain ⟨v,rfl,hw,hs⟩:=hr
 obtain ⟨q,c,rfl,hl2,hs2⟩:=hs.out
 have h0:w.cell? ⟨b,o+i*2,none⟩=some (.int .i64 xs[i].dst):=hc 0 (by omega)
 have h1:w.cell? ⟨b,o+i*2+1,none⟩=some (.slice q xs[i].src.length c):=hc 1 (by omega)
 have hl:=q9 h0
 exact ⟨b,o,q,c,hp,(hb.cell (p:=⟨b,_,none⟩) hl).trans h0,(hb.cell (p:=⟨b,_,none⟩) hl).trans h1,hw,hl2,hs2.mono hb (by omega) fun _ _ h=>h⟩
theorem Xa {w w':World} {p:Option Addr} {xs:List InsL} (h:SliceAt w 8 (InsR w) p xs) (hb:Below w.heap.size w w') {i:Nat} (hi:i<xs.length) :
  ∃b o q c,p=some ⟨b,o,none⟩∧w'.cell? ⟨b,o+i*8,none⟩=some (.int .i64 xs[i].op)∧w'.cell? ⟨b,o+i*8+1,none⟩=some (.int .i64 xs[i].dst)∧w'.cell? ⟨b,o+i*8+2,none⟩=some (.bool xs[i].ar)∧w'.cell? ⟨b,o+i*8+3,none⟩=some (.int .i64 xs[i].an)∧w'.cell? ⟨b,o+i*8+4,none⟩=some (.bool xs[i].br)∧w'.cell? ⟨b,o+i*8+5,none⟩=some (.int .i64 xs[i].bn)∧w'.cell? ⟨b,o+i*8+6,none⟩=some (.int .i64 xs[i].fn)∧w'.cell? ⟨b,o+i*8+7,none⟩=some (.slice q xs[i].args.length c)∧I64 xs[i].op∧I64 xs[i].dst∧I64 xs[i].an∧I64 xs[i].bn∧I64 xs[i].fn∧xs[i].args.length*16≤140737488351232∧SliceAt w' 2 kY q xs[i].args:=by
 rcases h with rfl|⟨b,o,hp,h⟩
 ·simp at hi
 obtain ⟨cs,_,hc,hr⟩:=h i hi
 obtain ⟨v,rfl,w1,w2,w3,w4,w5,hs⟩:=hr
 obtain ⟨q,c,rfl,hl2,hs2⟩:=hs.out
 have h0:w.cell? ⟨b,o+i*8,none⟩=some (.int .i64 xs[i].op):=hc 0 (by omega)
 have hl:=q9 h0
 have g:∀j,j<8→w'.cell? ⟨b,o+i*8+j,none⟩=w.cell? ⟨b,o+i*8+j,none⟩:=fun j _=>hb.cell (p:=⟨b,_,none⟩) hl
 exact ⟨b,o,q,c,hp,(g 0 (by omega)).trans h0,(g 1 (by omega)).trans (hc 1 (by omega)),(g 2 (by omega)).trans (hc 2 (by omega)),(g 3 (by omega)).trans (hc 3 (by omega)),(g 4 (by omega)).trans (hc 4 (by omega)),(g 5 (by omega)).trans (hc 5 (by omega)),(g 6 (by omega)).trans (hc 6 (by omega)),(g 7 (by omega)).trans (hc 7 (by omega)),w1,w2,w3,w4,w5,hl2,hs2.mono hb (by omega) fun _ _ h=>h⟩
theorem jH {w w':World} {p:Option Addr} {xs:List BlkL} (h:SliceAt w 6 (BlkR w) p xs) (hb:Below w.heap.size w w') {i:Nat} (hi:i<xs.length) :
  ∃b o q1 c1 q2 c2 q3 c3,p=some ⟨b,o,none⟩∧w'.cell? ⟨b,o+i*6,none⟩=some (.slice q1 xs[i].phis.length c1)∧w'.cell? ⟨b,o+i*6+1,none⟩=some (.slice q2 xs[i].list.length c2)∧w'.cell? ⟨b,o+i*6+2,none⟩=some (.int .i64 xs[i].fin.kind)∧w'.cell? ⟨b,o+i*6+3,none⟩=some (.bool xs[i].fin.onr)∧w'.cell? ⟨b,o+i*6+4,none⟩=some (.int .i64 xs[i].fin.onn)∧w'.cell? ⟨b,o+i*6+5,none⟩=some (.slice q3 xs[i].fin.to.length c3)∧I64 xs[i].fin.kind∧I64 xs[i].fin.onn∧
   xs[i].phis.length*32≤140737488351232∧xs[i].list.length*80≤140737488351232∧xs[i].fin.to.length*8≤140737488351232∧SliceAt w' 2 (PhiR w') q1 xs[i].phis∧SliceAt w' 8 (InsR w') q2 xs[i].list∧SliceAt w' 1 vX q3 xs[i].fin.to:=by
 rcases h with rfl|⟨b,o,hp,h⟩
 ·simp at hi
 obtain ⟨cs,_,hc,hr⟩:=h i hi
 obtain ⟨v1,v2,v3,rfl,w1,w2,hs1,hs2,hs3⟩:=hr
 obtain ⟨q1,c1,rfl,l1,t1⟩:=hs1.out
 obtain ⟨q2,c2,rfl,l2,t2⟩:=hs2.out
 obtain ⟨q3,c3,rfl,l3,t3⟩:=hs3.out
 have h0:w.cell? ⟨b,o+i*6,none⟩=some (.slice q1 xs[i].phis.length c1):=hc 0 (by omega)
 have hl:=q9 h0
 have g:∀j,j<6→w'.cell? ⟨b,o+i*6+j,none⟩=w.cell? ⟨b,o+i*6+j,none⟩:=fun j _=>hb.cell (p:=⟨b,_,none⟩) hl
 exact ⟨b,o,q1,c1,q2,c2,q3,c3,hp,(g 0 (by omega)).trans h0,(g 1 (by omega)).trans (hc 1 (by omega)),(g 2 (by omega)).trans (hc 2 (by omega)),(g 3 (by omega)).trans (hc 3 (by omega)),(g 4 (by omega)).trans (hc 4 (by omega)),(g 5 (by omega)).trans (hc 5 (by omega)),w1,w2,l1,l2,l3,t1.mono hb (by omega) fun _ _ h=>h.below hb,t2.mono hb (by omega) fun _ _ h=>h.below hb,t3.mono hb (by omega) fun _ _ h=>h⟩
theorem jI {w w':World} {p:Option Addr} {xs:List FunL} (h:SliceAt w 4 (FunR w) p xs) (hb:Below w.heap.size w w') {i:Nat} (hi:i<xs.length) :
  ∃b o q c,p=some ⟨b,o,none⟩∧w'.cell? ⟨b,o+i*4,none⟩=some (.string xs[i].name)∧w'.cell? ⟨b,o+i*4+1,none⟩=some (.int .i64 xs[i].params)∧w'.cell? ⟨b,o+i*4+2,none⟩=some (.int .i64 xs[i].regs)∧w'.cell? ⟨b,o+i*4+3,none⟩=some (.slice q xs[i].blocks.length c)∧
   xs[i].name.size≤140737488351232∧I64 xs[i].params∧I64 xs[i].regs∧xs[i].blocks.length*96≤140737488351232∧SliceAt w' 6 (BlkR w') q xs[i].blocks:=by
 rcases h with rfl|⟨b,o,hp,h⟩
 ·simp at hi
 obtain ⟨cs,_,hc,hr⟩:=h i hi
 obtain ⟨v,rfl,w0,w1,w2,hs⟩:=hr
 obtain ⟨q,c,rfl,hl2,hs2⟩:=hs.out
 have h0:w.cell? ⟨b,o+i*4,none⟩=some (.string xs[i].name):=hc 0 (by omega)
 have hl:=q9 h0
 have g:∀j,j<4→w'.cell? ⟨b,o+i*4+j,none⟩=w.cell? ⟨b,o+i*4+j,none⟩:=fun j _=>hb.cell (p:=⟨b,_,none⟩) hl
 exact ⟨b,o,q,c,hp,(g 0 (by omega)).trans h0,(g 1 (by omega)).trans (hc 1 (by omega)),(g 2 (by omega)).trans (hc 2 (by omega)),(g 3 (by omega)).trans (hc 3 (by omega)),by unfold reachBytes at w0;omega,w1,w2,hl2,hs2.mono hb (by omega) fun _ _ h=>h.below hb⟩
theorem gloGet {w w':World} {p:Option Addr} {xs:List GloL} (h:SliceAt w 3 (GloR w) p xs) (hb:Below w.heap.size w w') {i:Nat} (hi:i<xs.length) :
  ∃b o q c,p=some ⟨b,o,none⟩∧w'.cell? ⟨b,o+i*3,none⟩=some (.string xs[i].name)∧w'.cell? ⟨b,o+i*3+1,none⟩=some (.int .i64 xs[i].size)∧w'.cell? ⟨b,o+i*3+2,none⟩=some (.slice q xs[i].init.length c)∧
   xs[i].name.size≤140737488351232∧I64 xs[i].size∧xs[i].init.length*8≤140737488351232∧SliceAt w' 1 vX q xs[i].init:=by
 rcases h with rfl|⟨b,o,hp,h⟩
 ·simp at hi
 obtain ⟨cs,_,hc,hr⟩:=h i hi
 obtain ⟨v,rfl,w0,w1,hs⟩:=hr
 obtain ⟨q,c,rfl,hl2,hs2⟩:=hs.out
 have h0:w.cell? ⟨b,o+i*3,none⟩=some (.string xs[i].name):=hc 0 (by omega)
 have hl:=q9 h0
 have g:∀j,j<3→w'.cell? ⟨b,o+i*3+j,none⟩=w.cell? ⟨b,o+i*3+j,none⟩:=fun j _=>hb.cell (p:=⟨b,_,none⟩) hl
 exact ⟨b,o,q,c,hp,(g 0 (by omega)).trans h0,(g 1 (by omega)).trans (hc 1 (by omega)),(g 2 (by omega)).trans (hc 2 (by omega)),by unfold reachBytes at w0;omega,w1,hl2,hs2.mono hb (by omega) fun _ _ h=>h⟩



def qT (T:List (List Int)):Nat→List (Nat×Nat)
 | 0=>[]
 | i+1=>qT T i++(T.getD i []).map fun t=>(t.toNat,i)
def qZ (ps:List (Nat×Nat)) (t:Nat):List Nat:=(ps.filter (·.1 == t)).map (·.2)

theorem Vt (ps:List (Nat×Nat)) (t i:Nat):qZ (ps++[(t,i)]) t=qZ ps t++[i]:=by
 simp [qZ,List.filter_append]
theorem XW (ps:List (Nat×Nat)) {t u:Nat} (i:Nat) (h:u≠t):qZ (ps++[(t,i)]) u=qZ ps u:=by
 have h2:(t == u)=false:=by simp;omega
 simp [qZ,List.filter_append,h2]
theorem Qd (ps:List (Nat×Nat)) (t:Nat):(qZ ps t).length≤ps.length:=by
 unfold qZ;rw [List.length_map];exact List.length_filter_le _ _
theorem ke (T:List (List Int)) (k n:Nat) (hk:k≤n) (h:∀i,i<n→(T.getD i []).length≤2):(qT T k).length≤2*k:=by
 induction k with
 | zero=>simp [qT]
 | succ k ih=>
  have:=ih (by omega)
  have:=h k (by omega)
  simp only [qT,List.length_append,List.length_map]
  omega

structure Rows2 (w:World) (B T:Nat) (n:Nat) (ts ti:TypeId) (ps:List (Nat×Nat)) (f:Nat→Value):Prop where
 tab:w.rowIs T ts n f
 row:∀j,j<n→w.ownsRow B ti 1 (f j) (qZ ps j).length ((qZ ps j).map fun i:Nat=>.int .i64 (i:Int))
 two:∀j k,j<n→k<n→j≠k→(f j).ownBlock=none∨(f j).ownBlock≠(f k).ownBlock
 low:T<B

theorem Rows2.alloc {w:World} {B T n:Nat} {ts ti:TypeId} {ps:List (Nat×Nat)} {f:Nat→Value} (h:Rows2 w B T n ts ti ps f) (o:Obj):Rows2 (w.alloc o) B T n ts ti ps f:=
 ⟨h.tab.alloc o,fun j hj=>(h.row j hj).alloc o,h.two,h.low⟩
theorem Rows2.drew {w:World} {B T n:Nat} {ts ti:TypeId} {ps:List (Nat×Nat)} {f:Nat→Value} (h:Rows2 w B T n ts ti ps f):Rows2 w.drew B T n ts ti ps f:=
 ⟨h.tab.drew,fun j hj=>(h.row j hj).drew,h.two,h.low⟩

theorem Rows2.made (w:World) (n:Nat) (ts ti:TypeId):Rows2 (w.alloc (.cells (madeCells #[.slice none 0 0] n) ts)) (w.heap.size+1) w.heap.size n ts ti [] (fun _=>.slice none 0 0):=
 ⟨World.rowIs_made w _ n ts,fun j _=>World.ownsRow_nil _ _ _ _,fun _ _ _ _ _=>.inl rfl,by omega⟩

theorem Rows2.put {w w':World} {B T n:Nat} {ts ti:TypeId} {ps:List (Nat×Nat)} {f:Nat→Value} (h:Rows2 w B T n ts ti ps f) (hB:B≤w.heap.size) {t i:Nat} (ht:t<n) {v':Value}
  (hown:w'.ownsRow B ti 1 v' ((qZ ps t).length+1) (((qZ ps t).map fun i:Nat=>.int .i64 (i:Int))++[.int .i64 (i:Int)])) (hg:w.grownBy w' (f t).ownBlock)
  (hv:v'.ownBlock=(f t).ownBlock∨v'.ownBlock=some w.heap.size) :
  Rows2 (w'.setCell ⟨T,t,none⟩ v') B T n ts ti (ps++[(t,i)]) (fun j=>if j=t then v' else f j):=by
 have hlow:∀j,j<n→∀k,(f j).ownBlock=some k→B≤k∧k<w.heap.size:=fun j hj k hk=>(h.row j hj).lt k hk
 have hT:some T≠(f t).ownBlock:=fun e=>by have:=(hlow t ht T e.symm).1;have:=h.low;omega
 have hTw:T<w.heap.size:=by have:=h.low;omega
 have keep:∀(v:Value) (m:Nat) (xs:List Value),w'.ownsRow B ti 1 v m xs→(w'.setCell ⟨T,t,none⟩ v').ownsRow B ti 1 v m xs:=fun v m xs ho=>by
  refine ho.kept (row:=some T) ⟨rfl,rfl,rfl,by simp [World.setCell],fun k hk hne=>?_⟩ ?_
  ·exact Below.heap_setCell _ _ _ _ (fun e=>hne (by rw [e]))
  cases hb:v.ownBlock with
  | none=>exact .inl rfl
  | some k=>exact .inr (fun e=>by have h1:=(ho.lt k hb).1;have h2:=h.low;injection e with e;omega)
 refine ⟨?_,fun j hj=>?_,fun j k hj hk hjk=>?_,h.low⟩
 ·exact (h.tab.of_block (hg.block T hTw hT)).set t v'
 ·by_cases hjt:j=t
  ·subst hjt
   simp only [if_true]
   rw [Vt,List.length_append,List.map_append]
   exact keep _ _ _ hown
  simp only [if_neg hjt]
  rw [XW _ _ hjt]
  exact keep _ _ _ ((h.row j hj).kept hg (h.two j t hj ht hjt))
 show (if j=t then v' else f j).ownBlock=none∨(if j=t then v' else f j).ownBlock≠(if k=t then v' else f k).ownBlock
 by_cases hjt:j=t
 ·have hkt:k≠t:=fun e=>hjk (hjt.trans e.symm)
  rw [if_pos hjt,if_neg hkt]
  rcases hv with e|e
  ·rw [e];exact h.two t k ht hk (fun e=>hkt e.symm)
  refine .inr (fun g=>?_)
  have:=(hlow k hk _ (g.symm.trans e)).2
  omega
 rw [if_neg hjt]
 by_cases hkt:k=t
 ·rw [if_pos hkt]
  rcases hv with e|e
  ·rw [e];exact h.two j t hj ht hjt
  cases hb:(f j).ownBlock with
  | none=>exact .inl rfl
  | some q=>exact .inr (fun g=>by have:=(hlow j hj q hb).2;rw [e] at g;injection g with g;omega)
 rw [if_neg hkt];exact h.two j k hj hk hjk
theorem Rows2.atTab {w w':World} {B T n:Nat} {ts ti:TypeId} {ps:List (Nat×Nat)} {f:Nat→Value} (h:Rows2 w B T n ts ti ps f) {t:Nat} (ht:t<n) (hg:w.grownBy w' (f t).ownBlock):w'.cell? ⟨T,t,none⟩=some (f t)∧w'.frozen? ⟨T,t,none⟩=false:=by
 have hT:some T≠(f t).ownBlock:=fun e=>by have:=((h.row t ht).lt T e.symm).1;have:=h.low;omega
 have hb:=hg.block T h.tab.lt hT
 exact ⟨(World.cell?_of_block (a:=⟨T,t,none⟩) hb).trans (h.tab.cell ht),(World.frozen?_of_block (a:=⟨T,t,none⟩) hb).trans (h.tab.frozen t)⟩

theorem Xb:Tryz.prog.underlying 45=some (.slice 3):=by kernel_rfl
theorem Xc:Tryz.prog.underlying 65=some (.slice 45):=by kernel_rfl
theorem infoInt:(Tryz.prog.info? 3).map (fun i=>(i.zero,i.size,i.bytes))=some (some (.int .i64 0),1,8):=by kernel_rfl
theorem JL:(Tryz.prog.info? 45).map (fun i=>(i.zero,i.size,i.bytes))=some (some (.slice none 0 0),1,24):=by kernel_rfl

def XX (w:World) (b o i:Nat) (to:List Int):Prop:=
 ∃p1 l1 c1 p2 l2 c2 k r m p c,w.cell? ⟨b,o+i*6,none⟩=some (.slice p1 l1 c1)∧w.cell? ⟨b,o+i*6+1,none⟩=some (.slice p2 l2 c2)∧w.cell? ⟨b,o+i*6+2,none⟩=some (.int .i64 k)∧
  w.cell? ⟨b,o+i*6+3,none⟩=some (.bool r)∧w.cell? ⟨b,o+i*6+4,none⟩=some (.int .i64 m)∧w.cell? ⟨b,o+i*6+5,none⟩=some (.slice p to.length c)∧SliceAt w 1 vX p to

theorem ahead_any (nm:ByteArray) (params regs:Int) (bb bo bc n:Nat) (TS:List (List Int)) (w:World) (hn:n≤40)
  (hB:∀i,i<n→XX w bb bo i (TS.getD i []))
  (hE:∀i,i<n→(TS.getD i []).length≤2∧∀t∈TS.getD i [],1≤t∧t<n) :
  Calls Tryz.prog 58 #[.agg #[.string nm,.int .i64 params,.int .i64 regs,.slice (some ⟨bb,bo,none⟩) n bc]] w fun e w'=>
   (∃f:Nat→Value,e = .returned (.slice (some ⟨w.heap.size+1,0,none⟩) n n)∧Rows2 w' (w.heap.size+1+1) (w.heap.size+1) n 45 3 (qT TS n) f)∧Below w.heap.size w w':=by
 obtain ⟨i1,k1,k2,k3,k4⟩:=info_parts infoInt
 obtain ⟨i2,l1,l2,l3,l4⟩:=info_parts JL
 have hmk:=run_make_row 65 45 i2 (.slice none 0 0) Xc l1 l2 l3 rfl .i64 .i64 n (by rw [l4];omega) (by omega)
 have HB:Hid (∀i,i<n→XX w bb bo i (TS.getD i [])):=hB
 have HE:Hid (∀i,i<n→(TS.getD i []).length≤2∧∀t∈TS.getD i [],1≤t∧t<n):=hE
 clear hB hE
 go_enter Tryz.func58,Tryz.ntmps58
 go_wp2
 go_loopw [15] (fun i wr=>∃k:Nat,k≤n∧i = .int .i64 k∧(∃f,Rows2 wr (w.heap.size+1+1) (w.heap.size+1) n 45 3 (qT TS k) f)∧Below w.heap.size w wr) (fun i _=>n - (intOf i).toNat)
 case atStart=>exact ⟨0,by omega,rfl,⟨_,by have:=Rows2.made (w.alloc (.cells #[.string nm,.int .i64 params,.int .i64 regs,.slice (some ⟨bb,bo,none⟩) n bc] 38)) n 45 3;simpa [qT] using this⟩,by exact bZ⟩
 case round=>
  obtain ⟨k,hk,rfl,⟨f,hR⟩,hb⟩:=hrel
  have HBw:Hid (Below w.heap.size w wr):=hb
  have HR:Hid (Rows2 wr (w.heap.size+1+1) (w.heap.size+1) n 45 3 (qT TS k) f):=hR
  have hsz:w.heap.size+1<wr.heap.size:=hR.tab.lt
  clear hb hR
  by_cases hlt:k<n
  rotate_left
  ·go_wp2
   go_ret
   obtain rfl:k=n:=by omega
   exact ⟨⟨f,rfl,HR.out⟩,HBw.out⟩
  obtain ⟨p1,m1,c1,p2,m2,c2,kk,r,m,p,c,e0,e1,e2,e3,e4,e5,hto⟩:=HB.out k hlt
  have hbb:=q9 e0
  rw [←HBw.out.cell (p:=⟨bb,bo+k*6,none⟩) hbb] at e0
  rw [←HBw.out.cell (p:=⟨bb,bo+k*6+1,none⟩) hbb] at e1
  rw [←HBw.out.cell (p:=⟨bb,bo+k*6+2,none⟩) hbb] at e2
  rw [←HBw.out.cell (p:=⟨bb,bo+k*6+3,none⟩) hbb] at e3
  rw [←HBw.out.cell (p:=⟨bb,bo+k*6+4,none⟩) hbb] at e4
  rw [←HBw.out.cell (p:=⟨bb,bo+k*6+5,none⟩) hbb] at e5
  obtain ⟨hl2,hts⟩:=HE.out k hlt
  have HTO:Hid (SliceAt w 1 vX p (TS.getD k [])):=hto
  have HTS:Hid (∀t∈TS.getD k [],1≤t∧t<n):=hts
  clear hto hts
  generalize hto:TS.getD k []=to at *
  have HK:Hid (TS.getD k []=to):=hto
  clear hto
  go_wp2
  go_loopw [24] (fun i wq=>∃j:Nat,j≤to.length∧i = .int .i64 j∧(∃f,Rows2 wq (w.heap.size+1+1) (w.heap.size+1) n 45 3 (qT TS k++(to.map fun t=>(t.toNat,k)).take j) f)∧Below w.heap.size w wq) (fun i _=>to.length - (intOf i).toNat)
  case atStart=>exact ⟨0,by omega,rfl,⟨f,by simpa using HR.out.alloc _⟩,by have:=HBw.out;exact this.alloc (by omega) _⟩
  case round=>
   clear HR HBw e0 e1 e2 e3 e4 e5
   obtain ⟨j,hj,rfl,⟨f,hR⟩,hb⟩:=hrel
   have HBw:Hid (Below w.heap.size w wr):=hb
   have HR:Hid (Rows2 wr (w.heap.size+1+1) (w.heap.size+1) n 45 3 (qT TS k++(to.map fun t=>(t.toNat,k)).take j) f):=hR
   have hsz:w.heap.size+1<wr.heap.size:=hR.tab.lt
   clear hb hR
   by_cases hjl:j<to.length
   rotate_left
   ·go_wp2
    obtain rfl:j=to.length:=by omega
    refine ⟨⟨k+1,by omega,by go_num,⟨f,?_⟩,HBw.out⟩,by simp [intOf];omega⟩
    have HR2:=HR.out
    rw [List.take_of_length_le (by simp)] at HR2
    unfold qT
    rw [HK.out]
    exact HR2
   obtain ⟨t,ht⟩:∃t:Nat,to[j]=(t:Int):=⟨to[j].toNat,by have:=(HTS.out _ (List.getElem_mem hjl)).1;omega⟩
   have htn:t<n:=by have:=(HTS.out _ (List.getElem_mem hjl)).2;omega
   obtain ⟨tb,tof,hp,htc⟩:∃tb tof,p=some ⟨tb,tof,none⟩∧wr.cell? ⟨tb,tof+j,none⟩=some (.int .i64 t):=by
    rcases HTO.out with h0|⟨tb,tof,hp,hc⟩
    ·rw [h0] at hjl;simp at hjl
    refine ⟨tb,tof,hp,?_⟩
    obtain ⟨cs,_,hc,⟨rfl,_⟩⟩:=hc j hjl
    have h2:=hc 0 (by omega)
    simp only [Nat.mul_one,Nat.add_zero,List.getElem?_cons_zero] at h2
    rw [HBw.out.cell (p:=⟨tb,tof+j,none⟩) (q9 h2),h2,ht]
   subst hp
   have hrow:=HR.out.row t htn
   obtain ⟨q,qc,hq⟩:∃q qc,f t = .slice q (qZ (qT TS k++(to.map fun t=>(t.toNat,k)).take j) t).length qc:=by
    rcases hrow.2 with ⟨h1,h2⟩|⟨g,cap,cur,h1,_⟩
    ·refine ⟨none,0,?_⟩
     rw [h1,h2]
    exact ⟨_,_,h1⟩
   have HQ:Hid (f t = .slice q (qZ (qT TS k++(to.map fun t=>(t.toNat,k)).take j) t).length qc):=hq
   have hfc:=HR.out.tab.cell htn
   have hff:=HR.out.tab.frozen t
   rw [hq] at hfc hrow
   clear hq
   have HT:Hid (to[j]?=some (t:Int)):=by show _=_;rw [List.getElem?_eq_getElem hjl,ht]
   clear ht
   have hm2:(qZ (qT TS k++(to.map fun t=>(t.toNat,k)).take j) t).length≤2*k+2:=by
    have h1:=Qd (qT TS k++(to.map fun t=>(t.toNat,k)).take j) t
    have h2:=ke TS k n hk (fun i hi=>(HE.out i hi).1)
    rw [List.length_append,List.length_take,List.length_map] at h1
    omega
   generalize hm:(qZ (qT TS k++(to.map fun t=>(t.toNat,k)).take j) t).length=m at *
   have HM:Hid ((qZ (qT TS k++(to.map fun t=>(t.toNat,k)).take j) t).length=m):=hm
   clear hm
   go_wp2_with (at_builtin;refine wpList_append_own_at _ rfl _ _ 45 rfl (w.heap.size+1+1) 3 i1 (.int .i64 0) 1 8 Xb k1 k2 k3 k4 rfl (by decide) _ _ _ rfl (hrow.alloc _) ⟨wr.heap.size,0,none⟩ 1 1 [.int .i64 k] rfl rfl (cell_one_new _ _ _) (by simp [Value.oneCell']) ?_ ?_ ?_ ?_)
   ·unfold maxLen;omega
   ·omega
   ·simp;omega
   intro v' w1 hown' hgrow _ hat
   have HP:=(HR.out.alloc (.cells #[.int .i64 k] 3)).put (i:=k) (by simp;omega) htn (v':=v') (w':=w1) (by rw [HM.out];exact hown') (by rw [HQ.out];exact hgrow) (by rw [HQ.out];simpa using hat)
   obtain ⟨q2,c2',hv2⟩:∃q2 c2,v' = .slice q2 (m+1) c2:=by
    rcases hown'.2 with ⟨h1,h2⟩|⟨g,cap,cur,h1,_⟩
    ·omega
    exact ⟨_,_,h1⟩
   subst hv2
   obtain ⟨hc1,hf1⟩:=(HR.out.alloc (.cells #[.int .i64 k] 3)).atTab htn (w':=w1) (by rw [HQ.out];exact hgrow)
   rw [HQ.out] at hc1
   have hbw:=(HBw.out.alloc (by omega) (.cells #[.int .i64 k] 3)).grown hgrow (by simp;omega) (fun kk e=>by have:=(hrow.lt kk e).1;omega)
   have HB2:=q8 hbw
   have HP2:=q8 HP
   clear HP hown' hgrow hat hfc hff htc hrow hbw
   go_wp2
   refine ⟨⟨j+1,by omega,by go_num,⟨fun i=>if i=t then Value.slice q2 (m+1) c2' else f i,?_⟩,?_⟩,by simp [intOf];omega⟩
   ·rw [List.take_add_one,List.getElem?_map,HT.out]
    have HP3:=HP2.out
    rw [List.append_assoc] at HP3
    exact HP3
   exact HB2.out.setCell (by show _≤w.heap.size+1;omega) _

def kf (w:World) (p:Option Addr) (S:List ByteArray):Prop:=
 S=[]∨∃b o,p=some ⟨b,o,none⟩∧∀i (h:i<S.length),w.cell? ⟨b,o+i,none⟩=some (.string S[i])

theorem bytes_eq {a b:ByteArray}:(a.toList == b.toList)=true↔a=b:=by
 rw [beq_iff_eq,ByteArray.toList_eq,ByteArray.toList_eq]
 constructor
 ·intro h
  obtain ⟨x⟩:=a
  obtain ⟨y⟩:=b
  rw [show x=y from Array.toList_inj.1 h]
 rintro rfl;rfl

theorem index_str (b o c n:Nat) (S:Nat→ByteArray) (v:ByteArray) (w:World) (hn:n≤9223372036854775807) (hc:∀i,i<n→w.cell? ⟨b,o+i,none⟩=some (.string (S i))) :
  Calls Tryz.prog 56 #[.slice (some ⟨b,o,none⟩) n c,.string v] w fun e w'=>(∃k:Int,e = .returned (.int .i64 k)∧Hid ((k<0∧∀i,i<n→S i≠v)∨(0≤k∧∃i,i<n∧S i=v)))∧w=w':=by
 go_enter Tryz.func56,Tryz.ntmps56
 go_wp2
 go_loop [8] (fun i=>∃k:Nat,k≤n∧i = .int .i64 k∧∀j,j<k→S j≠v) (fun i=>n - (intOf i).toNat)
 case atStart=>exact ⟨0,by omega,rfl,fun j hj=>by omega⟩
 case round=>
  obtain ⟨k,hk,rfl,hV⟩:=hrel
  have HV:Hid (∀j,j<k→S j≠v):=hV
  clear hV
  by_cases hlt:k<n
  rotate_left
  ·go_wp2
   go_ret
   refine ⟨⟨_,rfl,.inl ⟨by omega,fun i hi=>HV.out i (by omega)⟩⟩,rfl⟩
  have c0:=hc k hlt
  have Hlt:Hid (k<n):=hlt
  generalize hs:S k=s at c0
  have HS:Hid (S k=s):=hs
  clear hs hc
  go_wp2
  ·rename_i hw _
   go_ret
   refine ⟨⟨_,rfl,.inr ⟨by simp,k,Hlt.out,?_⟩⟩,rfl⟩
   rw [HS.out]
   exact (bytes_eq.1 hw).symm
  rename_i hw
  refine ⟨⟨k+1,by omega,by go_num,fun j hj=>?_⟩,by simp [intOf];omega⟩
  by_cases hj2:j<k
  ·exact HV.out j hj2
  obtain rfl:j=k:=by omega
  rw [HS.out]
  intro he
  rw [bytes_eq.2 he.symm] at hw
  cases hw
theorem index_nil (p:Option Addr) (c:Nat) (v:ByteArray) (w:World) :
  Calls Tryz.prog 56 #[.slice p 0 c,.string v] w fun e w'=>e = .returned (.int .i64 (-1))∧w=w':=by
 go_enter Tryz.func56,Tryz.ntmps56
 go_wp2
 go_loop [8] (fun i=>i = .int .i64 0) (fun _=>0)
 case atStart=>rfl
 case round=>
  subst hrel
  go_wp2
  go_ret
  exact ⟨rfl,rfl⟩

def XR (S:List ByteArray) (v:ByteArray):Bool:=S.any fun s=>s.toList == v.toList
theorem hasB_iff {S:List ByteArray} {v:ByteArray}:XR S v=true↔v∈S:=by
 unfold XR
 rw [List.any_eq_true]
 constructor
 ·rintro ⟨s,hs,he⟩
  rw [←bytes_eq.1 he];exact hs
 intro h
 exact ⟨v,h,bytes_eq.2 rfl⟩
theorem jP (p:Option Addr) (c:Nat) (S:List ByteArray) (v:ByteArray) (w:World) (hn:S.length≤9223372036854775807) (h:kf w p S) :
  Calls Tryz.prog 25 #[.slice p S.length c,.string v] w fun e w'=>e = .returned (.bool (XR S v))∧w=w':=by
 rcases h with rfl|⟨b,o,rfl,h⟩
 ·go_enter Tryz.func25,Tryz.ntmps25
  go_wp2_with (go_at_call 56;refine (index_nil _ _ _ _).mono ?_;rintro e w1 ⟨rfl,rfl⟩)
  go_ret
  exact ⟨by simp [XR],rfl⟩
 have HC:Hid (∀i,i<S.length→w.cell? ⟨b,o+i,none⟩=some (.string (S.getD i ByteArray.empty))):=fun i hi=>by
  rw [h i hi];simp [List.getD,hi]
 clear h
 go_enter Tryz.func25,Tryz.ntmps25
 go_wp2_with fail
 refine (index_str _ _ _ _ (fun i=>S.getD i ByteArray.empty) _ _ hn HC.out).mono ?_
 rintro e w1 ⟨⟨k,rfl,hk⟩,rfl⟩
 by_cases hk0:0≤k
 ·have HB:Hid (XR S v=true):=by
   show _=_
   rcases hk.out with ⟨h1,_⟩|⟨_,i,hi,hs⟩
   ·omega
   rw [hasB_iff,←hs]
   simp [List.getD,hi]
  clear hk
  go_wp2
  go_ret
  exact ⟨by rw [HB.out];simp,rfl⟩
 have HB:Hid (XR S v=false):=by
  show _=_
  rcases hk.out with ⟨_,h2⟩|⟨h1,_⟩
  ·rw [Bool.eq_false_iff]
   intro hb
   have hm:=hasB_iff.1 hb
   obtain ⟨i,hi,he⟩:=List.mem_iff_getElem.1 hm
   exact h2 i hi (by simp [List.getD,hi,he])
  omega
 clear hk
 go_wp2
 go_ret
 exact ⟨by rw [HB.out];simp;omega,rfl⟩

theorem zC:∀{l:List Int},(∀x∈l,x=0)→qA l=0
 | [],_=>rfl
 | x::l,h=>by
  unfold qA
  rw [if_pos (h x List.mem_cons_self)]
  exact zC (fun y hy=>h y (List.mem_cons_of_mem _ hy))
theorem js:∀{l:List Int} {k:Nat} (hk:k<l.length),(∀j (hj:j<k),l[j]'(by omega)=0)→l[k]≠0→qA l=l[k]
 | x::l,0,_,_,h=>by
  unfold qA
  rw [if_neg (by simpa using h)];rfl
 | x::l,k+1,hk,h0,h=>by
  have hx:x=0:=h0 0 (by omega)
  unfold qA
  rw [if_pos hx]
  have:=js (l:=l) (k:=k) (by simpa using hk) (fun j hj=>by have:=h0 (j+1) (by omega);simpa using this) (by simpa using h)
  simpa using this
theorem xl {l:List Int} (h:qA l=0):∀x∈l,x=0:=by
 induction l with
 | nil=>intro x hx;cases hx
 | cons y l ih=>
  unfold qA at h
  by_cases hy:y=0
  ·rw [if_pos hy] at h
   intro x hx
   rcases List.mem_cons.1 hx with rfl|hx
   ·exact hy
   exact ih h x hx
  rw [if_neg hy] at h;exact absurd h hy

def xC (n:Nat) (g:Nat→Int):Option (Int×Int):=((List.range n).find? fun i=>g i != 0).map fun i=>(g i,(i:Int))
theorem zI {n:Nat} {g:Nat→Int} (h:∀j,j<n→g j=0):xC n g=none:=by
 unfold xC
 rw [List.find?_eq_none.2]
 ·rfl
 intro i hi
 simp [h i (List.mem_range.1 hi)]
theorem vZ {n:Nat} {g:Nat→Int} (h:xC n g=none):∀j,j<n→g j=0:=by
 intro j hj
 unfold xC at h
 rw [Option.map_eq_none_iff,List.find?_eq_none] at h
 have:=h j (List.mem_range.2 hj)
 simpa using this
theorem Z7:∀(n k:Nat) (p:Nat→Bool),k<n→(∀j,j<k→p j=false)→p k=true→(List.range n).find? p=some k:=by
 intro n k p hk h0 h1
 rw [List.find?_eq_some_iff_append]
 refine ⟨h1,List.range k,(List.range (n - k - 1)).map (·+(k+1)),?_,fun a ha=>by simp [h0 a (List.mem_range.1 ha)]⟩
 apply List.ext_getElem
 ·simp;omega
 intro i h2 h3
 rw [List.getElem_range]
 rcases Nat.lt_trichotomy i k with g|g|g
 ·rw [List.getElem_append_left (by simpa using g)];simp
 ·subst g;rw [List.getElem_append_right (by simp)];simp
 rw [List.getElem_append_right (by simp;omega)]
 rw [List.getElem_cons]
 rw [dif_neg (by simp;omega)]
 simp;omega
theorem k5 {n k:Nat} {g:Nat→Int} (hk:k<n) (h0:∀j,j<k→g j=0) (h:g k≠0):xC n g=some (g k,(k:Int)):=by
 unfold xC
 rw [Z7 n k _ hk (fun j hj=>by simp [h0 j hj]) (by simpa using h)]
 rfl

def ZY (u:UniL) (k:Nat):Int:=(u.funcs.map (·.params)).getD k 0
def JM (f:FunL) (x:EndL):Int:=vY f.regs f.blocks.length x.kind x.onr x.onn x.to
def insL (u:UniL) (f:FunL) (x:InsL):Int:=jK f.regs u.funcs.length (ZY u) x.op x.dst x.an x.bn x.fn x.ar x.br x.args
def Xd (f:FunL) (block cnt:Nat) (x:PhiL):Int:=Zs f.regs block cnt x.dst x.src
def Q3 (f:FunL):List (List Int):=f.blocks.map fun b=>b.fin.to
def xr (f:FunL):List (Nat×Nat):=qT (Q3 f) f.blocks.length
def blkE (u:UniL) (f:FunL) (i:Nat) (b:BlkL):Int:=
 if qA (b.phis.map (Xd f i (qZ (xr f) i).length))=0 then qA (b.list.map (insL u f)) else qA (b.phis.map (Xd f i (qZ (xr f) i).length))
def XY (u:UniL) (f:FunL) (i:Nat):Int:=match f.blocks[i]? with|some b=>blkE u f i b|none=>0
def jL (u:UniL) (f:FunL):Int:=
 if qA (f.blocks.map fun b=>JM f b.fin)=0 then qA ((List.range f.blocks.length).map (XY u f)) else qA (f.blocks.map fun b=>JM f b.fin)

def xm (f:FunL):Nat:=(f.blocks.map fun b=>b.phis.length+b.list.length).sum
def jQ (names:List ByteArray) (f:FunL):Int:=
 if jO f.name=false then 12
 else if XR names f.name=true then 7
 else if ¬(0≤f.params∧f.params≤6)∨¬(f.params≤f.regs∧f.regs≤100) then 3
 else if ¬(1≤f.blocks.length∧f.blocks.length≤40)∨300<xm f then 2
 else 0
def j7 (u:UniL) (k:Nat):Int:=((u.globals.take k).map (·.size)).sum
def XZ (names:List ByteArray) (words:Int) (g:GloL):Int:=
 if jO g.name=false then 12
 else if XR names g.name=true then 7
 else if ¬(1≤g.size∧g.size≤200) then 3
 else if g.size<g.init.length then 9
 else if 200<words+g.size then 10
 else 0
def j8 (u:UniL) (k:Nat):List ByteArray:=(u.globals.take k).map (·.name)
def xO (u:UniL) (k:Nat):List ByteArray:=u.globals.map (·.name)++(u.funcs.take k).map (·.name)
def Xe (u:UniL) (i:Nat):Int:=match u.globals[i]? with|some g=>XZ (j8 u i) (j7 u i) g|none=>0
def kg (u:UniL) (i:Nat):Int:=match u.funcs[i]? with|some f=>jQ (xO u i) f|none=>0
def kH (u:UniL) (i:Nat):Int:=match u.funcs[i]? with|some f=>jL u f|none=>0
def kI (f:FunL):Bool:=f.name.toList == [109,97,105,110]
def mainAt (u:UniL):Option Nat:=(List.range u.funcs.length).find? fun i=>match u.funcs[i]? with|some f=>kI f|none=>false
def chkO (u:UniL):Option (Int×Int):=
 if 10<u.globals.length∨10<u.funcs.length then some (2,0)
 else match xC u.globals.length (Xe u) with
 | some r=>some r
 | none=>match xC u.funcs.length (kg u) with
 | some r=>some r
 | none=>match xC u.funcs.length (kH u) with
 | some r=>some r
 | none=>match mainAt u with
 | none=>some (6,0)
 | some m=>if 0<ZY u m then some (5,(m:Int)) else none
def chk (u:UniL):Int×Int:=(chkO u).getD (0,0)
end Go.Proofs.YtgjjhadbjmcnpaaGreatDoor
