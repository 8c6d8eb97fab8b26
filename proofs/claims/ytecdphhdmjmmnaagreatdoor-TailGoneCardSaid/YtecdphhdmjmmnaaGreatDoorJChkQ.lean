/-
  The contract of slices.IndexFunc with the question whether a function is main.
-/
import Derived.Test.YtecdphhdmjmmnaaGreatDoorJChkB
import Derived.IntWalk
set_option maxRecDepth 100000
set_option maxHeartbeats 16000000
namespace Go.Proofs.YtecdphhdmjmmnaaGreatDoor
open Go.RowKit

theorem qZ:∀{l:List Int},(∀x∈l,x=0)→qr l=0
 | [],_=>rfl
 | x::l,h=>by
  unfold qr
  rw[if_pos (h x List.mem_cons_self)]
  exact qZ (fun y hy=>h y (List.mem_cons_of_mem _ hy))
theorem jh:∀{l:List Int} {k:Nat} (hk:k<l.length),(∀j (hj:j<k),l[j]'(by omega)=0)→l[k]≠0→qr l=l[k]
 | x::l,0,_,_,h=>by
  unfold qr
  rw[if_neg (by simpa using h)];rfl
 | x::l,k+1,hk,h0,h=>by
  have hx:x=0:=h0 0 (by omega)
  unfold qr
  rw[if_pos hx]
  have:=jh (l:=l) (k:=k) (by simpa using hk) (fun j hj=>by have:=h0 (j+1) (by omega);simpa using this) (by simpa using h)
  simpa using this
theorem zX {l:List Int} (h:qr l=0):∀x∈l,x=0:=by
 induction l with
 | nil=>intro x hx;cases hx
 | cons y l ih=>
  unfold qr at h
  by_cases hy:y=0
  ·rw[if_pos hy]at h
   intro x hx
   rcases List.mem_cons.1 hx with rfl|hx
   ·exact hy
   exact ih h x hx
  rw[if_neg hy]at h;exact absurd h hy

def xq (n:Nat) (g:Nat→Int):Option (Int×Int):=((List.range n).find? fun i=>g i != 0).map fun i=>(g i,(i:Int))
theorem zi {n:Nat} {g:Nat→Int} (h:∀j,j<n→g j=0):xq n g=none:=by
 unfold xq
 rw[List.find?_eq_none.2]
 ·rfl
 intro i hi
 simp[h i (List.mem_range.1 hi)]
theorem vN {n:Nat} {g:Nat→Int} (h:xq n g=none):∀j,j<n→g j=0:=by
 intro j hj
 unfold xq at h
 rw[Option.map_eq_none_iff,List.find?_eq_none]at h
 have:=h j (List.mem_range.2 hj)
 simpa using this
theorem QT:∀(n k:Nat) (p:Nat→Bool),k<n→(∀j,j<k→p j=false)→p k=true→(List.range n).find? p=some k:=by
 intro n k p hk h0 h1
 rw[List.find?_eq_some_iff_append]
 refine⟨h1,List.range k,(List.range (n - k - 1)).map (·+(k+1)),?_,fun a ha=>by simp[h0 a (List.mem_range.1 ha)]⟩
 apply List.ext_getElem
 ·simp;omega
 intro i h2 h3
 rw[List.getElem_range]
 rcases Nat.lt_trichotomy i k with g|g|g
 ·rw[List.getElem_append_left (by simpa using g)];simp
 ·subst g;rw[List.getElem_append_right (by simp)];simp
 rw[List.getElem_append_right (by simp;omega)]
 rw[List.getElem_cons]
 rw[dif_neg (by simp;omega)]
 simp;omega
theorem vO {n k:Nat} {g:Nat→Int} (hk:k<n) (h0:∀j,j<k→g j=0) (h:g k≠0):xq n g=some (g k,(k:Int)):=by
 unfold xq
 rw[QT n k _ hk (fun j hj=>by simp[h0 j hj]) (by simpa using h)]
 rfl

def QP (u:UniL) (k:Nat):Int:=(u.funcs.map (·.params)).getD k 0
def JH (f:FunL) (x:EndL):Int:=vM f.regs f.blocks.length x.kind x.onr x.onn x.to
def insL (u:UniL) (f:FunL) (x:InsL):Int:=jF f.regs u.funcs.length (QP u) x.op x.dst x.an x.bn x.fn x.ar x.br x.args
def X2 (f:FunL) (block cnt:Nat) (x:PhiL):Int:=Zi f.regs block cnt x.dst x.src
def ku (f:FunL):List (List Int):=f.blocks.map fun b=>b.fin.to
def xe (f:FunL):List (Nat×Nat):=qG (ku f) f.blocks.length
def blkE (u:UniL) (f:FunL) (i:Nat) (b:BlkL):Int:=
 if qr (b.phis.map (X2 f i (qN (xe f) i).length))=0 then qr (b.list.map (insL u f))else qr (b.phis.map (X2 f i (qN (xe f) i).length))
def J0 (u:UniL) (f:FunL) (i:Nat):Int:=match f.blocks[i]? with|some b=>blkE u f i b|none=>0
def jG (u:UniL) (f:FunL):Int:=
 if qr (f.blocks.map fun b=>JH f b.fin)=0 then qr ((List.range f.blocks.length).map (J0 u f))else qr (f.blocks.map fun b=>JH f b.fin)

def z6 (f:FunL):Nat:=(f.blocks.map fun b=>b.phis.length+b.list.length).sum
def jK (names:List ByteArray) (f:FunL):Int:=
 if jI f.name=false then 12
 else if XU names f.name=true then 7
 else if ¬(0≤f.params∧f.params≤6)∨¬(f.params≤f.regs∧f.regs≤100)then 3
 else if ¬(1≤f.blocks.length∧f.blocks.length≤40)∨300<z6 f then 2
 else 0
def xS (u:UniL) (k:Nat):Int:=((u.globals.take k).map (·.size)).sum
def J1 (names:List ByteArray) (words:Int) (g:GloL):Int:=
 if jI g.name=false then 12
 else if XU names g.name=true then 7
 else if ¬(1≤g.size∧g.size≤200)then 3
 else if g.size<g.init.length then 9
 else if 200<words+g.size then 10
 else 0
def xT (u:UniL) (k:Nat):List ByteArray:=(u.globals.take k).map (·.name)
def xE (u:UniL) (k:Nat):List ByteArray:=u.globals.map (·.name)++(u.funcs.take k).map (·.name)
def X3 (u:UniL) (i:Nat):Int:=match u.globals[i]? with|some g=>J1 (xT u i) (xS u i) g|none=>0
def vX (u:UniL) (i:Nat):Int:=match u.funcs[i]? with|some f=>jK (xE u i) f|none=>0
def kv (u:UniL) (i:Nat):Int:=match u.funcs[i]? with|some f=>jG u f|none=>0
def kw (f:FunL):Bool:=f.name.toList == [109,97,105,110]
def mainAt (u:UniL):Option Nat:=(List.range u.funcs.length).find? fun i=>match u.funcs[i]? with|some f=>kw f|none=>false
def chkO (u:UniL):Option (Int×Int):=
 if 10<u.globals.length∨10<u.funcs.length then some (2,0)
 else match xq u.globals.length (X3 u) with
 | some r=>some r
 | none=>match xq u.funcs.length (vX u) with
 | some r=>some r
 | none=>match xq u.funcs.length (kv u) with
 | some r=>some r
 | none=>match mainAt u with
 | none=>some (6,0)
 | some m=>if 0<QP u m then some (5,(m:Int))else none
def chk (u:UniL):Int×Int:=(chkO u).getD (0,0)

theorem jZ (f:FunL) (i:Nat) (hi:i<f.blocks.length):(ku f).getD i []=f.blocks[i].fin.to:=by
 simp[ku,List.getD,hi]

theorem X4 {regs:Int} {nb:Nat} {kind:Int} {r:Bool} {n:Int} {to:List Int} (h:vM regs nb kind r n to=0):to.length≤2∧∀t∈to,1≤t∧t<nb:=by
 unfold vM at h
 by_cases a:1≤kind∧kind≤3
 ·rw[if_neg (by simpa using a)]at h
  by_cases b:(to.length:Int)=kind - 1
  ·rw[if_neg (by simpa using b)]at h
   by_cases c:to.any (fun t=>!zJ t 1 ((nb:Int) - 1))=true
   ·rw[if_pos c]at h;cases h
   refine⟨by omega,fun t ht=>?_⟩
   rw[List.any_eq_true]at c
   have hc:¬(!zJ t 1 ((nb:Int) - 1))=true:=fun hh=>c ⟨t,ht,hh⟩
   unfold zJ at hc
   simp at hc
   omega
  rw[if_pos (by simpa using b)]at h;cases h
 rw[if_pos (by simpa using a)]at h;cases h

theorem qd {w:World} {k:Nat} {A:Array Value} {T:TypeId} (h:w.heap[k]?=some (.cells A T (0,0))) (o:Nat) (v:Value):(w.setCell ⟨k,o,none⟩ v).heap[k]?=some (.cells (A.setIfInBounds o v) T (0,0)):=by
 simp[World.setCell,Array.getElem?_modify,h]
theorem Rows2.at {w:World} {B T n:Nat} {ts ti:TypeId} {ps:List (Nat×Nat)} {f:Nat→Value} (h:Rows2 w B T n ts ti ps f) {i:Nat} (hi:i<n):∃q c,w.cell? ⟨T,i,none⟩=some (.slice q (qN ps i).length c):=by
 have hc:=h.tab.cell hi
 rcases (h.row i hi).2 with⟨h1,h2⟩|⟨g,cap,cur,h1,_⟩
 ·rw[h1]at hc;exact⟨none,0,by rw[h2];exact hc⟩
 rw[h1]at hc;exact⟨_,_,hc⟩
theorem Qa {u:UniL} {f:FunL} {k:Nat} (hk:k<f.blocks.length):J0 u f k=blkE u f k f.blocks[k]:=by
 unfold J0
 rw[List.getElem?_eq_getElem hk]
theorem blkI_phi {u:UniL} {f:FunL} {k j:Nat} (hk:k<f.blocks.length) (hj:j<f.blocks[k].phis.length) (h0:∀i (h:i<f.blocks[k].phis.length),i<j→X2 f k (qN (xe f) k).length f.blocks[k].phis[i]=0)
  (h:X2 f k (qN (xe f) k).length f.blocks[k].phis[j]≠0):J0 u f k=X2 f k (qN (xe f) k).length f.blocks[k].phis[j]:=by
 rw[Qa hk]
 have hl:=jh (l:=f.blocks[k].phis.map (X2 f k (qN (xe f) k).length)) (k:=j) (by simpa using hj) (fun i hi=>by simpa using h0 i (by omega) hi) (by simpa using h)
 rw[List.getElem_map]at hl
 unfold blkE
 rw[hl,if_neg h]
theorem blkI_ins {u:UniL} {f:FunL} {k j:Nat} (hk:k<f.blocks.length) (hp:∀i (h:i<f.blocks[k].phis.length),X2 f k (qN (xe f) k).length f.blocks[k].phis[i]=0) (hj:j<f.blocks[k].list.length) (h0:∀i (h:i<f.blocks[k].list.length),i<j→insL u f f.blocks[k].list[i]=0)
  (h:insL u f f.blocks[k].list[j]≠0):J0 u f k=insL u f f.blocks[k].list[j]:=by
 rw[Qa hk]
 have hz:qr (f.blocks[k].phis.map (X2 f k (qN (xe f) k).length))=0:=qZ fun x hx=>by
  obtain⟨b,hb,rfl⟩:=List.mem_map.1 hx
  obtain⟨i,hi,rfl⟩:=List.mem_iff_getElem.1 hb
  exact hp i hi
 have hl:=jh (l:=f.blocks[k].list.map (insL u f)) (k:=j) (by simpa using hj) (fun i hi=>by simpa using h0 i (by omega) hi) (by simpa using h)
 rw[List.getElem_map]at hl
 unfold blkE
 rw[if_pos hz,hl]
theorem blkI_zero {u:UniL} {f:FunL} {k:Nat} (hk:k<f.blocks.length) (hp:∀i (h:i<f.blocks[k].phis.length),X2 f k (qN (xe f) k).length f.blocks[k].phis[i]=0) (h0:∀i (h:i<f.blocks[k].list.length),insL u f f.blocks[k].list[i]=0):J0 u f k=0:=by
 rw[Qa hk]
 have hz:qr (f.blocks[k].phis.map (X2 f k (qN (xe f) k).length))=0:=qZ fun x hx=>by
  obtain⟨b,hb,rfl⟩:=List.mem_map.1 hx
  obtain⟨i,hi,rfl⟩:=List.mem_iff_getElem.1 hb
  exact hp i hi
 unfold blkE
 rw[if_pos hz]
 exact qZ fun x hx=>by
  obtain⟨b,hb,rfl⟩:=List.mem_map.1 hx
  obtain⟨i,hi,rfl⟩:=List.mem_iff_getElem.1 hb
  exact h0 i hi
theorem X5 {u:UniL} {f:FunL} {k:Nat} {e:Int} (hA:qr (f.blocks.map fun b=>JH f b.fin)=0) (hk:k<f.blocks.length) (h0:∀j,j<k→J0 u f j=0) (h:J0 u f k=e) (he:e≠0):jG u f=e:=by
 unfold jG
 rw[if_pos hA]
 have hl:=jh (l:=(List.range f.blocks.length).map (J0 u f)) (k:=k) (by simpa using hk) (fun i hi=>by simpa using h0 i hi) (by simpa[h]using he)
 rw[hl]
 simpa using h
theorem Vs {u:UniL} {f:FunL} (hA:qr (f.blocks.map fun b=>JH f b.fin)=0) (h0:∀j,j<f.blocks.length→J0 u f j=0):jG u f=0:=by
 unfold jG
 rw[if_pos hA]
 exact qZ fun x hx=>by
  obtain⟨i,hi,rfl⟩:=List.mem_map.1 hx
  exact h0 i (List.mem_range.1 hi)
theorem parAt {w w':World} {u:UniL} {fp:Option Addr} (h:SliceAt w 4 (FunR w) fp u.funcs) (hb:Below w.heap.size w w'):u.funcs.length=0∨∃fb fo,fp=some ⟨fb,fo,none⟩∧∀i,i<u.funcs.length→w'.cell? ⟨fb,fo+i*4+1,none⟩=some (.int .i64 (QP u i)):=by
 rcases h with h0|⟨b,o,hp,h⟩
 ·exact .inl (by rw[h0];rfl)
 refine .inr ⟨b,o,hp,fun i hi=>?_⟩
 obtain⟨b2,o2,q,c,hp2,_,e1,_⟩:=vU (.inr ⟨b,o,hp,h⟩) hb hi
 rw[hp]at hp2
 cases hp2
 rw[e1]
 simp[QP,List.getD,hi]
theorem Ways.below {w w':World} (h:Ways w) (hb:Below w.heap.size w w'):Ways w':=by
 obtain⟨h0,h1,h2,h3⟩:=h
 have hl:=q8 h0
 exact⟨(hb.cell (p:=⟨0,_,none⟩) hl).trans h0,(hb.cell (p:=⟨0,_,none⟩) hl).trans h1,(hb.cell (p:=⟨0,_,none⟩) hl).trans h2,(hb.cell (p:=⟨0,_,none⟩) hl).trans h3⟩

theorem Zj {w w':World} {b o:Nat} {f:FunL} (h:SliceAt w 6 (BlkR w) (some ⟨b,o,none⟩) f.blocks) (hb:Below w.heap.size w w') (i:Nat) (hi:i<f.blocks.length):XZ w' b o i ((ku f).getD i []):=by
 obtain⟨b2,o2,q1,c1,q2,c2,q3,c3,hp,e0,e1,e2,e3,e4,e5,_,_,_,_,_,_,_,ht⟩:=zp h hb hi
 cases hp
 rw[jZ f i hi]
 exact⟨_,_,_,_,_,_,_,_,_,_,_,e0,e1,e2,e3,e4,e5,ht⟩

theorem body_any (u:UniL) (f:FunL) (g1 fp:Option Addr) (g2 g3 fc bc bb bo:Nat) (w:World)
  (h1:0≤f.regs) (h2:f.regs≤100) (hn1:1≤f.blocks.length) (hn2:f.blocks.length≤40)
  (hfl:u.funcs.length≤10) (hF:SliceAt w 4 (FunR w) fp u.funcs) (hb:SliceAt w 6 (BlkR w) (some ⟨bb,bo,none⟩) f.blocks) (hw0:Ways w) :
  Calls Tryz.prog 29 #[.agg #[.slice g1 g2 g3,.slice fp u.funcs.length fc,.string f.name,.int .i64 f.params,.int .i64 f.regs,.slice (some ⟨bb,bo,none⟩) f.blocks.length bc,.slice none 0 0]] w fun e w'=>e = .returned (.int .i64 (jG u f))∧Below w.heap.size w w':=by
 have HF:Hid (SliceAt w 4 (FunR w) fp u.funcs):=hF
 have HB:Hid (SliceAt w 6 (BlkR w) (some ⟨bb,bo,none⟩) f.blocks):=hb
 have HW:Hid (Ways w):=hw0
 clear hF hb hw0
 go_enter Tryz.func29,Tryz.ntmps29
 go_wp2
 go_loopw [18] (fun i wr=>∃k:Nat,k≤f.blocks.length∧i = .int .i64 k∧(∀j (h:j<f.blocks.length),j<k→JH f f.blocks[j].fin=0)∧Below (w.heap.size+1) (w.alloc (.cells #[.slice g1 g2 g3,.slice fp u.funcs.length fc,.string f.name,.int .i64 f.params,.int .i64 f.regs,.slice (some ⟨bb,bo,none⟩) f.blocks.length bc,.slice none 0 0] 73)) wr) (fun i _=>f.blocks.length - (intOf i).toNat)
 case atStart=>exact⟨0,by omega,rfl,fun j _ h=>by omega,Below.refl _ _⟩
 case round=>
  obtain⟨k,hk,rfl,hV,hb⟩:=hrel
  have HV:=q7 hV
  have HBw:=q7 hb
  have hbw:Below w.heap.size w wr:=((Below.refl _ _).alloc (Nat.le_refl _) _).trans (hb.mono (by omega))
  have HBx:=q7 hbw
  have hz:w.heap.size<wr.heap.size:=by have:=hb.size;simp at this;omega
  obtain⟨hcc,hcf⟩:=blk (qg hb (by omega) (qm _ _))
  clear hV hb hbw
  by_cases hlt:k<f.blocks.length
  ·obtain⟨b2,o2,q1,c1,q2,c2,q3,c3,hp,e0,e1,e2,e3,e4,e5,_,_,_,_,hl3,_,_,ht⟩:=zp HB.out HBx.out hlt
   cases hp
   have HT:=q7 ht
   have HE:Hid (JH f f.blocks[k].fin=vM f.regs f.blocks.length f.blocks[k].fin.kind f.blocks[k].fin.onr f.blocks[k].fin.onn f.blocks[k].fin.to):=rfl
   clear ht
   go_wp2_with fail
   refine(end_any _ _ _ _ _ _ _ _ _ _ _ _ _ _ _ _ _ _ _ _ _ _ (by omega) (by omega) (by omega) (by omega) ?_ ?_).mono ?_
   ·exact HT.out.mono ((Below.refl _ _).alloc (Nat.le_refl _) _) (by omega) fun _ _ h=>h
   ·exact HW.out.below (HBx.out.alloc (by omega) _)
   rintro e w3 ⟨rfl,hb3⟩
   have HN:Hid (Below (w.heap.size+1) (w.alloc (.cells #[.slice g1 g2 g3,.slice fp u.funcs.length fc,.string f.name,.int .i64 f.params,.int .i64 f.regs,.slice (some ⟨bb,bo,none⟩) f.blocks.length bc,.slice none 0 0] 73)) w3):=HBw.out.trans (((Below.refl _ _).alloc (by omega) _).trans (hb3.mono (by simp;omega)))
   generalize hE:vM f.regs f.blocks.length f.blocks[k].fin.kind f.blocks[k].fin.onr f.blocks[k].fin.onn f.blocks[k].fin.to=ee
   have HE2:Hid (JH f f.blocks[k].fin=ee):=hE
   clear hE HE hb3
   by_cases hz0:ee=0
   ·have hzb:(ee != 0)=false:=by simp[hz0]
    have HZ:=q7 hz0
    clear hz0
    go_wp2_with fail
    refine⟨⟨k+1,by omega,by go_num,fun j hj hjk=>?_,HN.out⟩,by simp[intOf];omega⟩
    by_cases hj2:j<k
    ·exact HV.out j hj hj2
    obtain rfl:j=k:=by omega
    rw[HE2.out];exact HZ.out
   have hzb:(ee != 0)=true:=by simp[hz0]
   have HZ:=q7 hz0
   clear hz0
   go_wp2_with fail
   go_ret
   refine⟨?_,(Below.trans ((Below.refl _ _).alloc (Nat.le_refl _) _) (HN.out.mono (by omega)))⟩
   have hl:qr (f.blocks.map fun b=>JH f b.fin)=ee:=by
    have:=jh (l:=f.blocks.map fun b=>JH f b.fin) (k:=k) (by simpa using hlt) (fun j hj=>by simpa using HV.out j (by omega) hj) (by simpa[HE2.out]using HZ.out)
    simpa[HE2.out]using this
   unfold jG
   rw[hl,if_neg HZ.out]
   rfl
  have HA:Hid (qr (f.blocks.map fun b=>JH f b.fin)=0):=by
   refine qZ fun x hx=>?_
   obtain⟨b,hb,rfl⟩:=List.mem_map.1 hx
   obtain⟨i,hi,rfl⟩:=List.mem_iff_getElem.1 hb
   exact HV.out i hi (by omega)
  have hcnt:∀i,(qN (xe f) i).length≤80:=by
   intro i
   have h1:=kY (xe f) i
   have h2:=vV (ku f) f.blocks.length f.blocks.length (Nat.le_refl _) (fun i hi=>by
    rw[jZ f i hi]
    exact(X4 (zX HA.out _ (List.mem_map.2 ⟨f.blocks[i],List.getElem_mem hi,rfl⟩))).1)
   unfold xe at h1 ⊢
   omega
  go_wp2_with fail
  refine(ahead_any _ _ _ _ _ _ _ (ku f) _ hn2 (fun i hi=>Zj HB.out HBx.out i hi) (fun i hi=>?_)).mono ?_
  ·rw[jZ f i hi]
   exact X4 (zX HA.out _ (List.mem_map.2 ⟨f.blocks[i],List.getElem_mem hi,rfl⟩))
  rintro e w2 ⟨⟨F,rfl,hR⟩,hb2⟩
  have hea:=qg hb2 hz (qg HBw.out (by omega) (qm w _))
  obtain⟨hjx,hjy⟩:=blk hea
  have HR:=q7 hR
  have HB2:=q7 hb2
  clear hR hb2 hcc hcf
  have hea:=q7 hea
  go_wp2_with fail
  obtain⟨W,hW⟩:∃W,w2.setCell ⟨w.heap.size,6,none⟩ (.slice (some ⟨wr.heap.size+1,0,none⟩) f.blocks.length f.blocks.length)=W:=⟨_,rfl⟩
  rw[hW]
  have hT:=HR.out.tab.lt
  have hWs:W.heap.size=w2.heap.size:=by rw[←hW];simp[World.setCell]
  have hWB:Hid (Below w.heap.size w W):=by
   rw[←hW]
   exact(HBx.out.trans (HB2.out.mono (by omega))).setCell (Nat.le_refl _) _
  have hWc:Hid (W.heap[w.heap.size]?=some (.cells #[.slice g1 g2 g3,.slice fp u.funcs.length fc,.string f.name,.int .i64 f.params,.int .i64 f.regs,.slice (some ⟨bb,bo,none⟩) f.blocks.length bc,.slice (some ⟨wr.heap.size+1,0,none⟩) f.blocks.length f.blocks.length] 73)):=by
   rw[←hW]
   exact qd hea.out 6 _
  have hWr:Hid (∀i,i<f.blocks.length→∃q c,W.cell? ⟨wr.heap.size+1,i,none⟩=some (.slice q (qN (xe f) i).length c)):=by
   intro i hi
   obtain⟨q,c,hc⟩:=HR.out.at hi
   rw[←hW]
   exact⟨q,c,by rw[World.cell?_of_block (Below.heap_setCell _ _ _ _ (by show wr.heap.size+1≠w.heap.size;omega))];exact hc⟩
  have hzW:w.heap.size<W.heap.size:=by omega
  clear hW HR HB2 hjx hjy hea HBw HBx HV
  generalize wr.heap.size+1=T at hT hWc hWr ⊢
  go_loopw [38] (fun i wr=>∃k:Nat,k≤f.blocks.length∧i = .int .i64 k∧(∀j,j<k→J0 u f j=0)∧Below W.heap.size W wr) (fun i _=>f.blocks.length - (intOf i).toNat)
  case atStart=>exact⟨0,by omega,rfl,fun j h=>by omega,Below.refl _ _⟩
  case round=>
   obtain⟨wo,hwo⟩:∃wo:World,wo=wr:=⟨_,rfl⟩
   obtain⟨k,hk,rfl,hV,hb⟩:=hrel
   have HV:=q7 hV
   have HBo:=q7 hb
   have hzo:w.heap.size<wr.heap.size:=by have:=hb.size;omega
   have hnA:W.heap.size≤wr.heap.size:=hb.size
   have HBx:Hid (Below w.heap.size w wr):=hWB.out.trans (hb.mono (by omega))
   have hco:=qg hb hzW hWc.out
   obtain⟨hcc,hcf⟩:=blk hco
   have HCo:=q7 hco
   clear hV hb hco
   by_cases hlt:k<f.blocks.length
   rotate_left
   ·go_wp2
    go_ret
    refine⟨?_,HBx.out⟩
    rw[Vs HA.out (fun j hj=>HV.out j (by omega))]
    rfl
   obtain⟨b2,o2,q1,c1,q2,c2,q3,c3,hp,e0,e1,e2,e3,e4,e5,_,_,hl1,hl2,hl3,hph,hins,_⟩:=zp HB.out HBx.out hlt
   cases hp
   have HPH:=q7 hph
   have HIN:=q7 hins
   clear hph hins
   go_wp2_with fail
   subst hwo
   go_loopw [46] (fun i wq=>∃j:Nat,j≤f.blocks[k].phis.length∧i = .int .i64 j∧(∀i (h:i<f.blocks[k].phis.length),i<j→X2 f k (qN (xe f) k).length f.blocks[k].phis[i]=0)∧Below (wo.heap.size+1) (wo.alloc (.cells #[.slice q1 f.blocks[k].phis.length c1,.slice q2 f.blocks[k].list.length c2,.int .i64 f.blocks[k].fin.kind,.bool f.blocks[k].fin.onr,.int .i64 f.blocks[k].fin.onn,.slice q3 f.blocks[k].fin.to.length c3] 48)) wq) (fun i _=>f.blocks[k].phis.length - (intOf i).toNat)
   case atStart=>exact⟨0,by omega,rfl,fun j _ h=>by omega,Below.refl _ _⟩
   case round=>
    obtain⟨j,hj,rfl,hV,hb⟩:=hrel
    have HVp:=q7 hV
    have HBp:=q7 hb
    have hzp:wo.heap.size<wr.heap.size:=by have:=hb.size;simp at this;omega
    have HBy:Hid (Below wo.heap.size wo wr):=((Below.refl _ _).alloc (Nat.le_refl _) _).trans (hb.mono (by omega))
    have hzq:w.heap.size<wr.heap.size:=by omega
    clear hcc hcf
    obtain⟨hcc,hcf⟩:=blk (qg HBy.out hzo HCo.out)
    obtain⟨haS,haT⟩:=blk (qg hb (by omega) (qm wo _))
    clear hV hb
    by_cases hjl:j<f.blocks[k].phis.length
    ·obtain⟨b4,o4,q4,c4,hp4,d0,d1,_,hl4,hsr⟩:=phiGet HPH.out HBy.out hjl
     subst hp4
     have HSR:=q7 hsr
     obtain⟨q5,c5,hq5⟩:=hWr.out k hlt
     have HQ5:=q7 hq5
     clear hsr hq5
     have HE:Hid (X2 f k (qN (xe f) k).length f.blocks[k].phis[j]=Zi f.regs k (qN (xe f) k).length f.blocks[k].phis[j].dst f.blocks[k].phis[j].src):=rfl
     go_wp2_with fail
     refine(phi_any _ _ _ _ T 0 _ _ _ _ _ _ _ _ _ _ (qN (xe f) k).length c5 q5 _ _ _ _ _ _ (by omega) (by omega) ?_ ?_ ?_ ?_ ?_ ?_).mono ?_
     ·exact hlt
     ·omega
     ·omega
     ·have:=hcnt k;omega
     ·rw[Nat.zero_add,World.cell?_of_block (Below.heap_alloc _ _ _ (by show T<_;have:=HBy.out.size;omega)),HBy.out.cell (p:=⟨T,k,none⟩) (by show T<_;omega)]
      exact(HBo.out.cell (p:=⟨T,k,none⟩) (by show T<_;omega)).trans HQ5.out
     ·exact HSR.out.mono ((Below.refl _ _).alloc (Nat.le_refl _) _) (by omega) fun _ _ h=>h
     rintro e w3 ⟨rfl,hb3⟩
     generalize hE:Zi f.regs k (qN (xe f) k).length f.blocks[k].phis[j].dst f.blocks[k].phis[j].src=ee
     have HE2:Hid (X2 f k (qN (xe f) k).length f.blocks[k].phis[j]=ee):=hE
     have HN:Hid (Below (wo.heap.size+1) (wo.alloc (.cells #[.slice (some ⟨b4,o4,none⟩) f.blocks[k].phis.length c1,.slice q2 f.blocks[k].list.length c2,.int .i64 f.blocks[k].fin.kind,.bool f.blocks[k].fin.onr,.int .i64 f.blocks[k].fin.onn,.slice q3 f.blocks[k].fin.to.length c3] 48)) w3):=HBp.out.trans (((Below.refl _ _).alloc (by omega) _).trans (hb3.mono (by simp;omega)))
     clear hE HE hb3
     by_cases hz0:ee=0
     ·have hzb:(ee != 0)=false:=by simp[hz0]
      have HZ:=q7 hz0
      clear hz0
      go_wp2_with fail
      refine⟨⟨j+1,by omega,by go_num,fun i hi hij=>?_,HN.out⟩,by simp[intOf];omega⟩
      by_cases hj2:i<j
      ·exact HVp.out i hi hj2
      obtain rfl:i=j:=by omega
      rw[HE2.out];exact HZ.out
     have hzb:(ee != 0)=true:=by simp[hz0]
     have HZ:=q7 hz0
     clear hz0
     go_wp2_with fail
     go_ret
     refine⟨?_,HBx.out.trans (Below.trans ((Below.refl _ _).alloc (by omega) _) (HN.out.mono (by omega)))⟩
     rw[X5 HA.out hlt HV.out (blkI_phi hlt hjl (fun i hi hij=>HVp.out i hi hij) (by rw[HE2.out];exact HZ.out)) (by rw[HE2.out];exact HZ.out),HE2.out]
     rfl
    have HP0:Hid (∀i (h:i<f.blocks[k].phis.length),X2 f k (qN (xe f) k).length f.blocks[k].phis[i]=0):=fun i hi=>HVp.out i hi (by omega)
    clear HVp
    go_wp2_with fail
    go_loopw [61] (fun i wq=>∃j:Nat,j≤f.blocks[k].list.length∧i = .int .i64 j∧(∀i (h:i<f.blocks[k].list.length),i<j→insL u f f.blocks[k].list[i]=0)∧Below wr.heap.size wr wq) (fun i _=>f.blocks[k].list.length - (intOf i).toNat)
    case atStart=>exact⟨0,by omega,rfl,fun j _ h=>by omega,Below.refl _ _⟩
    case round=>
     obtain⟨wv,hwv⟩:∃wv:World,wv=wr:=⟨_,rfl⟩
     clear hcc hcf haS haT
     obtain⟨j2,hj2,rfl,hV,hb⟩:=hrel
     have HVi:=q7 hV
     have HBi:=q7 hb
     have HBz:Hid (Below wo.heap.size wo wr):=HBy.out.trans (hb.mono HBy.out.size)
     have hzs:wo.heap.size≤wr.heap.size:=HBz.out.size
     have hqF:w.heap.size<wr.heap.size:=by omega
     obtain⟨hcc,hcf⟩:=blk (qg HBz.out hzo HCo.out)
     clear hV hb
     by_cases hjA:j2<f.blocks[k].list.length
     rotate_left
     ·go_wp2_with fail
      refine⟨⟨k+1,by omega,by go_num,fun i hi=>?_,HBo.out.trans (HBz.out.mono hnA)⟩,by simp[intOf];omega⟩
      by_cases hj3:i<k
      ·exact HV.out i hj3
      obtain rfl:i=k:=by omega
      exact blkI_zero hlt HP0.out (fun i hi=>HVi.out i hi (by omega))
     obtain⟨b4,o4,q4,c4,hp4,d0,d1,d2,d3,d4,d5,d6,d7,_,_,_,_,_,hl4,hsr⟩:=QS HIN.out HBz.out hjA
     subst hp4
     have HSR:=q7 hsr
     clear hsr
     have HE:Hid (insL u f f.blocks[k].list[j2]=jF f.regs u.funcs.length (QP u) f.blocks[k].list[j2].op f.blocks[k].list[j2].dst f.blocks[k].list[j2].an f.blocks[k].list[j2].bn f.blocks[k].list[j2].fn f.blocks[k].list[j2].ar f.blocks[k].list[j2].br f.blocks[k].list[j2].args):=rfl
     subst hwv
     go_wp2_with fail
     refine(ins_any _ _ _ _ _ _ _ _ _ _ _ _ _ _ _ _ _ _ _ _ _ _ _ _ (QP u) _ _ (by omega) (by omega) (by omega) ?_ ?_ ?_).mono ?_
     ·exact parAt HF.out (HBx.out.trans ((HBz.out.mono (by omega)).trans ((Below.refl _ _).alloc (by omega) _)))
     ·omega
     ·exact HSR.out.mono ((Below.refl _ _).alloc (Nat.le_refl _) _) (by omega) fun _ _ h=>h
     rintro e w3 ⟨rfl,hb3⟩
     generalize hE:jF f.regs u.funcs.length (QP u) f.blocks[k].list[j2].op f.blocks[k].list[j2].dst f.blocks[k].list[j2].an f.blocks[k].list[j2].bn f.blocks[k].list[j2].fn f.blocks[k].list[j2].ar f.blocks[k].list[j2].br f.blocks[k].list[j2].args=ee
     have HE2:Hid (insL u f f.blocks[k].list[j2]=ee):=hE
     have HN:Hid (Below wv.heap.size wv w3):=((Below.refl _ _).alloc (Nat.le_refl _) _).trans (hb3.mono (by simp))
     clear hE HE hb3
     by_cases hz0:ee=0
     ·have hzb:(ee != 0)=false:=by simp[hz0]
      have HZ:=q7 hz0
      clear hz0
      go_wp2_with fail
      refine⟨⟨j2+1,by omega,by go_num,fun i hi hij=>?_,HBi.out.trans (HN.out.mono HBi.out.size)⟩,by simp[intOf];omega⟩
      by_cases hj3:i<j2
      ·exact HVi.out i hi hj3
      obtain rfl:i=j2:=by omega
      rw[HE2.out];exact HZ.out
     have hzb:(ee != 0)=true:=by simp[hz0]
     have HZ:=q7 hz0
     clear hz0
     go_wp2_with fail
     go_ret
     refine⟨?_,HBx.out.trans ((HBz.out.trans (HN.out.mono hzs)).mono (by omega))⟩
     rw[X5 HA.out hlt HV.out (blkI_ins hlt HP0.out hjA (fun i hi hij=>HVi.out i hi hij) (by rw[HE2.out];exact HZ.out)) (by rw[HE2.out];exact HZ.out),HE2.out]
     rfl

def j9 (f:FunL) (k:Nat):Nat:=((f.blocks.take k).map fun b=>b.phis.length+b.list.length).sum
theorem vP (f:FunL) (k:Nat) (hk:k<f.blocks.length):j9 f (k+1)=j9 f k+(f.blocks[k].phis.length+f.blocks[k].list.length):=by
 unfold j9
 rw[List.take_succ_eq_append_getElem hk,List.map_append,List.sum_append]
 simp
theorem kx (f:FunL):j9 f f.blocks.length=z6 f:=by
 unfold j9 z6
 rw[List.take_length]


theorem v8 {w w':World} {p:Option Addr} {S:List ByteArray} (h:vW w p S) (hb:Below w.heap.size w w'):vW w' p S:=by
 rcases h with h|⟨b,o,hp,h⟩
 ·exact .inl h
 exact .inr ⟨b,o,hp,fun i hi=>(hb.cell (p:=⟨b,o+i,none⟩) (q8 (h i hi))).trans (h i hi)⟩

theorem head_any (f:FunL) (names:List ByteArray) (g1 fp bp np:Option Addr) (g2 g3 fl fc bc nc:Nat) (w:World)
  (hs:f.name.size≤maxLen) (hr1:I64 f.params) (hr2:I64 f.regs) (hbl:f.blocks.length*96≤140737488351232) (hb:SliceAt w 6 (BlkR w) bp f.blocks) (hnl:names.length≤9223372036854775807) (hN:vW w np names) :
  Calls Tryz.prog 28 #[.agg #[.slice g1 g2 g3,.slice fp fl fc,.string f.name,.int .i64 f.params,.int .i64 f.regs,.slice bp f.blocks.length bc,.slice none 0 0],.slice np names.length nc] w fun e w'=>e = .returned (.int .i64 (jK names f))∧Below w.heap.size w w':=by
 have HB:=q7 hb
 have HN:=q7 hN
 obtain⟨hp1,hp2⟩:=hr1
 obtain⟨hp3,hp4⟩:=hr2
 clear hb hN
 go_enter Tryz.func28,Tryz.ntmps28
 go_wp2
 go_loopw [5,12] (fun m i wr=>∃(k:Nat) (x:Int),k≤f.blocks.length∧i = .int .i64 k∧m = .int .i64 x∧(f.blocks.length≤40→x=j9 f k∧j9 f k≤k*10000000000000)∧Below (w.heap.size+1) (w.alloc (.cells #[.slice g1 g2 g3,.slice fp fl fc,.string f.name,.int .i64 f.params,.int .i64 f.regs,.slice bp f.blocks.length bc,.slice none 0 0] 73)) wr) (fun _ i _=>f.blocks.length - (intOf i).toNat)
 case atStart=>exact⟨0,0,by omega,rfl,rfl,fun _=>by simp[j9],Below.refl _ _⟩
 case round=>
  obtain⟨k,x,hk,rfl,rfl,hV,hb⟩:=hrel
  have HV:=q7 hV
  have HBw:=q7 hb
  have HBx:Hid (Below w.heap.size w wr):=((Below.refl _ _).alloc (Nat.le_refl _) _).trans (hb.mono (by omega))
  have hz:w.heap.size<wr.heap.size:=by have:=hb.size;simp at this;omega
  obtain⟨hcc,hcf⟩:=blk (qg hb (by omega) (qm w _))
  clear hV hb
  by_cases hlt:k<f.blocks.length
  ·obtain⟨b2,o2,q1,c1,q2,c2,q3,c3,hp,e0,e1,e2,e3,e4,e5,_,_,hl1,hl2,_,_,_,_⟩:=zp HB.out HBx.out hlt
   subst hp
   go_wp2
   refine⟨⟨k+1,_,by omega,by go_num,rfl,fun h40=>?_,HBw.out.alloc (by omega) _⟩,by simp[intOf];omega⟩
   obtain⟨h1,h2⟩:=HV.out h40
   rw[vP f k hlt]
   refine⟨?_,by omega⟩
   rw[IntWalk.wrap64_in _ ⟨by omega,by omega⟩,h1]
   omega
  have HM:Hid (f.blocks.length≤40→x=z6 f):=by
   intro h
   have:=(HV.out h).1
   rw[show k=f.blocks.length by omega,kx]at this
   exact this
  clear HV
  have HW:=q7 (HN.out)
  cases hnb:jI f.name
  ·have HE:Hid (jK names f=12):=by show _=_;unfold jK;rw[if_pos hnb]
   go_wp2_with (go_at_call 25;refine(kX _ _ hs).mono ?_;rintro e w1 ⟨rfl,rfl⟩)
   go_ret
   exact⟨by rw[HE.out];rfl,HBx.out⟩
  cases hhb:XU names f.name
  rotate_left
  ·have HE:Hid (jK names f=7):=by show _=_;unfold jK;rw[if_neg (by simp[hnb]),if_pos hhb]
   go_wp2_with (first|(go_at_call 25;refine(kX _ _ hs).mono ?_;rintro e w1 ⟨rfl,rfl⟩)|(go_at_call 26;refine(jJ _ _ _ _ _ hnl (v8 HW.out HBx.out)).mono ?_;rintro e w1 ⟨rfl,rfl⟩))
   go_ret
   exact⟨by rw[HE.out];rfl,HBx.out⟩
  have HE1:Hid (jK names f=if ¬(0≤f.params∧f.params≤6)∨¬(f.params≤f.regs∧f.regs≤100)then 3 else if ¬(1≤f.blocks.length∧f.blocks.length≤40)∨300<z6 f then 2 else 0):=by show _=_;unfold jK;rw[if_neg (by simp[hnb]),if_neg (by simp[hhb])]
  go_wp2_with (first|(go_at_call 25;refine(kX _ _ hs).mono ?_;rintro e w1 ⟨rfl,rfl⟩)|(go_at_call 26;refine(jJ _ _ _ _ _ hnl (v8 HW.out HBx.out)).mono ?_;rintro e w1 ⟨rfl,rfl⟩)|(go_at_call 27;refine(qC _ _ _ _).mono ?_;rintro e w1 ⟨rfl,rfl⟩))
  all_goals
   go_ret
   refine⟨?_,HBx.out⟩
   rw[HE1.out]
   refine congrArg (fun n=>Ending.returned (.int .i64 n)) ?_
   clear HE1 HB HN HW HBw HBx hcc hcf
   have HM2:=HM.out
   clear HM
   simp only[zJ,decide_eq_true_eq,decide_eq_false_iff_not,Bool.not_eq_eq_eq_not,Bool.not_true,Bool.not_false]at *
   first|(rw[if_pos (by omega)])|(rw[if_neg (by omega),if_pos (by omega)])|(rw[if_neg (by omega),if_neg (by omega)])|trace_state

theorem Vt (nm:ByteArray) (params regs:Int) (bp:Option Addr) (bl bc:Nat) (w:World) :
  Calls Tryz.prog 31 #[.agg #[.string nm,.int .i64 params,.int .i64 regs,.slice bp bl bc]] w fun e w'=>e = .returned (.bool (nm.toList == [109,97,105,110]))∧Below w.heap.size w w':=by
 go_enter Tryz.func31,Tryz.ntmps31
 go_wp2
 go_ret
 exact⟨rfl,by exact bZ⟩

def vA (xs:List FunL):Option Nat:=(List.range xs.length).find? fun i=>match xs[i]? with|some f=>kw f|none=>false
theorem mainI_hit {xs:List FunL} {k:Nat} (hk:k<xs.length) (h0:∀j (h:j<xs.length),j<k→kw xs[j]=false) (h:kw xs[k]=true):vA xs=some k:=by
 unfold vA
 refine QT _ _ _ hk (fun j hj=>?_) ?_
 ·rw[List.getElem?_eq_getElem (by omega)];exact h0 j (by omega) hj
 rw[List.getElem?_eq_getElem hk];exact h
theorem Vu {xs:List FunL} (h0:∀j (h:j<xs.length),kw xs[j]=false):vA xs=none:=by
 unfold vA
 rw[List.find?_eq_none]
 intro i hi
 have hi:=List.mem_range.1 hi
 rw[List.getElem?_eq_getElem hi]
 simp[h0 i hi]
def optI (o:Option Nat):Int:=match o with|some k=>(k:Int)|none=>-1

theorem Zk (xs:List FunL) (fp:Option Addr) (fc:Nat) (w:World) (hl:xs.length≤9223372036854775807) (hF:SliceAt w 4 (FunR w) fp xs) :
  Calls Tryz.prog 30 #[.slice fp xs.length fc,.func (.func 31) #[] #[]] w fun e w'=>e = .returned (.int .i64 (optI (vA xs)))∧Below w.heap.size w w':=by
 have HF:=q7 hF
 clear hF
 go_enter Tryz.func30,Tryz.ntmps30
 go_wp2
 go_loopw [8] (fun i wr=>∃k:Nat,k≤xs.length∧i = .int .i64 k∧(∀j (h:j<xs.length),j<k→kw xs[j]=false)∧Below w.heap.size w wr) (fun i _=>xs.length - (intOf i).toNat)
 case atStart=>exact⟨0,by omega,rfl,fun j _ h=>by omega,Below.refl _ _⟩
 case round=>
  obtain⟨k,hk,rfl,hV,hb⟩:=hrel
  have HV:=q7 hV
  have HBw:=q7 hb
  clear hV hb
  by_cases hlt:k<xs.length
  rotate_left
  ·go_wp2_with fail
   go_ret
   refine⟨?_,HBw.out⟩
   rw[Vu (fun j hj=>HV.out j hj (by omega))]
   rfl
  obtain⟨b,o,q,c,hp,e0,e1,e2,e3,_⟩:=vU HF.out HBw.out hlt
  subst hp
  go_wp2_with fail
  refine(Vt _ _ _ _ _ _ _).mono ?_
  rintro e w3 ⟨rfl,hb3⟩
  have HB3:=q7 hb3
  have HE:Hid (kw xs[k]=(xs[k].name.toList == [109,97,105,110])):=rfl
  clear hb3
  cases hm:(xs[k].name.toList == [109,97,105,110])
  ·have HM:Hid (kw xs[k]=false):=HE.out.trans hm
   clear hm
   go_wp2_with fail
   refine⟨⟨k+1,by omega,by go_num,fun j hj hjk=>?_,HBw.out.trans (HB3.out.mono HBw.out.size)⟩,by simp[intOf];omega⟩
   by_cases hj2:j<k
   ·exact HV.out j hj hj2
   obtain rfl:j=k:=by omega
   exact HM.out
  have HM:Hid (kw xs[k]=true):=HE.out.trans hm
  clear hm
  go_wp2_with fail
  go_ret
  refine⟨?_,HBw.out.trans (HB3.out.mono HBw.out.size)⟩
  rw[mainI_hit hlt HV.out HM.out]
  rfl
end Go.Proofs.YtecdphhdmjmmnaaGreatDoor
