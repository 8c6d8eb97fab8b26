/-
  The contract of the checker's body.
-/
import Derived.Maps.AppendAt
import Derived.Test.YtbnnhmcloecijaaGreatDoorJChkL
set_option maxRecDepth 100000
set_option maxHeartbeats 16000000
namespace Go.Proofs.YtbnnhmcloecijaaGreatDoor
open Go.RowKit

theorem ZK:Tryz.prog.underlying 41=some (.slice 3):=by kernel_rfl
theorem V3:Tryz.prog.underlying 102=some (.slice 41):=by kernel_rfl
theorem K5:(Tryz.prog.info? 3).map (fun i=>(i.zero,i.size,i.bytes))=some (some (.int .i64 0),1,8):=by kernel_rfl
theorem y6:(Tryz.prog.info? 41).map (fun i=>(i.zero,i.size,i.bytes))=some (some (.slice none 0 0),1,24):=by kernel_rfl

def V4 (w:World) (b o i:Nat) (to:List Int):Prop:=
 ∃p1 l1 c1 p2 l2 c2 k r m p c,w.cell? ⟨b,o+i*6,none⟩=some (.slice p1 l1 c1)∧w.cell? ⟨b,o+i*6+1,none⟩=some (.slice p2 l2 c2)∧w.cell? ⟨b,o+i*6+2,none⟩=some (.int .i64 k)∧
  w.cell? ⟨b,o+i*6+3,none⟩=some (.bool r)∧w.cell? ⟨b,o+i*6+4,none⟩=some (.int .i64 m)∧w.cell? ⟨b,o+i*6+5,none⟩=some (.slice p to.length c)∧SliceAt w 1 kh p to

theorem ahead_any (nm:ByteArray) (params regs:Int) (bb bo bc n:Nat) (TS:List (List Int)) (w:World) (hn:n≤40)
  (hB:∀i,i<n→V4 w bb bo i (TS.getD i []))
  (hE:∀i,i<n→(TS.getD i []).length≤2∧∀t∈TS.getD i [],1≤t∧t<n) :
  Calls Tryz.prog 95 #[.agg #[.string nm,.int .i64 params,.int .i64 regs,.slice (some ⟨bb,bo,none⟩) n bc]] w fun e w'=>
   (∃f:Nat→Value,e = .returned (.slice (some ⟨w.heap.size+1,0,none⟩) n n)∧Rows2 w' (w.heap.size+1+1) (w.heap.size+1) n 41 3 (qQ TS n) f)∧Below w.heap.size w w':=by
 obtain ⟨i1,k1,k2,k3,k4⟩:=info_parts K5
 obtain ⟨i2,l1,l2,l3,l4⟩:=info_parts y6
 have hmk:=run_make_row 102 41 i2 (.slice none 0 0) V3 l1 l2 l3 rfl .i64 .i64 n (by rw [l4];omega) (by omega)
 have HB:Hid (∀i,i<n→V4 w bb bo i (TS.getD i [])):=hB
 have HE:Hid (∀i,i<n→(TS.getD i []).length≤2∧∀t∈TS.getD i [],1≤t∧t<n):=hE
 clear hB hE
 go_enter Tryz.func95,Tryz.ntmps95
 go_wp2
 go_loopw [15] (fun i wr=>∃k:Nat,k≤n∧i = .int .i64 k∧(∃f,Rows2 wr (w.heap.size+1+1) (w.heap.size+1) n 41 3 (qQ TS k) f)∧Below w.heap.size w wr) (fun i _=>n - (intOf i).toNat)
 case atStart=>exact ⟨0,by omega,rfl,⟨_,by have:=Rows2.made (w.alloc (.cells #[.string nm,.int .i64 params,.int .i64 regs,.slice (some ⟨bb,bo,none⟩) n bc] 36)) n 41 3;simpa [qQ] using this⟩,by exact bZ⟩
 case round=>
  obtain ⟨k,hk,rfl,⟨f,hR⟩,hb⟩:=hrel
  have HBw:Hid (Below w.heap.size w wr):=hb
  have HR:Hid (Rows2 wr (w.heap.size+1+1) (w.heap.size+1) n 41 3 (qQ TS k) f):=hR
  have hsz:w.heap.size+1<wr.heap.size:=hR.tab.lt
  clear hb hR
  by_cases hlt:k<n
  rotate_left
  ·go_wp2
   go_ret
   obtain rfl:k=n:=by omega
   exact ⟨⟨f,rfl,HR.out⟩,HBw.out⟩
  obtain ⟨p1,m1,c1,p2,m2,c2,kk,r,m,p,c,e0,e1,e2,e3,e4,e5,hto⟩:=HB.out k hlt
  have hbb:=qd e0
  rw [←HBw.out.cell (p:=⟨bb,bo+k*6,none⟩) hbb] at e0
  rw [←HBw.out.cell (p:=⟨bb,bo+k*6+1,none⟩) hbb] at e1
  rw [←HBw.out.cell (p:=⟨bb,bo+k*6+2,none⟩) hbb] at e2
  rw [←HBw.out.cell (p:=⟨bb,bo+k*6+3,none⟩) hbb] at e3
  rw [←HBw.out.cell (p:=⟨bb,bo+k*6+4,none⟩) hbb] at e4
  rw [←HBw.out.cell (p:=⟨bb,bo+k*6+5,none⟩) hbb] at e5
  obtain ⟨hl2,hts⟩:=HE.out k hlt
  have HTO:Hid (SliceAt w 1 kh p (TS.getD k [])):=hto
  have HTS:Hid (∀t∈TS.getD k [],1≤t∧t<n):=hts
  clear hto hts
  generalize hto:TS.getD k []=to at *
  have HK:Hid (TS.getD k []=to):=hto
  clear hto
  go_wp2
  go_loopw [24] (fun i wq=>∃j:Nat,j≤to.length∧i = .int .i64 j∧(∃f,Rows2 wq (w.heap.size+1+1) (w.heap.size+1) n 41 3 (qQ TS k++(to.map fun t=>(t.toNat,k)).take j) f)∧Below w.heap.size w wq) (fun i _=>to.length - (intOf i).toNat)
  case atStart=>exact ⟨0,by omega,rfl,⟨f,by simpa using HR.out.alloc _⟩,by have:=HBw.out;exact this.alloc (by omega) _⟩
  case round=>
   clear HR HBw e0 e1 e2 e3 e4 e5
   obtain ⟨j,hj,rfl,⟨f,hR⟩,hb⟩:=hrel
   have HBw:Hid (Below w.heap.size w wr):=hb
   have HR:Hid (Rows2 wr (w.heap.size+1+1) (w.heap.size+1) n 41 3 (qQ TS k++(to.map fun t=>(t.toNat,k)).take j) f):=hR
   have hsz:w.heap.size+1<wr.heap.size:=hR.tab.lt
   clear hb hR
   by_cases hjl:j<to.length
   rotate_left
   ·go_wp2
    obtain rfl:j=to.length:=by omega
    refine ⟨⟨k+1,by omega,by go_num,⟨f,?_⟩,HBw.out⟩,by simp [intOf];omega⟩
    have HR2:=HR.out
    rw [List.take_of_length_le (by simp)] at HR2
    unfold qQ
    rw [HK.out]
    exact HR2
   obtain ⟨t,ht⟩:∃t:Nat,to[j]=(t:Int):=⟨to[j].toNat,by have:=(HTS.out _ (zP hjl)).1;omega⟩
   have htn:t<n:=by have:=(HTS.out _ (zP hjl)).2;omega
   obtain ⟨tb,tof,hp,htc⟩:∃tb tof,p=some ⟨tb,tof,none⟩∧wr.cell? ⟨tb,tof+j,none⟩=some (.int .i64 t):=by
    rcases HTO.out with h0|⟨tb,tof,hp,hc⟩
    ·rw [h0] at hjl;simp at hjl
    refine ⟨tb,tof,hp,?_⟩
    obtain ⟨cs,_,hc,⟨rfl,_⟩⟩:=hc j hjl
    have h2:=hc 0 (by omega)
    simp only [Nat.mul_one,yJ,zB] at h2
    rw [HBw.out.cell (p:=⟨tb,tof+j,none⟩) (qd h2),h2,ht]
   subst hp
   have hrow:=HR.out.row t htn
   obtain ⟨q,qc,hq⟩:∃q qc,f t = .slice q (qU (qQ TS k++(to.map fun t=>(t.toNat,k)).take j) t).length qc:=by
    rcases hrow.2 with ⟨h1,h2⟩|⟨g,cap,cur,h1,_⟩
    ·refine ⟨none,0,?_⟩
     rw [h1,h2]
    exact ⟨_,_,h1⟩
   have HQ:Hid (f t = .slice q (qU (qQ TS k++(to.map fun t=>(t.toNat,k)).take j) t).length qc):=hq
   have hfc:=HR.out.tab.cell htn
   have hff:=HR.out.tab.frozen t
   rw [hq] at hfc hrow
   clear hq
   have HT:Hid (to[j]?=some (t:Int)):=by show _=_;rw [zj hjl,ht]
   clear ht
   have hm2:(qU (qQ TS k++(to.map fun t=>(t.toNat,k)).take j) t).length≤2*k+2:=by
    have h1:=Zx (qQ TS k++(to.map fun t=>(t.toNat,k)).take j) t
    have h2:=Qt TS k n hk (fun i hi=>(HE.out i hi).1)
    rw [yN,yr,yT] at h1
    omega
   generalize hm:(qU (qQ TS k++(to.map fun t=>(t.toNat,k)).take j) t).length=m at *
   have HM:Hid ((qU (qQ TS k++(to.map fun t=>(t.toNat,k)).take j) t).length=m):=hm
   clear hm
   go_wp2_with (at_builtin;refine wpList_append_own_at _ rfl _ _ 41 rfl (w.heap.size+1+1) 3 i1 (.int .i64 0) 1 8 ZK k1 k2 k3 k4 rfl (by decide) _ _ _ rfl (hrow.alloc _) ⟨wr.heap.size,0,none⟩ 1 1 [.int .i64 k] rfl rfl (cell_one_new _ _ _) (by simp [Value.oneCell']) ?_ ?_ ?_ ?_)
   ·unfold maxLen;omega
   ·omega
   ·simp;omega
   intro v' w1 hown' hgrow _ hat
   have HP:=(HR.out.alloc (.cells #[.int .i64 k] 3)).put (i:=k) (by simp;omega) htn (v':=v') (w':=w1) (by rw [HM.out];exact hown') (by rw [HQ.out];exact hgrow) (by rw [HQ.out];simpa using hat)
   obtain ⟨q2,c2',hv2⟩:∃q2 c2,v' = .slice q2 (m+1) c2:=by
    rcases hown'.2 with ⟨h1,h2⟩|⟨g,cap,cur,h1,_⟩
    ·omega
    exact ⟨_,_,h1⟩
   subst hv2
   obtain ⟨hc1,hf1⟩:=(HR.out.alloc (.cells #[.int .i64 k] 3)).atTab htn (w':=w1) (by rw [HQ.out];exact hgrow)
   rw [HQ.out] at hc1
   have hbw:=(HBw.out.alloc (by omega) (.cells #[.int .i64 k] 3)).grown hgrow (by simp;omega) (fun kk e=>by have:=(hrow.lt kk e).1;omega)
   have HB2:=q7 hbw
   have HP2:=q7 HP
   clear HP hown' hgrow hat hfc hff htc hrow hbw
   go_wp2
   refine ⟨⟨j+1,by omega,by go_num,⟨fun i=>if i=t then Value.slice q2 (m+1) c2' else f i,?_⟩,?_⟩,by simp [intOf];omega⟩
   ·rw [List.take_add_one,List.getElem?_map,HT.out]
    have HP3:=HP2.out
    rw [yF] at HP3
    exact HP3
   exact HB2.out.setCell (by show _≤w.heap.size+1;omega) _

def Qu (w:World) (p:Option Addr) (S:List ByteArray):Prop:=
 S=[]∨∃b o,p=some ⟨b,o,none⟩∧∀i (h:i<S.length),w.cell? ⟨b,o+i,none⟩=some (.string S[i])

theorem bytes_eq {a b:ByteArray}:(a.toList == b.toList)=true↔a=b:=by
 rw [beq_iff_eq,ByteArray.toList_eq,ByteArray.toList_eq]
 constructor
 ·intro h
  obtain ⟨x⟩:=a
  obtain ⟨y⟩:=b
  rw [show x=y from Array.toList_inj.1 h]
 rintro rfl;rfl

theorem index_str (b o c n:Nat) (S:Nat→ByteArray) (v:ByteArray) (w:World) (hn:n≤9223372036854775807) (hc:∀i,i<n→w.cell? ⟨b,o+i,none⟩=some (.string (S i))) :
  Calls Tryz.prog 93 #[.slice (some ⟨b,o,none⟩) n c,.string v] w fun e w'=>(∃k:Int,e = .returned (.int .i64 k)∧Hid ((k<0∧∀i,i<n→S i≠v)∨(0≤k∧∃i,i<n∧S i=v)))∧w=w':=by
 go_enter Tryz.func93,Tryz.ntmps93
 go_wp2
 go_loop [8] (fun i=>∃k:Nat,k≤n∧i = .int .i64 k∧∀j,j<k→S j≠v) (fun i=>n - (intOf i).toNat)
 case atStart=>exact ⟨0,by omega,rfl,fun j hj=>by omega⟩
 case round=>
  obtain ⟨k,hk,rfl,hV⟩:=hrel
  have HV:Hid (∀j,j<k→S j≠v):=hV
  clear hV
  by_cases hlt:k<n
  rotate_left
  ·go_wp2
   go_ret
   refine ⟨⟨_,rfl,.inl ⟨by omega,fun i hi=>HV.out i (by omega)⟩⟩,rfl⟩
  have c0:=hc k hlt
  have Hlt:Hid (k<n):=hlt
  generalize hs:S k=s at c0
  have HS:Hid (S k=s):=hs
  clear hs hc
  go_wp2
  ·rename_i hw _
   go_ret
   refine ⟨⟨_,rfl,.inr ⟨by simp,k,Hlt.out,?_⟩⟩,rfl⟩
   rw [HS.out]
   exact (bytes_eq.1 hw).symm
  rename_i hw
  refine ⟨⟨k+1,by omega,by go_num,fun j hj=>?_⟩,by simp [intOf];omega⟩
  by_cases hj2:j<k
  ·exact HV.out j hj2
  obtain rfl:j=k:=by omega
  rw [HS.out]
  intro he
  rw [bytes_eq.2 he.symm] at hw
  cases hw
theorem index_nil (p:Option Addr) (c:Nat) (v:ByteArray) (w:World) :
  Calls Tryz.prog 93 #[.slice p 0 c,.string v] w fun e w'=>e = .returned (.int .i64 (-1))∧w=w':=by
 go_enter Tryz.func93,Tryz.ntmps93
 go_wp2
 go_loop [8] (fun i=>i = .int .i64 0) (fun _=>0)
 case atStart=>rfl
 case round=>
  subst hrel
  go_wp2
  go_ret
  exact ⟨rfl,rfl⟩

def VX (S:List ByteArray) (v:ByteArray):Bool:=S.any fun s=>s.toList == v.toList
theorem hasB_iff {S:List ByteArray} {v:ByteArray}:VX S v=true↔v∈S:=by
 unfold VX
 rw [List.any_eq_true]
 constructor
 ·rintro ⟨s,hs,he⟩
  rw [←bytes_eq.1 he];exact hs
 intro h
 exact ⟨v,h,bytes_eq.2 rfl⟩
theorem kq (p:Option Addr) (c:Nat) (S:List ByteArray) (v:ByteArray) (w:World) (hn:S.length≤9223372036854775807) (h:Qu w p S) :
  Calls Tryz.prog 47 #[.slice p S.length c,.string v] w fun e w'=>e = .returned (.bool (VX S v))∧w=w':=by
 rcases h with rfl|⟨b,o,rfl,h⟩
 ·go_enter Tryz.func47,Tryz.ntmps47
  go_wp2_with (go_at_call 93;refine (index_nil _ _ _ _).mono ?_;rintro e w1 ⟨rfl,rfl⟩)
  go_ret
  exact ⟨by simp [VX],rfl⟩
 have HC:Hid (∀i,i<S.length→w.cell? ⟨b,o+i,none⟩=some (.string (S.getD i ByteArray.empty))):=fun i hi=>by
  rw [h i hi];simp [List.getD,hi]
 clear h
 go_enter Tryz.func47,Tryz.ntmps47
 go_wp2_with fail
 refine (index_str _ _ _ _ (fun i=>S.getD i ByteArray.empty) _ _ hn HC.out).mono ?_
 rintro e w1 ⟨⟨k,rfl,hk⟩,rfl⟩
 by_cases hk0:0≤k
 ·have HB:Hid (VX S v=true):=by
   show _=_
   rcases hk.out with ⟨h1,_⟩|⟨_,i,hi,hs⟩
   ·omega
   rw [hasB_iff,←hs]
   simp [List.getD,hi]
  clear hk
  go_wp2
  go_ret
  exact ⟨by rw [HB.out];simp,rfl⟩
 have HB:Hid (VX S v=false):=by
  show _=_
  rcases hk.out with ⟨_,h2⟩|⟨h1,_⟩
  ·rw [Bool.eq_false_iff]
   intro hb
   have hm:=hasB_iff.1 hb
   obtain ⟨i,hi,he⟩:=yp.1 hm
   exact h2 i hi (by simp [List.getD,hi,he])
  omega
 clear hk
 go_wp2
 go_ret
 exact ⟨by rw [HB.out];simp;omega,rfl⟩

theorem x7:∀{l:List Int},(∀x∈l,x=0)→qD l=0
 | [],_=>rfl
 | x::l,h=>by
  unfold qD
  rw [zZ (h x yg)]
  exact x7 (fun y hy=>h y (yc _ hy))
theorem vB:∀{l:List Int} {k:Nat} (hk:k<l.length),(∀j (hj:j<k),l[j]'(by omega)=0)→l[k]≠0→qD l=l[k]
 | x::l,0,_,_,h=>by
  unfold qD
  rw [zQ (by simpa using h)];rfl
 | x::l,k+1,hk,h0,h=>by
  have hx:x=0:=h0 0 (by omega)
  unfold qD
  rw [zZ hx]
  have:=vB (l:=l) (k:=k) (by simpa using hk) (fun j hj=>by have:=h0 (j+1) (by omega);simpa using this) (by simpa using h)
  simpa using this
theorem zm {l:List Int} (h:qD l=0):∀x∈l,x=0:=by
 induction l with
 | nil=>intro x hx;cases hx
 | cons y l ih=>
  unfold qD at h
  by_cases hy:y=0
  ·rw [zZ hy] at h
   intro x hx
   rcases yC.1 hx with rfl|hx
   ·exact hy
   exact ih h x hx
  rw [zQ hy] at h;exact absurd h hy

def xy (n:Nat) (g:Nat→Int):Option (Int×Int):=((List.range n).find? fun i=>g i != 0).map fun i=>(g i,(i:Int))
theorem zi {n:Nat} {g:Nat→Int} (h:∀j,j<n→g j=0):xy n g=none:=by
 unfold xy
 rw [List.find?_eq_none.2]
 ·rfl
 intro i hi
 simp [h i (yR.1 hi)]
theorem vV {n:Nat} {g:Nat→Int} (h:xy n g=none):∀j,j<n→g j=0:=by
 intro j hj
 unfold xy at h
 rw [Option.map_eq_none_iff,List.find?_eq_none] at h
 have:=h j (yR.2 hj)
 simpa using this
theorem XD:∀(n k:Nat) (p:Nat→Bool),k<n→(∀j,j<k→p j=false)→p k=true→(List.range n).find? p=some k:=by
 intro n k p hk h0 h1
 rw [List.find?_eq_some_iff_append]
 refine ⟨h1,List.range k,(List.range (n - k - 1)).map (·+(k+1)),?_,fun a ha=>by simp [h0 a (yR.1 ha)]⟩
 apply yV
 ·simp;omega
 intro i h2 h3
 rw [List.getElem_range]
 rcases Nat.lt_trichotomy i k with g|g|g
 ·rw [List.getElem_append_left (by simpa using g)];simp
 ·subst g;rw [List.getElem_append_right (by simp)];simp
 rw [List.getElem_append_right (by simp;omega)]
 rw [List.getElem_cons]
 rw [dif_neg (by simp;omega)]
 simp;omega
theorem vW {n k:Nat} {g:Nat→Int} (hk:k<n) (h0:∀j,j<k→g j=0) (h:g k≠0):xy n g=some (g k,(k:Int)):=by
 unfold xy
 rw [XD n k _ hk (fun j hj=>by simp [h0 j hj]) (by simpa using h)]
 rfl

def Xs (u:UniL) (k:Nat):Int:=(u.funcs.map (·.params)).getD k 0
def VY (f:FunL) (x:EndL):Int:=Qa f.regs f.blocks.length x.kind x.onr x.onn x.to
def YT (u:UniL) (f:FunL) (x:InsL):Int:=vS f.regs u.funcs.length (Xs u) x.op x.dst x.an x.bn x.fn x.ar x.br x.args
def Ja (f:FunL) (block cnt:Nat) (x:PhiL):Int:=XC f.regs block cnt x.dst x.src
def Qh (f:FunL):List (List Int):=f.blocks.map fun b=>b.fin.to
def xV (f:FunL):List (Nat×Nat):=qQ (Qh f) f.blocks.length
def blkE (u:UniL) (f:FunL) (i:Nat) (b:BlkL):Int:=
 if qD (b.phis.map (Ja f i (qU (xV f) i).length))=0 then qD (b.list.map (YT u f)) else qD (b.phis.map (Ja f i (qU (xV f) i).length))
def K6 (u:UniL) (f:FunL) (i:Nat):Int:=match f.blocks[i]? with|some b=>blkE u f i b|none=>0
def ki (u:UniL) (f:FunL):Int:=
 if qD (f.blocks.map fun b=>VY f b.fin)=0 then qD ((List.range f.blocks.length).map (K6 u f)) else qD (f.blocks.map fun b=>VY f b.fin)

def j6 (f:FunL):Nat:=(f.blocks.map fun b=>b.phis.length+b.list.length).sum
def ks (names:List ByteArray) (f:FunL):Int:=
 if kp f.name=false then 12
 else if VX names f.name=true then 7
 else if ¬(0≤f.params∧f.params≤6)∨¬(f.params≤f.regs∧f.regs≤100) then 3
 else if ¬(1≤f.blocks.length∧f.blocks.length≤40)∨300<j6 f then 2
 else 0
def jY (u:UniL) (k:Nat):Int:=((u.globals.take k).map (·.size)).sum
def K7 (names:List ByteArray) (words:Int) (g:GloL):Int:=
 if kp g.name=false then 12
 else if VX names g.name=true then 7
 else if ¬(1≤g.size∧g.size≤200) then 3
 else if g.size<g.init.length then 9
 else if 200<words+g.size then 10
 else 0
def jZ (u:UniL) (k:Nat):List ByteArray:=(u.globals.take k).map (·.name)
def jB (u:UniL) (k:Nat):List ByteArray:=u.globals.map (·.name)++(u.funcs.take k).map (·.name)
def V5 (u:UniL) (i:Nat):Int:=match u.globals[i]? with|some g=>K7 (jZ u i) (jY u i) g|none=>0
def Qv (u:UniL) (i:Nat):Int:=match u.funcs[i]? with|some f=>ks (jB u i) f|none=>0
def QP (u:UniL) (i:Nat):Int:=match u.funcs[i]? with|some f=>ki u f|none=>0
def QQ (f:FunL):Bool:=f.name.toList == [109,97,105,110]
def mainAt (u:UniL):Option Nat:=(List.range u.funcs.length).find? fun i=>match u.funcs[i]? with|some f=>QQ f|none=>false
def chkO (u:UniL):Option (Int×Int):=
 if 10<u.globals.length∨10<u.funcs.length then some (2,0)
 else match xy u.globals.length (V5 u) with
 | some r=>some r
 | none=>match xy u.funcs.length (Qv u) with
 | some r=>some r
 | none=>match xy u.funcs.length (QP u) with
 | some r=>some r
 | none=>match mainAt u with
 | none=>some (6,0)
 | some m=>if 0<Xs u m then some (5,(m:Int)) else none
def chk (u:UniL):Int×Int:=(chkO u).getD (0,0)

theorem kO (f:FunL) (i:Nat) (hi:i<f.blocks.length):(Qh f).getD i []=f.blocks[i].fin.to:=by
 simp [Qh,List.getD,hi]

theorem ZL {regs:Int} {nb:Nat} {kind:Int} {r:Bool} {n:Int} {to:List Int} (h:Qa regs nb kind r n to=0):to.length≤2∧∀t∈to,1≤t∧t<nb:=by
 unfold Qa at h
 by_cases a:1≤kind∧kind≤3
 ·rw [zQ (by simpa using a)] at h
  by_cases b:(to.length:Int)=kind - 1
  ·rw [zQ (by simpa using b)] at h
   by_cases c:to.any (fun t=>!xT t 1 ((nb:Int) - 1))=true
   ·rw [zZ c] at h;cases h
   refine ⟨by omega,fun t ht=>?_⟩
   rw [List.any_eq_true] at c
   have hc:¬(!xT t 1 ((nb:Int) - 1))=true:=fun hh=>c ⟨t,ht,hh⟩
   unfold xT at hc
   simp at hc
   omega
  rw [zZ (by simpa using b)] at h;cases h
 rw [zZ (by simpa using a)] at h;cases h

theorem qq {w:World} {k:Nat} {A:Array Value} {T:TypeId} (h:w.heap[k]?=some (.cells A T (0,0))) (o:Nat) (v:Value):(w.setCell ⟨k,o,none⟩ v).heap[k]?=some (.cells (A.setIfInBounds o v) T (0,0)):=by
 simp [World.setCell,Array.getElem?_modify,h]
theorem Rows2.at {w:World} {B T n:Nat} {ts ti:TypeId} {ps:List (Nat×Nat)} {f:Nat→Value} (h:Rows2 w B T n ts ti ps f) {i:Nat} (hi:i<n):∃q c,w.cell? ⟨T,i,none⟩=some (.slice q (qU ps i).length c):=by
 have hc:=h.tab.cell hi
 rcases (h.row i hi).2 with ⟨h1,h2⟩|⟨g,cap,cur,h1,_⟩
 ·rw [h1] at hc;exact ⟨none,0,by rw [h2];exact hc⟩
 rw [h1] at hc;exact ⟨_,_,hc⟩
theorem ZM {u:UniL} {f:FunL} {k:Nat} (hk:k<f.blocks.length):K6 u f k=blkE u f k f.blocks[k]:=by
 unfold K6
 rw [zj hk]
theorem blkI_phi {u:UniL} {f:FunL} {k j:Nat} (hk:k<f.blocks.length) (hj:j<f.blocks[k].phis.length) (h0:∀i (h:i<f.blocks[k].phis.length),i<j→Ja f k (qU (xV f) k).length f.blocks[k].phis[i]=0)
  (h:Ja f k (qU (xV f) k).length f.blocks[k].phis[j]≠0):K6 u f k=Ja f k (qU (xV f) k).length f.blocks[k].phis[j]:=by
 rw [ZM hk]
 have hl:=vB (l:=f.blocks[k].phis.map (Ja f k (qU (xV f) k).length)) (k:=j) (by simpa using hj) (fun i hi=>by simpa using h0 i (by omega) hi) (by simpa using h)
 rw [xE] at hl
 unfold blkE
 rw [hl,zQ h]
theorem blkI_ins {u:UniL} {f:FunL} {k j:Nat} (hk:k<f.blocks.length) (hp:∀i (h:i<f.blocks[k].phis.length),Ja f k (qU (xV f) k).length f.blocks[k].phis[i]=0) (hj:j<f.blocks[k].list.length) (h0:∀i (h:i<f.blocks[k].list.length),i<j→YT u f f.blocks[k].list[i]=0)
  (h:YT u f f.blocks[k].list[j]≠0):K6 u f k=YT u f f.blocks[k].list[j]:=by
 rw [ZM hk]
 have hz:qD (f.blocks[k].phis.map (Ja f k (qU (xV f) k).length))=0:=x7 fun x hx=>by
  obtain ⟨b,hb,rfl⟩:=yD.1 hx
  obtain ⟨i,hi,rfl⟩:=yp.1 hb
  exact hp i hi
 have hl:=vB (l:=f.blocks[k].list.map (YT u f)) (k:=j) (by simpa using hj) (fun i hi=>by simpa using h0 i (by omega) hi) (by simpa using h)
 rw [xE] at hl
 unfold blkE
 rw [zZ hz,hl]
theorem blkI_zero {u:UniL} {f:FunL} {k:Nat} (hk:k<f.blocks.length) (hp:∀i (h:i<f.blocks[k].phis.length),Ja f k (qU (xV f) k).length f.blocks[k].phis[i]=0) (h0:∀i (h:i<f.blocks[k].list.length),YT u f f.blocks[k].list[i]=0):K6 u f k=0:=by
 rw [ZM hk]
 have hz:qD (f.blocks[k].phis.map (Ja f k (qU (xV f) k).length))=0:=x7 fun x hx=>by
  obtain ⟨b,hb,rfl⟩:=yD.1 hx
  obtain ⟨i,hi,rfl⟩:=yp.1 hb
  exact hp i hi
 unfold blkE
 rw [zZ hz]
 exact x7 fun x hx=>by
  obtain ⟨b,hb,rfl⟩:=yD.1 hx
  obtain ⟨i,hi,rfl⟩:=yp.1 hb
  exact h0 i hi
theorem V6 {u:UniL} {f:FunL} {k:Nat} {e:Int} (hA:qD (f.blocks.map fun b=>VY f b.fin)=0) (hk:k<f.blocks.length) (h0:∀j,j<k→K6 u f j=0) (h:K6 u f k=e) (he:e≠0):ki u f=e:=by
 unfold ki
 rw [zZ hA]
 have hl:=vB (l:=(List.range f.blocks.length).map (K6 u f)) (k:=k) (by simpa using hk) (fun i hi=>by simpa using h0 i hi) (by simpa [h] using he)
 rw [hl]
 simpa using h
theorem YU {u:UniL} {f:FunL} (hA:qD (f.blocks.map fun b=>VY f b.fin)=0) (h0:∀j,j<f.blocks.length→K6 u f j=0):ki u f=0:=by
 unfold ki
 rw [zZ hA]
 exact x7 fun x hx=>by
  obtain ⟨i,hi,rfl⟩:=yD.1 hx
  exact h0 i (yR.1 hi)
theorem parAt {w w':World} {u:UniL} {fp:Option Addr} (h:SliceAt w 4 (FunR w) fp u.funcs) (hb:Below w.heap.size w w'):u.funcs.length=0∨∃fb fo,fp=some ⟨fb,fo,none⟩∧∀i,i<u.funcs.length→w'.cell? ⟨fb,fo+i*4+1,none⟩=some (.int .i64 (Xs u i)):=by
 rcases h with h0|⟨b,o,hp,h⟩
 ·exact .inl (by rw [h0];rfl)
 refine .inr ⟨b,o,hp,fun i hi=>?_⟩
 obtain ⟨b2,o2,q,c,hp2,_,e1,_⟩:=Ze (.inr ⟨b,o,hp,h⟩) hb hi
 rw [hp] at hp2
 cases hp2
 rw [e1]
 simp [Xs,List.getD,hi]
theorem Ways.below {w w':World} (h:Ways w) (hb:Below w.heap.size w w'):Ways w':=by
 obtain ⟨h0,h1,h2,h3⟩:=h
 have hl:=qd h0
 exact ⟨(hb.cell (p:=⟨1,_,none⟩) hl).trans h0,(hb.cell (p:=⟨1,_,none⟩) hl).trans h1,(hb.cell (p:=⟨1,_,none⟩) hl).trans h2,(hb.cell (p:=⟨1,_,none⟩) hl).trans h3⟩

theorem Qw {w w':World} {b o:Nat} {f:FunL} (h:SliceAt w 6 (BlkR w) (some ⟨b,o,none⟩) f.blocks) (hb:Below w.heap.size w w') (i:Nat) (hi:i<f.blocks.length):V4 w' b o i ((Qh f).getD i []):=by
 obtain ⟨b2,o2,q1,c1,q2,c2,q3,c3,hp,e0,e1,e2,e3,e4,e5,_,_,_,_,_,_,_,ht⟩:=ke h hb hi
 cases hp
 rw [kO f i hi]
 exact ⟨_,_,_,_,_,_,_,_,_,_,_,e0,e1,e2,e3,e4,e5,ht⟩

theorem body_any (u:UniL) (f:FunL) (g1 fp:Option Addr) (g2 g3 fc bc bb bo:Nat) (w:World)
  (h1:0≤f.regs) (h2:f.regs≤100) (hn1:1≤f.blocks.length) (hn2:f.blocks.length≤40)
  (hfl:u.funcs.length≤10) (hF:SliceAt w 4 (FunR w) fp u.funcs) (hb:SliceAt w 6 (BlkR w) (some ⟨bb,bo,none⟩) f.blocks) (hw0:Ways w) :
  Calls Tryz.prog 50 #[.agg #[.slice g1 g2 g3,.slice fp u.funcs.length fc,.string f.name,.int .i64 f.params,.int .i64 f.regs,.slice (some ⟨bb,bo,none⟩) f.blocks.length bc,.slice none 0 0]] w fun e w'=>e = .returned (.int .i64 (ki u f))∧Below w.heap.size w w':=by
 have HF:Hid (SliceAt w 4 (FunR w) fp u.funcs):=hF
 have HB:Hid (SliceAt w 6 (BlkR w) (some ⟨bb,bo,none⟩) f.blocks):=hb
 have HW:Hid (Ways w):=hw0
 clear hF hb hw0
 go_enter Tryz.func50,Tryz.ntmps50
 go_wp2
 go_loopw [18] (fun i wr=>∃k:Nat,k≤f.blocks.length∧i = .int .i64 k∧(∀j (h:j<f.blocks.length),j<k→VY f f.blocks[j].fin=0)∧Below (w.heap.size+1) (w.alloc (.cells #[.slice g1 g2 g3,.slice fp u.funcs.length fc,.string f.name,.int .i64 f.params,.int .i64 f.regs,.slice (some ⟨bb,bo,none⟩) f.blocks.length bc,.slice none 0 0] 104)) wr) (fun i _=>f.blocks.length - (intOf i).toNat)
 case atStart=>exact ⟨0,by omega,rfl,fun j _ h=>by omega,zI _ _⟩
 case round=>
  obtain ⟨k,hk,rfl,hV,hb⟩:=hrel
  have HV:=q7 hV
  have HBw:=q7 hb
  have hbw:Below w.heap.size w wr:=((zI _ _).alloc (zK _) _).trans (hb.mono (by omega))
  have HBx:=q7 hbw
  have hz:w.heap.size<wr.heap.size:=by have:=hb.size;simp at this;omega
  obtain ⟨hcc,hcf⟩:=blk (qj hb (by omega) (qn _ _))
  clear hV hb hbw
  by_cases hlt:k<f.blocks.length
  ·obtain ⟨b2,o2,q1,c1,q2,c2,q3,c3,hp,e0,e1,e2,e3,e4,e5,_,_,_,_,hl3,_,_,ht⟩:=ke HB.out HBx.out hlt
   cases hp
   have HT:=q7 ht
   have HE:Hid (VY f f.blocks[k].fin=Qa f.regs f.blocks.length f.blocks[k].fin.kind f.blocks[k].fin.onr f.blocks[k].fin.onn f.blocks[k].fin.to):=rfl
   clear ht
   go_wp2_with fail
   refine (end_any _ _ _ _ _ _ _ _ _ _ _ _ _ _ _ _ _ _ _ _ _ _ (by omega) (by omega) (by omega) (by omega) ?_ ?_).mono ?_
   ·exact HT.out.mono ((zI _ _).alloc (zK _) _) (by omega) fun _ _ h=>h
   ·exact HW.out.below (HBx.out.alloc (by omega) _)
   rintro e w3 ⟨rfl,hb3⟩
   have HN:Hid (Below (w.heap.size+1) (w.alloc (.cells #[.slice g1 g2 g3,.slice fp u.funcs.length fc,.string f.name,.int .i64 f.params,.int .i64 f.regs,.slice (some ⟨bb,bo,none⟩) f.blocks.length bc,.slice none 0 0] 104)) w3):=HBw.out.trans (((zI _ _).alloc (by omega) _).trans (hb3.mono (by simp;omega)))
   generalize hE:Qa f.regs f.blocks.length f.blocks[k].fin.kind f.blocks[k].fin.onr f.blocks[k].fin.onn f.blocks[k].fin.to=ee
   have HE2:Hid (VY f f.blocks[k].fin=ee):=hE
   clear hE HE hb3
   by_cases hz0:ee=0
   ·have hzb:(ee != 0)=false:=by simp [hz0]
    have HZ:=q7 hz0
    clear hz0
    go_wp2_with fail
    refine ⟨⟨k+1,by omega,by go_num,fun j hj hjk=>?_,HN.out⟩,by simp [intOf];omega⟩
    by_cases hj2:j<k
    ·exact HV.out j hj hj2
    obtain rfl:j=k:=by omega
    rw [HE2.out];exact HZ.out
   have hzb:(ee != 0)=true:=by simp [hz0]
   have HZ:=q7 hz0
   clear hz0
   go_wp2_with fail
   go_ret
   refine ⟨?_,(yo ((zI _ _).alloc (zK _) _) (HN.out.mono (by omega)))⟩
   have hl:qD (f.blocks.map fun b=>VY f b.fin)=ee:=by
    have:=vB (l:=f.blocks.map fun b=>VY f b.fin) (k:=k) (by simpa using hlt) (fun j hj=>by simpa using HV.out j (by omega) hj) (by simpa [HE2.out] using HZ.out)
    simpa [HE2.out] using this
   unfold ki
   rw [hl,zQ HZ.out]
   rfl
  have HA:Hid (qD (f.blocks.map fun b=>VY f b.fin)=0):=by
   refine x7 fun x hx=>?_
   obtain ⟨b,hb,rfl⟩:=yD.1 hx
   obtain ⟨i,hi,rfl⟩:=yp.1 hb
   exact HV.out i hi (by omega)
  have hcnt:∀i,(qU (xV f) i).length≤80:=by
   intro i
   have h1:=Zx (xV f) i
   have h2:=Qt (Qh f) f.blocks.length f.blocks.length (zK _) (fun i hi=>by
    rw [kO f i hi]
    exact (ZL (zm HA.out _ (yD.2 ⟨f.blocks[i],zP hi,rfl⟩))).1)
   unfold xV at h1 ⊢
   omega
  go_wp2_with fail
  refine (ahead_any _ _ _ _ _ _ _ (Qh f) _ hn2 (fun i hi=>Qw HB.out HBx.out i hi) (fun i hi=>?_)).mono ?_
  ·rw [kO f i hi]
   exact ZL (zm HA.out _ (yD.2 ⟨f.blocks[i],zP hi,rfl⟩))
  rintro e w2 ⟨⟨F,rfl,hR⟩,hb2⟩
  have hf7:=qj hb2 hz (qj HBw.out (by omega) (qn w _))
  obtain ⟨hlO,hlP⟩:=blk hf7
  have HR:=q7 hR
  have HB2:=q7 hb2
  clear hR hb2 hcc hcf
  have hf7:=q7 hf7
  go_wp2_with fail
  obtain ⟨W,hW⟩:∃W,w2.setCell ⟨w.heap.size,6,none⟩ (.slice (some ⟨wr.heap.size+1,0,none⟩) f.blocks.length f.blocks.length)=W:=⟨_,rfl⟩
  rw [hW]
  have hT:=HR.out.tab.lt
  have hWs:W.heap.size=w2.heap.size:=by rw [←hW];simp [World.setCell]
  have hWB:Hid (Below w.heap.size w W):=by
   rw [←hW]
   exact (HBx.out.trans (HB2.out.mono (by omega))).setCell (zK _) _
  have hWc:Hid (W.heap[w.heap.size]?=some (.cells #[.slice g1 g2 g3,.slice fp u.funcs.length fc,.string f.name,.int .i64 f.params,.int .i64 f.regs,.slice (some ⟨bb,bo,none⟩) f.blocks.length bc,.slice (some ⟨wr.heap.size+1,0,none⟩) f.blocks.length f.blocks.length] 104)):=by
   rw [←hW]
   exact qq hf7.out 6 _
  have hWr:Hid (∀i,i<f.blocks.length→∃q c,W.cell? ⟨wr.heap.size+1,i,none⟩=some (.slice q (qU (xV f) i).length c)):=by
   intro i hi
   obtain ⟨q,c,hc⟩:=HR.out.at hi
   rw [←hW]
   exact ⟨q,c,by rw [zN (Below.heap_setCell _ _ _ _ (by show wr.heap.size+1≠w.heap.size;omega))];exact hc⟩
  have hzW:w.heap.size<W.heap.size:=by omega
  clear hW HR HB2 hlO hlP hf7 HBw HBx HV
  generalize wr.heap.size+1=T at hT hWc hWr ⊢
  go_loopw [38] (fun i wr=>∃k:Nat,k≤f.blocks.length∧i = .int .i64 k∧(∀j,j<k→K6 u f j=0)∧Below W.heap.size W wr) (fun i _=>f.blocks.length - (intOf i).toNat)
  case atStart=>exact ⟨0,by omega,rfl,fun j h=>by omega,zI _ _⟩
  case round=>
   obtain ⟨wo,hwo⟩:∃wo:World,wo=wr:=⟨_,rfl⟩
   obtain ⟨k,hk,rfl,hV,hb⟩:=hrel
   have HV:=q7 hV
   have HBo:=q7 hb
   have hzo:w.heap.size<wr.heap.size:=by have:=hb.size;omega
   have hpT:W.heap.size≤wr.heap.size:=hb.size
   have HBx:Hid (Below w.heap.size w wr):=hWB.out.trans (hb.mono (by omega))
   have hco:=qj hb hzW hWc.out
   obtain ⟨hcc,hcf⟩:=blk hco
   have HCo:=q7 hco
   clear hV hb hco
   by_cases hlt:k<f.blocks.length
   rotate_left
   ·go_wp2
    go_ret
    refine ⟨?_,HBx.out⟩
    rw [YU HA.out (fun j hj=>HV.out j (by omega))]
    rfl
   obtain ⟨b2,o2,q1,c1,q2,c2,q3,c3,hp,e0,e1,e2,e3,e4,e5,_,_,hl1,hl2,hl3,hph,hins,_⟩:=ke HB.out HBx.out hlt
   cases hp
   have HPH:=q7 hph
   have HIN:=q7 hins
   clear hph hins
   go_wp2_with fail
   subst hwo
   go_loopw [46] (fun i wq=>∃j:Nat,j≤f.blocks[k].phis.length∧i = .int .i64 j∧(∀i (h:i<f.blocks[k].phis.length),i<j→Ja f k (qU (xV f) k).length f.blocks[k].phis[i]=0)∧Below (wo.heap.size+1) (wo.alloc (.cells #[.slice q1 f.blocks[k].phis.length c1,.slice q2 f.blocks[k].list.length c2,.int .i64 f.blocks[k].fin.kind,.bool f.blocks[k].fin.onr,.int .i64 f.blocks[k].fin.onn,.slice q3 f.blocks[k].fin.to.length c3] 45)) wq) (fun i _=>f.blocks[k].phis.length - (intOf i).toNat)
   case atStart=>exact ⟨0,by omega,rfl,fun j _ h=>by omega,zI _ _⟩
   case round=>
    obtain ⟨j,hj,rfl,hV,hb⟩:=hrel
    have HVp:=q7 hV
    have HBp:=q7 hb
    have hzp:wo.heap.size<wr.heap.size:=by have:=hb.size;simp at this;omega
    have HBy:Hid (Below wo.heap.size wo wr):=((zI _ _).alloc (zK _) _).trans (hb.mono (by omega))
    have hzq:w.heap.size<wr.heap.size:=by omega
    clear hcc hcf
    obtain ⟨hcc,hcf⟩:=blk (qj HBy.out hzo HCo.out)
    obtain ⟨hbM,hbO⟩:=blk (qj hb (by omega) (qn wo _))
    clear hV hb
    by_cases hjl:j<f.blocks[k].phis.length
    ·obtain ⟨b4,o4,q4,c4,hp4,d0,d1,_,hl4,hsr⟩:=V1 HPH.out HBy.out hjl
     subst hp4
     have HSR:=q7 hsr
     obtain ⟨q5,c5,hq5⟩:=hWr.out k hlt
     have HQ5:=q7 hq5
     clear hsr hq5
     have HE:Hid (Ja f k (qU (xV f) k).length f.blocks[k].phis[j]=XC f.regs k (qU (xV f) k).length f.blocks[k].phis[j].dst f.blocks[k].phis[j].src):=rfl
     go_wp2_with fail
     refine (phi_any _ _ _ _ T 0 _ _ _ _ _ _ _ _ _ _ (qU (xV f) k).length c5 q5 _ _ _ _ _ _ (by omega) (by omega) ?_ ?_ ?_ ?_ ?_ ?_).mono ?_
     ·exact hlt
     ·omega
     ·omega
     ·have:=hcnt k;omega
     ·rw [yx,zN (xG _ _ _ (by show T<_;have:=HBy.out.size;omega)),HBy.out.cell (p:=⟨T,k,none⟩) (by show T<_;omega)]
      exact (HBo.out.cell (p:=⟨T,k,none⟩) (by show T<_;omega)).trans HQ5.out
     ·exact HSR.out.mono ((zI _ _).alloc (zK _) _) (by omega) fun _ _ h=>h
     rintro e w3 ⟨rfl,hb3⟩
     generalize hE:XC f.regs k (qU (xV f) k).length f.blocks[k].phis[j].dst f.blocks[k].phis[j].src=ee
     have HE2:Hid (Ja f k (qU (xV f) k).length f.blocks[k].phis[j]=ee):=hE
     have HN:Hid (Below (wo.heap.size+1) (wo.alloc (.cells #[.slice (some ⟨b4,o4,none⟩) f.blocks[k].phis.length c1,.slice q2 f.blocks[k].list.length c2,.int .i64 f.blocks[k].fin.kind,.bool f.blocks[k].fin.onr,.int .i64 f.blocks[k].fin.onn,.slice q3 f.blocks[k].fin.to.length c3] 45)) w3):=HBp.out.trans (((zI _ _).alloc (by omega) _).trans (hb3.mono (by simp;omega)))
     clear hE HE hb3
     by_cases hz0:ee=0
     ·have hzb:(ee != 0)=false:=by simp [hz0]
      have HZ:=q7 hz0
      clear hz0
      go_wp2_with fail
      refine ⟨⟨j+1,by omega,by go_num,fun i hi hij=>?_,HN.out⟩,by simp [intOf];omega⟩
      by_cases hj2:i<j
      ·exact HVp.out i hi hj2
      obtain rfl:i=j:=by omega
      rw [HE2.out];exact HZ.out
     have hzb:(ee != 0)=true:=by simp [hz0]
     have HZ:=q7 hz0
     clear hz0
     go_wp2_with fail
     go_ret
     refine ⟨?_,HBx.out.trans (yo ((zI _ _).alloc (by omega) _) (HN.out.mono (by omega)))⟩
     rw [V6 HA.out hlt HV.out (blkI_phi hlt hjl (fun i hi hij=>HVp.out i hi hij) (by rw [HE2.out];exact HZ.out)) (by rw [HE2.out];exact HZ.out),HE2.out]
     rfl
    have HP0:Hid (∀i (h:i<f.blocks[k].phis.length),Ja f k (qU (xV f) k).length f.blocks[k].phis[i]=0):=fun i hi=>HVp.out i hi (by omega)
    clear HVp
    go_wp2_with fail
    go_loopw [61] (fun i wq=>∃j:Nat,j≤f.blocks[k].list.length∧i = .int .i64 j∧(∀i (h:i<f.blocks[k].list.length),i<j→YT u f f.blocks[k].list[i]=0)∧Below wr.heap.size wr wq) (fun i _=>f.blocks[k].list.length - (intOf i).toNat)
    case atStart=>exact ⟨0,by omega,rfl,fun j _ h=>by omega,zI _ _⟩
    case round=>
     obtain ⟨wv,hwv⟩:∃wv:World,wv=wr:=⟨_,rfl⟩
     clear hcc hcf hbM hbO
     obtain ⟨j2,hj2,rfl,hV,hb⟩:=hrel
     have HVi:=q7 hV
     have HBi:=q7 hb
     have HBz:Hid (Below wo.heap.size wo wr):=HBy.out.trans (hb.mono HBy.out.size)
     have hzs:wo.heap.size≤wr.heap.size:=HBz.out.size
     have htZ:w.heap.size<wr.heap.size:=by omega
     obtain ⟨hcc,hcf⟩:=blk (qj HBz.out hzo HCo.out)
     clear hV hb
     by_cases hlQ:j2<f.blocks[k].list.length
     rotate_left
     ·go_wp2_with fail
      refine ⟨⟨k+1,by omega,by go_num,fun i hi=>?_,HBo.out.trans (HBz.out.mono hpT)⟩,by simp [intOf];omega⟩
      by_cases hj3:i<k
      ·exact HV.out i hj3
      obtain rfl:i=k:=by omega
      exact blkI_zero hlt HP0.out (fun i hi=>HVi.out i hi (by omega))
     obtain ⟨b4,o4,q4,c4,hp4,d0,d1,d2,d3,d4,d5,d6,d7,_,_,_,_,_,hl4,hsr⟩:=V2 HIN.out HBz.out hlQ
     subst hp4
     have HSR:=q7 hsr
     clear hsr
     have HE:Hid (YT u f f.blocks[k].list[j2]=vS f.regs u.funcs.length (Xs u) f.blocks[k].list[j2].op f.blocks[k].list[j2].dst f.blocks[k].list[j2].an f.blocks[k].list[j2].bn f.blocks[k].list[j2].fn f.blocks[k].list[j2].ar f.blocks[k].list[j2].br f.blocks[k].list[j2].args):=rfl
     subst hwv
     go_wp2_with fail
     refine (ins_any _ _ _ _ _ _ _ _ _ _ _ _ _ _ _ _ _ _ _ _ _ _ _ _ (Xs u) _ _ (by omega) (by omega) (by omega) ?_ ?_ ?_).mono ?_
     ·exact parAt HF.out (HBx.out.trans ((HBz.out.mono (by omega)).trans ((zI _ _).alloc (by omega) _)))
     ·omega
     ·exact HSR.out.mono ((zI _ _).alloc (zK _) _) (by omega) fun _ _ h=>h
     rintro e w3 ⟨rfl,hb3⟩
     generalize hE:vS f.regs u.funcs.length (Xs u) f.blocks[k].list[j2].op f.blocks[k].list[j2].dst f.blocks[k].list[j2].an f.blocks[k].list[j2].bn f.blocks[k].list[j2].fn f.blocks[k].list[j2].ar f.blocks[k].list[j2].br f.blocks[k].list[j2].args=ee
     have HE2:Hid (YT u f f.blocks[k].list[j2]=ee):=hE
     have HN:Hid (Below wv.heap.size wv w3):=((zI _ _).alloc (zK _) _).trans (hb3.mono (by simp))
     clear hE HE hb3
     by_cases hz0:ee=0
     ·have hzb:(ee != 0)=false:=by simp [hz0]
      have HZ:=q7 hz0
      clear hz0
      go_wp2_with fail
      refine ⟨⟨j2+1,by omega,by go_num,fun i hi hij=>?_,HBi.out.trans (HN.out.mono HBi.out.size)⟩,by simp [intOf];omega⟩
      by_cases hj3:i<j2
      ·exact HVi.out i hi hj3
      obtain rfl:i=j2:=by omega
      rw [HE2.out];exact HZ.out
     have hzb:(ee != 0)=true:=by simp [hz0]
     have HZ:=q7 hz0
     clear hz0
     go_wp2_with fail
     go_ret
     refine ⟨?_,HBx.out.trans ((HBz.out.trans (HN.out.mono hzs)).mono (by omega))⟩
     rw [V6 HA.out hlt HV.out (blkI_ins hlt HP0.out hlQ (fun i hi hij=>HVi.out i hi hij) (by rw [HE2.out];exact HZ.out)) (by rw [HE2.out];exact HZ.out),HE2.out]
     rfl
end Go.Proofs.YtbnnhmcloecijaaGreatDoor
