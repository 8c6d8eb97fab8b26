/-
  The contract of calls.Each where rounds may write the instructions: what the iterator itse
-/
import Derived.Test.YtgjjhadbjmcnpaaGreatDoorJCopD
import Derived.RangeFuncWrites
set_option maxRecDepth 100000
set_option maxHeartbeats 16000000
namespace Go.Proofs.YtgjjhadbjmcnpaaGreatDoor
open Go.RowKit

theorem SlW.cell {α:Type} {e:TypeId} {size:Nat} {R:ElemO α} {w:World} {v:Value} {xs:List α} {S:Blks} {cs:Nat→List Value} {T:Nat→Blks} (h:SlW e size R w v xs S cs T) {i:Nat} (hi:i<xs.length):∃g c,v = .slice (some ⟨g,0,none⟩) xs.length c∧S g∧g<w.heap.size∧∀j,j<size→w.cell? ⟨g,i*size+j,none⟩=(cs i)[j]?:=by
 rcases h.own.2 with ⟨_,h2⟩|⟨g,cap,cur,hv,_,hg,_,_,_,htk⟩
 ·omega
 refine ⟨g,cap,hv,h.blk g (by rw [hv];rfl),(Array.getElem?_eq_some_iff.1 hg).1,fun j hj=>?_⟩
 rw [cell_of_row w g _ cur e (0,0) hg]
 have hlt:i*size+j<xs.length*size:=by
  have:(i+1)*size≤xs.length*size:=Nat.mul_le_mul_right _ hi
  rw [Nat.add_mul] at this
  omega
 rw [←xu xs.length h.len i j hi hj,←htk,List.getElem?_take_of_lt hlt,Array.getElem?_toList]

def XS (b:BlkL) (l:List InsL):BlkL:={ b with list:=l }
def setI (f:FunL) (m j:Nat) (i:InsL):FunL:={ f with blocks:=f.blocks.modify m fun b=>XS b (b.list.set j i) }
theorem kl {f:FunL} {m j:Nat} {i:InsL} (hm:m<f.blocks.length):f.blocks.modify m (fun b=>XS b (b.list.set j i))=f.blocks.set m (XS f.blocks[m] (f.blocks[m].list.set j i)):=by
 refine List.ext_getElem (by simp) fun k h1 h2=>?_
 have h3:k<f.blocks.length:=by simpa using h1
 rw [List.getElem_modify,List.getElem_set]
 split
 ·next e=>subst e;rfl
 rfl

theorem FunO.ins {w:World} {cs:List Value} {f:FunL} {T:Blks} (h:FunO w cs f T) {m j:Nat} (hm:m<f.blocks.length) (hj:j<f.blocks[m].list.length):∃bb cb lb c2 ci Ti,cs=[.string f.name,.int .i64 f.params,.int .i64 f.regs,.slice (some ⟨bb,0,none⟩) f.blocks.length cb]∧
  w.cell? ⟨bb,m*6+1,none⟩=some (.slice (some ⟨lb,0,none⟩) f.blocks[m].list.length c2)∧T bb∧T lb∧lb≠bb∧InsO w ci f.blocks[m].list[j] Ti∧¬ Ti lb∧¬ Ti bb∧(∀k,Ti k→T k)∧(∀jj,jj<8→w.cell? ⟨lb,j*8+jj,none⟩=ci[jj]?)∧ci.length=8∧(∀o,w.frozen? ⟨lb,o,none⟩=false)∧(∃cur,w.heap[lb]?=some (.cells cur 51 (0,0)))∧
  ∀(w':World) (ci':List Value) (i':InsL) (Ti':Blks),RowPut w w' 51 lb (j*8) 8 ci'→ci'.length=8→(∀u∈ci',u.oneCell'=true)→w.heap.size≤w'.heap.size→(∀k,T k→¬ Ti k→k≠lb→w'.heap[k]?=w.heap[k]?)→
   InsO w' ci' i' Ti'→(∀k,Ti' k→(Ti k∨w.heap.size≤k)∧k<w'.heap.size)→FunO w' cs (setI f m j i') (fun k=>T k∨Ti' k):=by
 obtain ⟨v,hcs,hnm,i1,i2,hB⟩:=h
 obtain ⟨bb,cb,cB,TB,hv,hbs,hTb,hlB,heP,hnb,hTB,hcB,hfB,⟨curB,hdx⟩,hput⟩:=hB.sl.focus qU (by omega) hm
 obtain ⟨v1,v2,v3,S1,S2,S3,rfl,j1,j2,h3,h4,h5,a1,a2,a3,g1,g2,g3⟩:=heP
 obtain ⟨lb,c2,ci,Ti,hv2,hls,hSl,hli,hI,hnl,hTi,hci,hfi,haf,hhP⟩:=h4.sl.focus zR (by omega) hj
 subst hv hv2
 have hne:lb≠bb:=fun e=>hnb (g2 _ (by rw [←e];exact hSl))
 refine ⟨bb,cb,lb,c2,ci,Ti,hcs,(hcB 1 (by omega)),hTb,hTB _ (g2 _ hSl),hne,hI,hnl,fun h=>hnb (g2 _ (hTi _ h)),fun k hk=>hTB _ (g2 _ (hTi _ hk)),hci,hli,hfi,haf,?_⟩
 intro w' ci' i' Ti' hp hl' h1' hs hk hI' hT'
 have e1:∀k,T k→¬ Ti k→k≠lb→w'.heap[k]?=w.heap[k]?:=hk
 have hL:=hhP w' ci' i' Ti' hp hl' h1' hs (fun k hk1 hk2 hk3=>e1 k (hTB _ (g2 _ hk1)) hk2 hk3) hI' hT'
 have hlen:(f.blocks[m].list.set j i').length=f.blocks[m].list.length:=by simp
 have h1n:∀k,S1 k→w'.heap[k]?=w.heap[k]?:=fun k hk=>e1 k (hTB _ (g1 _ hk)) (fun h=>a1 _ hk (hTi _ h)) (fun e=>a1 _ hk (by rw [e];exact hSl))
 have h3n:∀k,S3 k→w'.heap[k]?=w.heap[k]?:=fun k hk=>e1 k (hTB _ (g3 _ hk)) (fun h=>a3 _ (hTi _ h) hk) (fun e=>a3 _ hSl (by rw [←e];exact hk))
 have hnW:w'.heap[bb]?=w.heap[bb]?:=e1 bb hTb (fun h=>hnb (g2 _ (hTi _ h))) (fun e=>hne e.symm)
 have hB':BlkO w' [v1,.slice (some ⟨lb,0,none⟩) f.blocks[m].list.length c2,.int .i64 f.blocks[m].fin.kind,.bool f.blocks[m].fin.onr,.int .i64 f.blocks[m].fin.onn,v3] (XS f.blocks[m] (f.blocks[m].list.set j i')) (fun k=>TB k∨Ti' k):=by
  refine ⟨v1,_,v3,S1,fun k=>S2 k∨Ti' k,S3,rfl,j1,j2,h3.loc zZ (fun _ g=>g) h1n hs,⟨?_,by show (f.blocks[m].list.set j i').length*80≤_;rw [hlen];exact h4.bd⟩,h5.loc xe (fun _ g=>g) h3n hs,fun k x y=>?_,a2,fun k x y=>?_,fun k x=>.inl (g1 k x),fun k x=>?_,fun k x=>.inl (g3 k x)⟩
  ·exact hL
  ·rcases y with y|y
   ·exact a1 k x y
   rcases (hT' k y).1 with z|z
   ·exact a1 k x (hTi _ z)
   have:=h3.sl.inb k x;omega
  ·rcases x with x|x
   ·exact a3 k x y
   rcases (hT' k x).1 with z|z
   ·exact a3 k (hTi _ z) y
   have:=h5.sl.inb k y;omega
  rcases x with x|x
  ·exact .inl (g2 k x)
  exact .inr x
 have hhQ:(f.blocks.set m (XS f.blocks[m] (f.blocks[m].list.set j i'))).length=f.blocks.length:=by simp
 have hF:=hput w' _ (XS f.blocks[m] (f.blocks[m].list.set j i')) (fun k=>TB k∨Ti' k) (RowPut.same hdx hnW hcB) hlB (fun u hu=>?_) hs (fun k hk1 hk2 hk3=>e1 k hk1 (fun h=>hk2 (g2 _ (hTi _ h))) (fun e=>hk2 (by rw [e];exact g2 _ hSl))) hB' (fun k hk=>?_)
 ·refine ⟨.slice (some ⟨bb,0,none⟩) f.blocks.length cb,hcs,hnm,i1,i2,⟨?_,?_⟩⟩
  ·show SlO _ _ _ _ _ (f.blocks.modify m _) _
   rw [kl hm]
   exact hF.grow (fun k hk=>hk.elim .inl fun x=>x.elim (fun x=>.inl (hTB _ x)) .inr) (fun k hk=>by
    rcases hk with x|x
    ·exact Nat.lt_of_lt_of_le (hB.sl.inb k x) hs
    exact (hT' k x).2)
  show (f.blocks.modify m _).length*96≤_
  rw [kl hm,hhQ]
  exact hB.bd
 ·obtain ⟨q1,d1,rfl,_⟩:=h3.sl.val
  obtain ⟨q3,d3,rfl,_⟩:=h5.sl.val
  simp only [List.mem_cons,List.not_mem_nil,or_false] at hu
  rcases hu with rfl|rfl|rfl|rfl|rfl|rfl<;>rfl
 rcases hk with x|x
 ·exact ⟨.inl x,Nat.lt_of_lt_of_le (hB.sl.inb k (hTB k x)) hs⟩
 refine ⟨?_,(hT' k x).2⟩
 rcases (hT' k x).1 with z|z
 ·exact .inl (g2 _ (hTi _ z))
 exact .inr z
end Go.Proofs.YtgjjhadbjmcnpaaGreatDoor
namespace Go.Proofs.YtgjjhadbjmcnpaaGreatDoor

def isV (r:Int) (v:Bool×Int):Bool:=v.1&&v.2 == r
def tkI (r:Int) (x:InsL):Bool:=isV r (x.ar,x.an) || (isV r (x.br,x.bn) || x.args.any (isV r))
def tkP (r:Int) (p:PhiL):Bool:=p.src.any (isV r)
def tkB (r:Int) (b:BlkL):Bool:=isV r (b.fin.onr,b.fin.onn) || b.phis.any (tkP r)
def tkF (r:Int) (f:FunL):Bool:=(f.blocks.any fun b=>b.list.any (tkI r)) || f.blocks.any (tkB r)

def toW (g:Int→Int) (v:Bool×Int):Bool×Int:=if v.1=true then (true,g v.2) else v
def toI (g:Int→Int) (x:InsL):InsL:={ x with dst:=if 0≤x.dst then g x.dst else x.dst,an:=(toW g (x.ar,x.an)).2,bn:=(toW g (x.br,x.bn)).2,args:=x.args.map (toW g) }
def toP (g:Int→Int) (p:PhiL):PhiL:={ dst:=g p.dst,src:=p.src.map (toW g) }
def toE (g:Int→Int) (x:EndL):EndL:={ x with onn:=(toW g (x.onr,x.onn)).2 }
def toB (g:Int→Int) (b:BlkL):BlkL:={ phis:=b.phis.map (toP g),list:=b.list.map (toI g),fin:=toE g b.fin }
def toF (g:Int→Int) (f:FunL):FunL:={ f with blocks:=f.blocks.map (toB g) }

def qK (p last r:Int):Int:=if r=p then last else if p<r∧r≤last then r - 1 else r
def Qu (k:Int) (p:Nat) (x:InsL):InsL:=if x.op=20∧x.fn=k then { x with args:=x.args.eraseIdx p } else x
def Qv (k:Int) (p:Nat) (f:FunL):FunL:={ f with blocks:=f.blocks.map fun b=>{ b with list:=b.list.map (Qu k p) } }
def km (p:Nat) (f:FunL):FunL:={ toF (qK p (f.params - 1)) f with params:=f.params - 1 }
def j4 (k p:Nat) (xs:List FunL):List FunL:=(xs.modify k (km p)).map (Qv k p)

def Xm (k:Int) (p:Nat) (s:Option (Option Int)) (x:InsL):Option (Option Int):=
 match s with
 | none=>none
 | some h=>if x.op=20∧x.fn=k then
   let v:=x.args.getD p (false,0)
   if v.1=true∨(h.isSome=true∧h≠some v.2) then none else some (some v.2)
  else some h
def kK (k:Int) (p:Nat) (xs:List FunL):Option Int:=((xs.flatMap fun f=>f.blocks.flatMap fun b=>b.list).foldl (Xm k p) (some none)).join

theorem toF_len (g:Int→Int) (f:FunL):(toF g f).blocks.length=f.blocks.length:=by simp [toF]
theorem delF_len (k:Int) (p:Nat) (f:FunL):(Qv k p f).blocks.length=f.blocks.length:=by simp [Qv]
theorem zd (k p:Nat) (xs:List FunL):(j4 k p xs).length=xs.length:=by simp [j4]
theorem vy {k p:Nat} {xs:List FunL} {i:Nat} (h:i<(j4 k p xs).length):(j4 k p xs)[i]=Qv k p (if k=i then km p (xs[i]'(by rw [←zd k p xs];exact h)) else xs[i]'(by rw [←zd k p xs];exact h)):=by
 simp [j4,List.getElem_modify]
structure CallN (xs:List FunL):Prop where
 blk:∀f∈xs,0<f.blocks.length
 par:∀f∈xs,0≤f.params∧f.params≤6
 call:∀f∈xs,∀b∈f.blocks,∀x∈b.list,x.op=20→∀k:Nat,x.fn=k→∃h:k<xs.length,(x.args.length:Int)=xs[k].params

def ZA (xs:List FunL) (k p:Nat):Prop:=∀k' (_:k'<xs.length) (p':Nat),(p':Int)<xs[k'].params→(k'<k∨(k'=k∧p'<p))→tkF p' xs[k']=true
inductive Dr (t:List FunL):List FunL→Prop
 | start:Dr t t
 | step {xs:List FunL} {k p:Nat} (h:Dr t xs) (hk:k<xs.length) (hp:(p:Int)<xs[k].params) (ht:tkF p xs[k]=false) (hf:ZA xs k p):Dr t (j4 k p xs)
def Taken (xs:List FunL):Prop:=ZA xs xs.length 0
def Je (d n:Int):InsL:={ op:=1,dst:=d,ar:=false,an:=n,br:=false,bn:=0,fn:=0,args:=[] }
def xA (hd:List InsL) (f:FunL):FunL:={ f with blocks:=f.blocks.modify 0 fun b=>{ b with list:=hd++b.list } }
inductive Al (t:List FunL):Nat→Nat→List FunL→List InsL→Prop
 | start:Al t 0 0 t []
 | skip {k p:Nat} {xs:List FunL} {hd:List InsL} (h:Al t k p xs hd) (hk:k<xs.length) (hp:(p:Int)<xs[k].params) (ha:kK k p xs=none):Al t k (p+1) xs hd
 | drop {k p:Nat} {xs:List FunL} {hd:List InsL} {n:Int} (h:Al t k p xs hd) (hk:k<xs.length) (hp:(p:Int)<xs[k].params) (ha:kK k p xs=some n):Al t k p (j4 k p xs) (hd++[Je (xs[k].params - 1) n])
 | next {k p:Nat} {xs:List FunL} {hd:List InsL} (h:Al t k p xs hd) (hk:k<xs.length) (hp:¬ (p:Int)<xs[k].params):Al t (k+1) 0 (xs.modify k (xA hd)) []

def psum (xs:List FunL):Nat:=(xs.map fun f=>f.params.toNat).sum
theorem Xn (f:FunL):xA [] f=f:=by
 unfold xA
 have e:(fun b:BlkL=>{ b with list:=[]++b.list })=id:=by funext b;rfl
 rw [e,List.modify_id]
theorem JU (k:Int) (p:Nat) (f:FunL):(Qv k p f).params=f.params:=rfl
theorem jW {k p:Nat} {xs:List FunL} {i:Nat} (h:i<(j4 k p xs).length):(j4 k p xs)[i].params=if k=i then (xs[i]'(by rw [←zd k p xs];exact h)).params - 1 else (xs[i]'(by rw [←zd k p xs];exact h)).params:=by
 rw [vy h,JU]
 split<;>rfl
theorem Jf {xs:List FunL} {k:Nat} {h:FunL→FunL} (hk:k<xs.length) (hp:(h xs[k]).params.toNat<xs[k].params.toNat):psum (xs.modify k h)<psum xs:=by
 unfold psum
 induction xs generalizing k with
 | nil=>simp at hk
 | cons a xs ih=>
  cases k with
  | zero=>simp at hp ⊢;exact hp
  | succ k=>
   have:=ih (k:=k) (by simpa using hk) (by simpa using hp)
   simpa using this
theorem psum_delF (k:Int) (p:Nat) (xs:List FunL):psum (xs.map (Qv k p))=psum xs:=by
 unfold psum
 rw [List.map_map]
 rfl
theorem VA {k p:Nat} {xs:List FunL} (hk:k<xs.length) (hp:(p:Int)<xs[k].params):psum (j4 k p xs)<psum xs:=by
 unfold j4
 rw [psum_delF]
 exact Jf hk (by show (xs[k].params - 1).toNat<_;omega)
theorem CallN.drop {xs:List FunL} (h:CallN xs) {k p:Nat} (hk:k<xs.length) (hp:(p:Int)<xs[k].params):CallN (j4 k p xs):=by
 have hat:∀f∈j4 k p xs,∃i,∃hi:i<xs.length,f=Qv k p (if k=i then km p xs[i] else xs[i]):=fun f hf=>by
  obtain ⟨i,hi,rfl⟩:=List.mem_iff_getElem.1 hf
  exact ⟨i,by rw [←zd k p xs];exact hi,vy hi⟩
 refine ⟨fun f hf=>?_,fun f hf=>?_,fun f hf b hb x hx ho k' hk'=>?_⟩
 ·obtain ⟨i,hi,rfl⟩:=hat f hf
  rw [delF_len]
  split
  ·show 0<(toF _ _).blocks.length
   rw [toF_len]
   exact h.blk _ (List.getElem_mem hi)
  exact h.blk _ (List.getElem_mem hi)
 ·obtain ⟨i,hi,rfl⟩:=hat f hf
  rw [JU]
  have h1:=h.par _ (List.getElem_mem hi)
  split
  ·next e=>subst e;show 0≤xs[k].params - 1∧xs[k].params - 1≤6;omega
  exact h1
 obtain ⟨i,hi,rfl⟩:=hat f hf
 obtain ⟨b',hb',rfl⟩:=List.mem_map.1 hb
 obtain ⟨x',hx',rfl⟩:=List.mem_map.1 hx
 have key:∃x0:InsL,(∃b0∈xs[i].blocks,x0∈b0.list)∧x0.op=x'.op∧x0.fn=x'.fn∧x0.args.length=x'.args.length:=by
  by_cases hki:k=i
  ·rw [if_pos hki] at hb'
   obtain ⟨b0,hb0,rfl⟩:=List.mem_map.1 hb'
   obtain ⟨x0,hx0,rfl⟩:=List.mem_map.1 hx'
   exact ⟨x0,⟨b0,hb0,hx0⟩,rfl,rfl,by simp [toI]⟩
  rw [if_neg hki] at hb'
  exact ⟨x',⟨b',hb',hx'⟩,rfl,rfl,rfl⟩
 obtain ⟨x0,⟨b0,hb0,hx0⟩,e1,e2,e3⟩:=key
 have ho':x'.op=20:=by
  unfold Qu at ho
  split at ho<;>exact ho
 have hf':x'.fn=k':=by
  unfold Qu at hk'
  split at hk'<;>exact hk'
 obtain ⟨hk2,hl⟩:=h.call _ (List.getElem_mem hi) b0 hb0 x0 hx0 (by rw [e1,ho']) k' (by rw [e2,hf'])
 refine ⟨by rw [zd];exact hk2,?_⟩
 rw [jW (by rw [zd];exact hk2)]
 unfold Qu
 by_cases hkk:k=k'
 ·subst hkk
  rw [if_pos ⟨ho',hf'⟩,if_pos rfl]
  show ((x'.args.eraseIdx p).length:Int)=_
  rw [List.length_eraseIdx_of_lt (by omega)]
  omega
 rw [if_neg (fun h=>hkk (by have:=h.2;omega)),if_neg hkk,←e3]
 exact hl
theorem CallN.head {xs:List FunL} (h:CallN xs) {k:Nat} {hd:List InsL} (hh:∀x∈hd,x.op≠20):CallN (xs.modify k (xA hd)):=by
 have hat:∀f∈xs.modify k (xA hd),∃f0∈xs,f=f0∨f=xA hd f0:=fun f hf=>by
  obtain ⟨i,hi,rfl⟩:=List.mem_iff_getElem.1 hf
  rw [List.getElem_modify]
  have hi2:i<xs.length:=by simpa using hi
  refine ⟨xs[i],List.getElem_mem hi2,?_⟩
  split
  ·exact .inr rfl
  exact .inl rfl
 have hay:∀i (h:i<(xs.modify k (xA hd)).length),(xs.modify k (xA hd))[i].params=(xs[i]'(by simpa using h)).params:=fun i h=>by
  rw [List.getElem_modify]
  split<;>rfl
 refine ⟨fun f hf=>?_,fun f hf=>?_,fun f hf b hb x hx ho k' hk'=>?_⟩
 ·obtain ⟨f0,h0,rfl|rfl⟩:=hat f hf
  ·exact h.blk _ h0
  have:=h.blk _ h0;simpa [xA] using this
 ·obtain ⟨f0,h0,rfl|rfl⟩:=hat f hf
  ·exact h.par _ h0
  exact (h.par f0 h0:0≤f0.params∧f0.params≤6)
 have key:∃f0∈xs,∃b0∈f0.blocks,x∈b0.list:=by
  obtain ⟨f0,h0,rfl|rfl⟩:=hat f hf
  ·exact ⟨_,h0,b,hb,hx⟩
  obtain ⟨i,hi,rfl⟩:=List.mem_iff_getElem.1 hb
  simp only [xA] at hx hi
  rw [List.getElem_modify] at hx
  have hi2:i<f0.blocks.length:=by simpa using hi
  split at hx
  ·rcases List.mem_append.1 hx with hx|hx
   ·exact absurd ho (hh x hx)
   exact ⟨f0,h0,f0.blocks[i],List.getElem_mem hi2,hx⟩
  exact ⟨f0,h0,f0.blocks[i],List.getElem_mem hi2,hx⟩
 obtain ⟨f0,h0,b0,hb0,hx0⟩:=key
 obtain ⟨hk2,hl⟩:=h.call f0 h0 b0 hb0 x hx0 ho k' hk'
 exact ⟨by simpa using hk2,by rw [hay];exact hl⟩
theorem Dr.len {t xs:List FunL} (h:Dr t xs):xs.length=t.length:=by
 induction h with
 | start=>rfl
 | step _ _ _ _ _ ih=>rw [zd,ih]
theorem Dr.callN {t xs:List FunL} (h:Dr t xs) (h0:CallN t):CallN xs:=by
 induction h with
 | start=>exact h0
 | step _ hk hp _ _ ih=>exact ih.drop hk hp
theorem Al.len {t xs:List FunL} {k p:Nat} {hd:List InsL} (h:Al t k p xs hd):xs.length=t.length:=by
 induction h with
 | start=>rfl
 | skip _ _ _ _ ih=>exact ih
 | drop _ _ _ _ ih=>rw [zd,ih]
 | next _ _ _ ih=>simpa using ih
theorem Al.callN {t xs:List FunL} {k p:Nat} {hd:List InsL} (h:Al t k p xs hd) (h0:CallN t):CallN xs∧∀x∈hd,x.op≠20:=by
 induction h with
 | start=>exact ⟨h0,fun x h=>by cases h⟩
 | skip _ _ _ _ ih=>exact ih
 | drop _ hk hp _ ih=>
  refine ⟨ih.1.drop hk hp,fun x hx=>?_⟩
  rcases List.mem_append.1 hx with hx|hx
  ·exact ih.2 x hx
  obtain rfl:=List.mem_singleton.1 hx
  show (1:Int)≠20
  omega
 | next _ _ _ ih=>exact ⟨ih.1.head ih.2,fun x h=>by cases h⟩
theorem Al.head_len {t xs:List FunL} {k p:Nat} {hd:List InsL} (h:Al t k p xs hd) (h0:CallN t) (hk:k<xs.length):(hd.length:Int)+xs[k].params≤6:=by
 induction h with
 | start=>have:=h0.par _ (List.getElem_mem hk);simp;omega
 | skip _ _ _ _ ih=>exact ih hk
 | @drop k p xs hd n h hk' hp _ ih=>
  have:=ih hk'
  rw [jW,if_pos rfl]
  simp only [List.length_append,List.length_singleton]
  omega
 | @next k p xs hd h _ _ _=>
  have h1:=(h.callN h0).1
  rw [List.getElem_modify]
  have h2:=h1.par _ (List.getElem_mem (by simpa using hk:k+1<xs.length))
  split
  ·omega
  simpa using h2.2
/-! how long lists are -/
def Small (B:Nat) (f:FunL):Prop:=∀b∈f.blocks,b.list.length≤B
theorem Small.drop {B p:Nat} {f:FunL} (h:Small B f):Small B (km p f):=fun b hb=>by
 obtain ⟨b',hb',rfl⟩:=List.mem_map.1 hb
 show (b'.list.map _).length≤B
 rw [List.length_map]
 exact h b' hb'
theorem Small.del {B p:Nat} {k:Int} {f:FunL} (h:Small B f):Small B (Qv k p f):=fun b hb=>by
 obtain ⟨b',hb',rfl⟩:=List.mem_map.1 hb
 show (b'.list.map _).length≤B
 rw [List.length_map]
 exact h b' hb'
theorem Qw {B k p:Nat} {xs:List FunL} {i:Nat} (h:i<(j4 k p xs).length) (hs:Small B (xs[i]'(by rw [←zd k p xs];exact h))):Small B (j4 k p xs)[i]:=by
 rw [vy h]
 refine Small.del ?_
 split
 ·exact hs.drop
 exact hs
theorem Dr.small {t xs:List FunL} {B:Nat} (h:Dr t xs) (h0:∀f∈t,Small B f):∀f∈xs,Small B f:=by
 induction h with
 | start=>exact h0
 | step _ _ _ _ _ ih=>
  intro f hf
  obtain ⟨i,hi,rfl⟩:=List.mem_iff_getElem.1 hf
  exact Qw hi (ih _ (List.getElem_mem _))
theorem Al.small {t xs:List FunL} {k p B:Nat} {hd:List InsL} (h:Al t k p xs hd) (h0:∀f∈t,Small B f):∀i (hi:i<xs.length),k≤i→Small B xs[i]:=by
 induction h with
 | start=>exact fun i hi _=>h0 _ (List.getElem_mem hi)
 | skip _ _ _ _ ih=>exact ih
 | drop _ _ _ _ ih=>exact fun i hi hk=>Qw hi (ih i (by rw [←zd _ _ _];exact hi) hk)
 | @next k p xs hd _ _ _ ih=>
  intro i hi hk
  have hi2:i<xs.length:=by simpa using hi
  rw [List.getElem_modify,if_neg (by omega)]
  exact ih i hi2 (by omega)
theorem le_sum:∀{l:List Nat} {n:Nat},n∈l→n≤l.sum
 | a::l,n,h=>by
  rw [List.sum_cons]
  rcases List.mem_cons.1 h with rfl|h
  ·omega
  have:=le_sum h;omega
theorem VB {f:FunL} {B:Nat} (h:xm f≤B):Small B f:=fun b hb=>by
 have h1:b.phis.length+b.list.length≤xm f:=by
  unfold xm
  exact le_sum (List.mem_map.2 ⟨b,hb,rfl⟩)
 omega
end Go.Proofs.YtgjjhadbjmcnpaaGreatDoor
namespace Go.Proofs.YtgjjhadbjmcnpaaGreatDoor
open Go.RowKit Go.Shelf

def SeqAt (F:Fence) (n:Nat) (P:Program) (g:Nat) (lb:Array Value) (el:Nat→Array Value) (N:Nat) (Kp:World→World→Prop) (w:World):Prop:=
 ∀(l:Nat) (J Jx:Nat→World→Prop) (W:World),Below w.heap.size w W→AbidesFrom W.heap.size J→AbidesFrom W.heap.size Jx→
  (∀i W1,i<N→J i W1→YieldAt F (n - 1) P l (el i) W1 fun e W'=>(e = .returned (.bool true)∧J (i+1) W'∧Kp W1 W')∨(e = .returned (.bool false)∧Jx i W'))→J 0 W→
  CallsIn F n P g (#[.func (.yield l) #[] #[]]++lb) W fun e W'=>(∃v,e = .returned v)∧(J N W'∨∃i,i<N∧Jx i W')
def xQ (B:Nat) (Kp:World→World→Prop) (I:Nat→World→Prop) (Ix:Code→Nat→World→Prop) (i:Nat) (W:World) (e:Exit) (W':World):Prop:=
 KeepsFrom B W W'∧match e with
  | .normal=>Kp W W'∧I (i+1) W'
  | .ret=>Ix .ret i W'
  | .exit id=>Ix (.exit id) i W'
  | .goto t=>Ix (.goto t) i W'
  | _=>False
section
variable {F : Fence} {n : Nat} {P : Program} {g : Operand} {ps : Array Tmp} {assign body : Code} {Q : Exit → Act → World → Prop} {a : Act} {w : World} {gf : Nat} {lb : Array Value} {el : Nat → Array Value} {N : Nat} {Kp : World → World → Prop} {w0 : World}
theorem xR (hro:F.round=none) (h1:1≤n) (hg:a.eval g = .func (.func gf) #[] lb) (hFg:F.fn gf) (eg:∀args w,(callFunc gf args).run P w = .ok (.enter gf args) w) (hseq:SeqAt F (n - 1) P gf lb el N Kp w0)
  (hKt:∀{A B C:World},Kp A B→Kp B C→Kp A C) (hKb:∀(W:World) (l:Nat) (o o':Obj),w.heap.size≤l→W.heap[l]?=some o→o.isCells=false→o.isWalk=false→Kp W (W.putObj l o')) (hb0:Below w0.heap.size w0 w) (hps:∀i,i<N→(el i).size=ps.size)
  (I:Nat→World→Prop) (Ix:Code→Nat→World→Prop) (hI:OwnFrom w.heap.size I) (hIx:∀c,OwnFrom w.heap.size (Ix c)) (h0:I 0 w) (a₁:Nat→Act)
  (hassign:∀(l i:Nat) (W:World) (K:Act→World→Prop),i<N→K (a₁ i) W→assign.wpIn (F.inRound l) (n - 1 - 1) P (Exit.then K (fun _ _ _=>False)) { tmps:=(ps.zip (el i)).foldl (fun t (p,v)=>t.setIfInBounds p v) a.tmps,defers:=[] } W)
  (hbody:∀(l i:Nat) (W:World),w.heap.size≤l→i<N→I i W→body.wpIn (F.inRound l) (n - 1 - 1) P (fun e _ W'=>xQ w.heap.size Kp I Ix i W e W') (a₁ i) W)
  (hdone:∀(D:Nat) (W:World),w.heap.size≤D→I N W→W.heap[D]?=some (.deferred (some []))→Q .normal { a with defers:={ target:=.collected D,args:=#[] }::a.defers } W)
  (hstop:∀(D:Nat) (c:Code) (i:Nat) (W:World),w.heap.size≤D→i<N→Ix c i W→W.heap[D]?=some (.deferred (some []))→c.wpIn F n P Q { a with defers:={ target:=.collected D,args:=#[] }::a.defers } W) :
  (Code.rangeFunc g ps assign body).wpIn F n P Q a w:=by
 refine wpIn_rangeFunc fun fn hfn=>?_
 rw [hro]
 -- the record of the loop and the block for what rounds defer: the blocks L and D
 obtain ⟨rec,hrec⟩:∃rec:LoopState→Option Code→Loop,rec=fun st pe=>{ state:=st,pending:=pe,fn,tmps:=a.tmps,params:=ps,assign,body,defers:=w.heap.size }:=⟨_,rfl⟩
 have hst:∀st pe,{ rec .ready none with state:=st,pending:=pe }=rec st pe:=fun st pe=>by rw [hrec]
 let Bk:LoopState→Option Code→World→Prop:=fun st pe W=>W.heap[w.heap.size+1]?=some (.loop (rec st pe))∧W.heap[w.heap.size]?=some (.deferred (some []))
 have hkF:Bk .ready none ((w.alloc (.deferred (some []))).alloc (.loop (rec .ready none))):=
  ⟨qq (by simp),qh (qx w _)⟩
 have hkG:∀{st pe A B row},Bk st pe A→A.grownBy B row→(∀r,row=some r→∃o:Obj,A.heap[r]?=some o∧o.isWalk=true)→Bk st pe B:=fun h hg hr=>
  ⟨(grownBy_keeps hg hr h.1 rfl).trans h.1,(grownBy_keeps hg hr h.2 rfl).trans h.2⟩
 have heQ:∀{st pe st' pe' A},Bk st pe A→Bk st' pe' (A.putObj (w.heap.size+1) (.loop (rec st' pe'))):=fun {st pe st' pe' A} h=>
  ⟨World.putObj_heap_same (qd h.1),(World.putObj_heap_other (by omega)).trans h.2⟩
 obtain ⟨W1,hW1⟩:∃W1,W1=(w.alloc (.deferred (some []))).alloc (.loop (rec .ready none)):=⟨_,rfl⟩
 rw [←hW1] at hkF
 have hz1:W1.heap.size=w.heap.size+1+1:=by rw [hW1];simp
 have hent:(Instr.enterLoop fn a.tmps ps assign body none).run P w = .ok (w.heap.size+1,[{ target:=.collected w.heap.size,args:=#[] }]) W1:=by
  rw [hW1,hrec];exact run_enterLoop_outer _ _ _ _ _
 refine ⟨w.heap.size+1,[{ target:=.collected w.heap.size,args:=#[] }],W1,{ target:=.fn (.func gf) lb,args:=#[.func (.yield (w.heap.size+1)) #[] #[]] },W1,gf,
  #[.func (.yield (w.heap.size+1)) #[] #[]]++lb,W1,hent,?_,fun f' hf'=>by simp [Target.leads] at hf';subst hf';exact hFg,?_,fun _=>h1,?_⟩
 ·simp only [resolve,hg]
  simp [go_sem]
 ·simp [invoke,go_sem,eg]
 have heR:∀{A:World} {row:Option Nat},(∀r,row=some r→W1.heap.size≤r∧∃o:Obj,A.heap[r]?=some o∧o.isWalk=true)→∀r,row=some r→w.heap.size≤r∧∃o:Obj,A.heap[r]?=some o∧o.isCells=false:=fun hr r e=>by
  obtain ⟨hB,o,ho,hw⟩:=hr r e
  exact ⟨by omega,o,ho,Obj.not_cells_of_walk hw⟩
 refine (hseq (w.heap.size+1) (fun i W=>I i W∧Bk .ready none W) (fun i W=>∃c,Ix c i W∧Bk .done (some c) W) _
  (by rw [hW1];exact hb0.trans ((((Below.refl _ w).alloc (Nat.le_refl _) _).alloc (by simp) _).mono hb0.size))
  (fun s A B row hs hg' hr=>⟨hI s A B row hs.1 hg' (heR hr),hkG hs.2 hg' fun r e=>(hr r e).2⟩)
  (fun s A B row ⟨c,hc,hk⟩ hg' hr=>⟨c,hIx c s A B row hc hg' (heR hr),hkG hk hg' fun r e=>(hr r e).2⟩)
  (fun i W hlt ⟨hi,hk⟩=>?_) ⟨by rw [hW1];exact hI.alloc _ (hI.alloc _ h0),hkF⟩).mono ?_
 ·have hy:=run_yield (P:=P) (args:=el i) hk.1 (by rw [hrec];exact hps i hlt)
  rw [hrec] at hy
  refine ⟨fn,_,assign,body,hy,roundIn_of_wpIn hfn (hassign _ i W _ hlt ⟨_,run_beginRound hk.1 (by rw [hrec]),?_⟩)⟩
  rw [show ({ rec .ready none with state:=.busy }:Loop)=rec .busy none by rw [hrec]]
  have hkb:=heQ (st':=.busy) (pe':=none) hk
  refine wpIn_mono (hbody _ i _ (by omega) hlt (hI.putObj _ hi (by omega) hk.1 rfl)) fun e a3 W3 ⟨hk3,hp⟩=>?_
  have hb3:Bk .busy none W3:=⟨hk3.same _ _ (by omega) hkb.1 rfl,hk3.same _ _ (Nat.le_refl _) hkb.2 rfl⟩
  have fin:∀jump:Option Code,(Instr.endRound (w.heap.size+1) jump).run P W3 = .ok (.bool jump.isNone) (W3.putObj (w.heap.size+1) (.loop (rec (if jump.isNone then .ready else .done) jump))):=fun jump=>by
   have:=run_endRound (P:=P) jump hb3.1
   rw [hrec] at this ⊢
   exact this
  have leave:∀c:Code,Ix c i W3→_:=fun c hc=>(⟨.bool false,W3.putObj (w.heap.size+1) (.loop (rec .done (some c))),fin (some c),.inr ⟨rfl,c,(hIx c).putObj _ hc (by omega) hb3.1 rfl,heQ hb3⟩⟩:∃v W4,(Instr.endRound (w.heap.size+1) (some c)).run P W3 = .ok v W4∧((Ending.returned v = .returned (.bool true)∧(I (i+1) W4∧Bk .ready none W4)∧Kp W W4)∨(Ending.returned v = .returned (.bool false)∧∃c,Ix c i W4∧Bk .done (some c) W4)))
  cases e with
  | normal=>
   exact ⟨_,_,fin none,.inl ⟨rfl,⟨hI.putObj _ hp.2 (by omega) hb3.1 rfl,heQ hb3⟩,hKt (hKt (hKb _ _ _ _ (by omega) hk.1 rfl rfl) hp.1) (hKb _ _ _ _ (by omega) hb3.1 rfl rfl)⟩⟩
  | ret=>exact leave _ hp
  | exit id=>exact leave _ hp
  | goto t=>exact leave _ hp
  | panic ch=>exact hp.elim
  | outgrown=>exact hp.elim
 have shut:∀{st pe W2},st≠.busy→Bk st pe W2→(Instr.endLoop (w.heap.size+1)).run P W2 = .ok pe (W2.putObj (w.heap.size+1) (.loop (rec .exhausted pe))):=fun {st pe W2} hne hk=>by
  have:=run_endLoop (P:=P) hk.1 (by rw [hrec];exact hne)
  rw [hrec] at this ⊢
  exact this
 rintro e W2 ⟨⟨v,rfl⟩,(⟨hi,hk⟩|⟨i,hlt,c,hi,hk⟩)⟩
 ·exact ⟨none,_,shut (by simp) hk,hdone _ _ (Nat.le_refl _) (hI.putObj _ hi (by omega) hk.1 rfl) (heQ hk).2⟩
 exact ⟨some c,_,shut (by simp) hk,hstop _ c i _ (Nat.le_refl _) hlt ((hIx c).putObj _ hi (by omega) hk.1 rfl) (heQ hk).2⟩
end
attribute [local go_sem] Oper.semAt_some

theorem xJ {ts:Array Value} {n:Nat} (h:ts.size=n):ts=((List.range n).map fun i=>ts.getD i undef).toArray:=by
 subst h
 refine Array.ext (by simp) fun i h1 h2=>?_
 simp [Array.getD,h1]

def zX (ll:Nat→Nat):Nat→List (Nat×Nat)
 | 0=>[]
 | m+1=>zX ll m++(List.range (ll m)).map fun j=>(m,j)
theorem JV (ll:Nat→Nat) {m:Nat}:∀{n},m≤n→∃l,zX ll n=zX ll m++l
 | 0,h=>by
  obtain rfl:m=0:=by omega
  exact ⟨[],by simp⟩
 | n+1,h=>by
  rcases Nat.lt_or_ge m (n+1) with g|g
  ·obtain ⟨l,e⟩:=JV ll (m:=m) (n:=n) (by omega)
   exact ⟨l++(List.range (ll n)).map fun j=>(n,j),by rw [zX,e,List.append_assoc]⟩
  obtain rfl:m=n+1:=by omega
  exact ⟨[],by simp⟩
theorem kn (ll:Nat→Nat) (m:Nat):(zX ll (m+1)).length=(zX ll m).length+ll m:=by simp [zX]
theorem kL {ll:Nat→Nat} {m n j:Nat} (hm:m<n) (hj:j<ll m):(zX ll n)[(zX ll m).length+j]?=some (m,j):=by
 obtain ⟨l,e⟩:=JV ll (m:=m+1) (n:=n) (by omega)
 rw [e,List.getElem?_append_left (by rw [kn];omega),zX,List.getElem?_append_right (by omega)]
 simp [hj]
theorem ZB {ll:Nat→Nat} {m n j:Nat} (hm:m<n) (hj:j<ll m):(zX ll m).length+j<(zX ll n).length:=by
 have:=kL hm hj
 exact (List.getElem?_eq_some_iff.1 this).1
structure EachSh (Bx fb fo:Nat) (q:Option Addr) (nb c:Nat) (lq:Nat→Option Addr) (ll lc:Nat→Nat) (W:World):Prop where
 box:W.cell? ⟨Bx,0,none⟩=some (.pointer (some ⟨fb,fo,none⟩))
 fn:W.cell? ⟨fb,fo+3,none⟩=some (.slice q nb c)
 blk:∀m,m<nb→∃bb bo,q=some ⟨bb,bo,none⟩∧W.cell? ⟨bb,bo+m*6+1,none⟩=some (.slice (lq m) (ll m) (lc m))
def j9 (lp:Nat→Nat×Nat) (ll:Nat→Nat) (nb i:Nat):Value:=match (zX ll nb)[i]? with
 | some (m,j)=>.pointer (some ⟨(lp m).1,(lp m).2+j*8,none⟩)
 | none=>undef
def Qx (lp:Nat→Nat×Nat) (ll:Nat→Nat) (nb i:Nat):Array Value:=#[j9 lp ll nb i]
theorem vA {ll:Nat→Nat} {n i:Nat} (h:i<(zX ll n).length):∃m j,m<n∧j<ll m∧i=(zX ll m).length+j:=by
 induction n with
 | zero=>simp [zX] at h
 | succ n ih=>
  rw [kn] at h
  rcases Nat.lt_or_ge i (zX ll n).length with g|g
  ·obtain ⟨m,j,h1,h2,h3⟩:=ih g
   exact ⟨m,j,by omega,h2,h3⟩
  exact ⟨n,i - (zX ll n).length,by omega,by omega,by omega⟩
theorem jX {lp:Nat→Nat×Nat} {ll:Nat→Nat} {nb m j:Nat} (hm:m<nb) (hj:j<ll m):j9 lp ll nb ((zX ll m).length+j) = .pointer (some ⟨(lp m).1,(lp m).2+j*8,none⟩):=by
 unfold j9
 rw [kL hm hj]
theorem jh {W:World} {l b o:Nat} {x:Obj} {v:Value} (h:W.heap[l]?=some x) (hx:x.isCells=false) (hc:W.cell? ⟨b,o,none⟩=some v):b≠l:=by
 rintro rfl
 unfold World.cell? at hc
 rw [h] at hc
 cases x<;>simp [Obj.isCells] at hx hc
theorem EachSh.other {Bx fb fo:Nat} {q:Option Addr} {nb c:Nat} {lq:Nat→Option Addr} {ll lc:Nat→Nat} {W W':World} (h:EachSh Bx fb fo q nb c lq ll lc W) (hk:∀b o v,W.cell? ⟨b,o,none⟩=some v→(b=Bx∨b=fb∨∃o,q=some ⟨b,o,none⟩)→W'.cell? ⟨b,o,none⟩=some v):EachSh Bx fb fo q nb c lq ll lc W':=
 ⟨hk _ _ _ h.box (.inl rfl),hk _ _ _ h.fn (.inr (.inl rfl)),fun m hm=>by
  obtain ⟨bb,bo,hq,hc⟩:=h.blk m hm
  exact ⟨bb,bo,hq,hk _ _ _ hc (.inr (.inr ⟨bo,hq⟩))⟩⟩
theorem EachSh.putObj {Bx fb fo:Nat} {q:Option Addr} {nb c:Nat} {lq:Nat→Option Addr} {ll lc:Nat→Nat} {W:World} (h:EachSh Bx fb fo q nb c lq ll lc W) {l:Nat} {o:Obj} (o':Obj) (hl:W.heap[l]?=some o) (ho:o.isCells=false):EachSh Bx fb fo q nb c lq ll lc (W.putObj l o'):=
 h.other fun b o v hc _=>by
  have hne:b≠l:=jh hl ho hc
  exact (World.cell?_of_block (a:=⟨b,o,none⟩) (World.putObj_heap_other (by omega))).trans hc
theorem EachSh.below {Bx fb fo:Nat} {q:Option Addr} {nb c:Nat} {lq:Nat→Option Addr} {ll lc:Nat→Nat} {W W':World} (h:EachSh Bx fb fo q nb c lq ll lc W) (hb:Below W.heap.size W W'):EachSh Bx fb fo q nb c lq ll lc W':=
 h.other fun b o _ hc _=>(hb.cell (p:=⟨b,o,none⟩) (q9 hc)).trans hc
/-! what a loop's invariant says abides the law's own book-keeping -/
theorem own_slo {α:Type} {e:TypeId} {size:Nat} {R:ElemO α} (hR:vS R) {v:Value} {S:Blks} {B:Nat} (hS:∀b,S b→b<B) (g:Nat→List α):OwnFrom B (fun i W=>SlO e size R W v (g i) S):=fun s W W' row hs hg hr=>
 SlO.loc hR hs (fun k hk=>hg.block k (hs.inb k hk) (fun e=>by have:=(hr k e.symm).1;have:=hS k hk;omega)) hg.size
theorem own_sh {Bx fb fo:Nat} {q:Option Addr} {nb c:Nat} {lq:Nat→Option Addr} {ll lc:Nat→Nat} {B:Nat}:OwnFrom B (fun (_:Nat) W=>EachSh Bx fb fo q nb c lq ll lc W):=fun s W W' row hs hg hr=>
 hs.other fun b o v hc _=>(World.cell?_of_block (a:=⟨b,o,none⟩) (hg.block b (q9 hc) (fun e=>by
  obtain ⟨_,x,hx,hn⟩:=hr b e.symm
  exact jh hx hn hc rfl))).trans hc
theorem vB {S:Blks} {w0:World} {B:Nat} (hB:w0.heap.size≤B):OwnFrom B (fun (_:Nat) W=>Kept S w0 W):=fun s W W' row hs hg hr=>
 ⟨hg.os.trans hs.os,hg.tape.trans hs.tape,hg.output.trans hs.output,Nat.le_trans hs.size hg.size,fun k hk hn=>(hg.block k (Nat.lt_of_lt_of_le hk hs.size) (fun e=>by have:=(hr k e.symm).1;omega)).trans (hs.block k hk hn)⟩

theorem ZC (F:Fence) (n:Nat) (hF:F.fn 74) (hro:F.round=none) (hn:1≤n) (Bx fb fo c nb:Nat) (q:Option Addr) (lq:Nat→Option Addr) (lp:Nat→Nat×Nat) (ll lc:Nat→Nat) (w:World) (hnb:nb*96≤140737488351232) (hll:∀m,m<nb→ll m*80≤140737488351232)
  (hlq:∀m,m<nb→0<ll m→lq m=some ⟨(lp m).1,(lp m).2,none⟩) (hsh:EachSh Bx fb fo q nb c lq ll lc w) :
  SeqAt F n Tryz.prog 74 #[.pointer (some ⟨Bx,0,none⟩)] (Qx lp ll nb) (zX ll nb).length (fun W W'=>EachSh Bx fb fo q nb c lq ll lc W→EachSh Bx fb fo q nb c lq ll lc W') w:=by
 intro l J Jx W hW _ _ hY h0
 have HS:=q8 (hsh.other (W':=W) fun b o v hc _=>(hW.cell (p:=⟨b,o,none⟩) (q9 hc)).trans hc)
 have HY:=q8 hY
 have HLQ:=q8 hlq
 have HLL:=q8 hll
 clear hsh hY hlq hW hll
 refine callsIn_of_wp Tryz.func74 rfl hF ?_ hro
 simp only [Tryz.ntmps74,List.size_toArray,List.length_cons,List.length_nil,Nat.reduceAdd,Nat.reduceSub,Array.replicate_succ,Array.replicate_zero,List.push_toArray,List.append_toArray,List.nil_append,List.cons_append]
 have cb:=HS.out.box
 have f0:=HS.out.fn
 gi_wp2
 gi_loopw [10] (fun i wr=>∃m:Nat,m≤nb∧i = .int .i64 m∧J (zX ll m).length wr∧EachSh Bx fb fo q nb c lq ll lc wr) (fun i _=>nb - (intOf i).toNat)
 case atStart=>exact ⟨0,by omega,rfl,h0,HS.out⟩
 case round=>
  obtain ⟨m,hm,rfl,hJ,hK⟩:=hrel
  obtain ⟨wo,hwo⟩:∃wo:World,wo=wr:=⟨_,rfl⟩
  have cb:=hK.box
  have c0:=hK.fn
  have HK:=q8 hK
  clear hK
  by_cases hlt:m<nb
  rotate_left
  ·obtain rfl:m=nb:=by omega
   gi_wp2
   go_end0
   exact ⟨⟨_,rfl⟩,.inl hJ⟩
  obtain ⟨b3,o3,rfl,e1⟩:=HK.out.blk m hlt
  have hl2:=HLL.out m hlt
  gi_wp2
  subst hwo
  gi_loopw [22] (fun i wr=>∃j:Nat,j≤ll m∧i = .int .i64 j∧J ((zX ll m).length+j) wr∧EachSh Bx fb fo (some ⟨b3,o3,none⟩) nb c lq ll lc wr) (fun i _=>ll m - (intOf i).toNat)
  case atStart=>exact ⟨0,by omega,rfl,hJ,HK.out⟩
  case round=>
   clear cb c0 HK e1
   obtain ⟨j,hj,rfl,hJ,hK⟩:=hrel
   have cb:=hK.box
   have c0:=hK.fn
   obtain ⟨_,_,he,e1⟩:=hK.blk m hlt
   cases he
   have HK:=q8 hK
   clear hK
   by_cases hjl:j<ll m
   ·have hlq:=HLQ.out m hlt (by omega)
    rw [hlq] at e1
    obtain ⟨fn,tmps,assign,body,hy,hR⟩:=HY.out _ wr (ZB hlt hjl) hJ
    have he:Qx lp ll nb ((zX ll m).length+j)=#[.pointer (some ⟨(lp m).1,(lp m).2+j*8,none⟩)]:=by unfold Qx;rw [jX hlt hjl]
    rw [he] at hy
    have HR:=q8 hR
    clear hR he hlq
    gi_wp2
    refine HR.out.mono ?_
    rintro e W3 (⟨rfl,hJ3,hk3⟩|⟨rfl,hJx3⟩)
    ·have HK3:=q8 (hk3 HK.out)
     clear hk3
     gi_wp2
     go_roundw
     case rel=>exact ⟨j+1,by omega,by go_num,hJ3,HK3.out⟩
     case measure=>simp [intOf];omega
    gi_wp2
    refine bodyPost_ret (results_none rfl _ _ _) rfl ?_
    exact ⟨⟨_,rfl⟩,.inr ⟨_,ZB hlt hjl,hJx3⟩⟩
   obtain rfl:j=ll m:=by omega
   gi_wp2
   go_roundw
   case rel=>exact ⟨m+1,by omega,by go_num,by rw [kn];exact hJ,HK.out⟩
   case measure=>simp [intOf];omega
end Go.Proofs.YtgjjhadbjmcnpaaGreatDoor
