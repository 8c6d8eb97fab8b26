/-
  The contract of turneryref5.TailRoom.
-/
import Derived.Test.YtecdphhdmjmmnaaGreatDoorJSamB
set_option maxRecDepth 100000
set_option maxHeartbeats 16000000
namespace Go.Proofs.YtecdphhdmjmmnaaGreatDoor
open Go.RowKit

theorem Kl (x:UniL) (p1 p2 q1 q2:Option Addr) (c1 c2 d1 d2:Nat) (w:World) (hG:SlF w 3 48 (GloR w) (.slice p1 x.globals.length c1) x.globals) (hF:SlF w 4 56 (FunR w) (.slice p2 x.funcs.length c2) x.funcs) (gG:SlF w 3 48 (GloR w) (.slice q1 x.globals.length d1) x.globals) (gF:SlF w 4 56 (FunR w) (.slice q2 x.funcs.length d2) x.funcs) :
  Calls Tryz.prog 14 #[.agg #[.slice p1 x.globals.length c1,.slice p2 x.funcs.length c2],.agg #[.slice q1 x.globals.length d1,.slice q2 x.funcs.length d2]] w fun e w'=>e = .returned (.bool true)∧Below w.heap.size w w':=by
 have hlf:x.funcs.length*56≤140737488351232:=hF.bdC
 have HBd:=q7 hG.bdC
 have hG':SliceAt w 3 (GloR w) p1 x.globals:=by obtain⟨_,_,e,_,_,h⟩:=hG.outC;cases e;exact h
 have hF':SliceAt w 4 (FunR w) p2 x.funcs:=by obtain⟨_,_,e,_,_,h⟩:=hF.outC;cases e;exact h
 have gG':SliceAt w 3 (GloR w) q1 x.globals:=by obtain⟨_,_,e,_,_,h⟩:=gG.outC;cases e;exact h
 have gF':SliceAt w 4 (FunR w) q2 x.funcs:=by obtain⟨_,_,e,_,_,h⟩:=gF.outC;cases e;exact h
 have HG:=q7 hG'
 have HF:=q7 hF'
 have GG:=q7 gG'
 have GF:=q7 gF'
 clear hG hF gG gF hG' hF' gG' gF'
 have hle:((x.funcs.length:Int) != x.funcs.length)=false:=by simp
 go_enter Tryz.func14,Tryz.ntmps14
 go_wp2_with fail
 refine(Je x.globals _ _ _ _ _ HBd.out (zS HG.out bZ) (zS GG.out bZ)).mono ?_
 rintro e w1 ⟨rfl,hb1⟩
 have HB1:Hid (Below w.heap.size w w1):=Below.trans bZ (hb1.mono (by simp;omega))
 have HA:=q7 (qd hb1 (k:=w.heap.size) (by simp;omega) (qj (qh (w:=w) (o:=.cells #[.slice p1 x.globals.length c1,.slice p2 x.funcs.length c2] 25) rfl)))
 have HB:=q7 (qd hb1 (k:=w.heap.size+1) (by simp) (qh (w:=w.alloc (.cells #[.slice p1 x.globals.length c1,.slice p2 x.funcs.length c2] 25)) (o:=.cells #[.slice q1 x.globals.length d1,.slice q2 x.funcs.length d2] 25) (by simp)))
 have a1:w1.cell? ⟨w.heap.size,1,none⟩=some (.slice p2 x.funcs.length c2):=(blk HA.out).1 1
 have b1:w1.cell? ⟨w.heap.size+1,1,none⟩=some (.slice q2 x.funcs.length d2):=(blk HB.out).1 1
 clear hb1
 go_wp2_with fail
 clear a1 b1
 go_loopw [5] (fun i wr=>∃k:Nat,k≤x.funcs.length∧i = .int .i64 k∧Below w1.heap.size w1 wr) (fun i _=>x.funcs.length - (intOf i).toNat)
 case atStart=>exact⟨0,by omega,rfl,Below.refl _ _⟩
 case round=>
  obtain⟨k,hk,rfl,hb⟩:=hrel
  have HBr:=q7 hb
  have HBw:Hid (Below w.heap.size w wr):=HB1.out.trans (hb.mono HB1.out.size)
  have hA:=(hb.block w.heap.size (q9 HA.out)).trans HA.out
  have hB:=(hb.block (w.heap.size+1) (q9 HB.out)).trans HB.out
  have a1:wr.cell? ⟨w.heap.size,1,none⟩=some (.slice p2 x.funcs.length c2):=(blk hA).1 1
  have b1:wr.cell? ⟨w.heap.size+1,1,none⟩=some (.slice q2 x.funcs.length d2):=(blk hB).1 1
  have za:=q9 hA
  have zb:=q9 hB
  clear hb hA hB
  by_cases hlt:k<x.funcs.length
  ·obtain⟨bp,op,qa,ca,hp,e0,e1,e2,e3,n1,_,_,l1,s1⟩:=kd HF.out HBw.out hlt
   obtain⟨bq,oq,qb,cb,hq,f0,f1,f2,f3,n2,_,_,l2,s2⟩:=kd GF.out HBw.out hlt
   subst hp hq
   have hz1:=q8 e0
   have hz2:=q8 f0
   have HS1:=q7 s1
   have HS2:=q7 s2
   clear s1 s2
   have g1:(0:Int)≤(k:Int):=by omega
   have g2:(k:Int)<x.funcs.length:=by omega
   go_wp2_with fail
   go_region_held3 (fun w'=>w'.cell? ⟨w.heap.size,1,none⟩=some (.slice (some ⟨bp,op,none⟩) x.funcs.length c2)∧w'.cell? ⟨w.heap.size+1,1,none⟩=some (.slice (some ⟨bq,oq,none⟩) x.funcs.length d2)∧w'.cell? ⟨bp,op+k*4,none⟩=some (.string x.funcs[k].name)∧w'.cell? ⟨bp,op+k*4+1,none⟩=some (.int .i64 x.funcs[k].params)∧w'.cell? ⟨bp,op+k*4+2,none⟩=some (.int .i64 x.funcs[k].regs)∧w'.cell? ⟨bp,op+k*4+3,none⟩=some (.slice qa x.funcs[k].blocks.length ca)∧w'.cell? ⟨bq,oq+k*4,none⟩=some (.string x.funcs[k].name)∧w'.cell? ⟨bq,oq+k*4+1,none⟩=some (.int .i64 x.funcs[k].params)∧w'.cell? ⟨bq,oq+k*4+2,none⟩=some (.int .i64 x.funcs[k].regs)∧w'.cell? ⟨bq,oq+k*4+3,none⟩=some (.slice qb x.funcs[k].blocks.length cb)) (go_keep)
    (first|(go_at_call 36;refine(func_same x.funcs[k] _ _ _ _ _ n1 l1 (zF HS1.out bZ) (zF HS2.out bZ)).mono ?_;rintro e w2 ⟨rfl,hb2⟩;have hq1:=fun o=>hb2.cell (p:=⟨bp,o,none⟩) (by simpa using hz1);have hq2:=fun o=>hb2.cell (p:=⟨bq,o,none⟩) (by simpa using hz2);have hq5:=hb2.cell (p:=⟨w.heap.size,1,none⟩) (by simpa using za);have hq6:=hb2.cell (p:=⟨w.heap.size+1,1,none⟩) (by simpa using zb)))
   all_goals
    have HN:Hid (Below w1.heap.size w1 w2):=HBr.out.trans (Below.trans bZ (hb2.mono (by simp;exact HBr.out.size)))
    clear hb2 hq1 hq2 hq5 hq6
    go_wp2
    exact⟨⟨k+1,by omega,by go_num,HN.out⟩,by simp[intOf];omega⟩
  obtain rfl:k=x.funcs.length:=by omega
  go_wp2_with fail
  go_ret
  exact⟨rfl,HBw.out⟩

theorem none_none (w:World):Calls Tryz.prog 11 #[.agg #[.slice none 0 0,.slice none 0 0]] w fun e w'=>e = .returned (.bool true)∧Below w.heap.size w w':=by
 go_enter Tryz.func11,Tryz.ntmps11
 go_wp2_with fail
 go_ret
 exact⟨rfl,by exact bZ⟩
end Go.Proofs.YtecdphhdmjmmnaaGreatDoor
namespace Go.Proofs.YtecdphhdmjmmnaaGreatDoor
open Go.RowKit Go.Shelf

theorem jn:Vl qO:=fun f hp b hb=>by
 cases e:f.blocks.any Kd with
 | true=>rw[X4 e]at hp;cases hp
 | false=>exact(QW e).1 b hb
theorem UniO.readT {w:World} {p1 p2:Option Addr} {n1 c1 n2 c2:Nat} {x:UniL} {S:Blks} (h:UniO w [.slice p1 n1 c1,.slice p2 n2 c2] x S):SlF w 3 48 (GloR w) (.slice p1 n1 c1) x.globals∧SlF w 4 56 (FunR w) (.slice p2 n2 c2) x.funcs:=by
 obtain⟨v1,v2,h0,h1,h2⟩:=h.read
 simp only[List.cons.injEq,and_true]at h0
 obtain⟨rfl,rfl⟩:=h0
 exact⟨h1,h2⟩

def OptR {α:Type} (R:ElemO α):ElemO (Option α):=fun w cs x S=>match x with
 | some a=>R w cs a S
 | none=>True
theorem Jf {α:Type} {R:ElemO α} (h:jN R):jN (OptR R):=fun w w' cs x S hx hk hz=>by
 cases x with
 | none=>trivial
 | some a=>exact h w w' cs a S hx hk hz
section
variable {α : Type} {e : TypeId} {size : Nat} {R : ElemO α} {w : World} {v : Value} {xs : List α} {S : Blks}
theorem SlO.ofOpt (h:SlO e size (OptR R) w v (xs.map some) S):SlO e size R w v xs S:=by
 obtain⟨cs,T,h⟩:=h
 have hl:(xs.map some).length=xs.length:=List.length_map ..
 have ho:=h.own
 rw[hl]at ho
 refine⟨cs,T,ho,fun i hi=>h.len i (by omega),fun i hi=>h.one i (by omega),fun i hi=>?_,fun i j hi hj=>h.two i j (by omega) (by omega),fun i hi=>h.off i (by omega),h.blk,fun i hi=>h.sub i (by omega),h.inb⟩
 have:=h.el i (by omega)
 rw[List.getElem_map]at this
 exact this
theorem SlO.out {g c:Nat} (_hsz:0<size) (h:SlO e size R w (.slice (some ⟨g,0,none⟩) xs.length c) xs S) {i:Nat} (hi:i<xs.length) :
  ∃cs T,R w cs xs[i] T∧cs.length=size∧(∀u∈cs,u.oneCell'=true)∧¬ T g∧(∀k,T k→S k)∧(∀j,j<size→w.cell? ⟨g,i*size+j,none⟩=cs[j]?)∧
   SlO e size (OptR R) w (.slice (some ⟨g,0,none⟩) xs.length c) ((xs.map some).set i none) (fun k=>S k∧¬ T k):=by
 obtain⟨cs,T,h⟩:=h
 rcases h.own.2 with⟨_,h2⟩|⟨g',cap,cur,hv,hb,hg,hc1,hc2,hc3,htk⟩
 ·omega
 obtain⟨rfl,rfl⟩:g=g'∧c=cap:=by injection hv with h1 _ h2;injection h1 with h1;injection h1 with h1;exact⟨h1,h2⟩
 have hcell:∀m j,m<xs.length→j<size→cur[m*size+j]?=(cs m)[j]?:=fun m j hm hj=>by
  have hlt:m*size+j<xs.length*size:=by
   have:(m+1)*size≤xs.length*size:=Nat.mul_le_mul_right _ hm
   rw[Nat.add_mul]at this
   omega
  rw[←zm xs.length h.len m j hm hj,←htk,List.getElem?_take_of_lt hlt,Array.getElem?_toList]
 have hl:((xs.map some).set i none).length=xs.length:=by simp
 refine⟨cs i,T i,h.el i hi,h.len i hi,h.one i hi,h.off i hi g rfl,h.sub i hi,fun j hj=>?_,cs,fun m=>if m=i then fun _=>False else T m,?_,fun m hm=>h.len m (by omega),fun m hm=>h.one m (by omega),fun m hm=>?_,fun m n hm hn hmn=>?_,fun m hm g2 hg2=>?_,fun g2 hg2=>⟨h.blk g2 hg2,h.off i hi g2 hg2⟩,fun m hm k hk=>?_,fun k hk=>h.inb k hk.1⟩
 ·rw[cell_of_row w g _ cur e (0,0) hg,hcell i j hi hj]
 ·rw[hl];exact h.own
 ·by_cases e1:m=i
  ·subst e1
   rw[List.getElem_set_self]
   trivial
  rw[List.getElem_set_ne (fun h=>e1 h.symm),List.getElem_map,if_neg e1]
  exact h.el m (by omega)
 ·split
  ·exact fun _ a _=>a
  split
  ·exact fun _ _ a=>a
  exact h.two m n (by omega) (by omega) hmn
 ·split
  ·exact fun a=>a
  exact h.off m (by omega) g2 hg2
 split at hk
 ·exact hk.elim
 next e1=>exact⟨h.sub m (by omega) k hk,fun h2=>h.two m i (by omega) hi e1 k hk h2⟩
theorem SlO.pop {g c:Nat} {x:α} (hsz:0<size) (h:SlO e size R w (.slice (some ⟨g,0,none⟩) (xs++[x]).length c) (xs++[x]) S) :
  ∃cs T,R w cs x T∧cs.length=size∧¬ T g∧(∀k,T k→S k)∧(∀j,j<size→w.cell? ⟨g,xs.length*size+j,none⟩=cs[j]?)∧
   SlO e size R w (.slice (some ⟨g,0,none⟩) xs.length c) xs (fun k=>S k∧¬ T k):=by
 have hl:(xs++[x]).length=xs.length+1:=by simp
 obtain⟨cs,T,hx,hcl,_,hg,hT,hce,ho⟩:=h.out hsz (i:=xs.length) (by omega)
 rw[List.getElem_append_right (Nat.le_refl _)]at hx
 simp only[Nat.sub_self,List.getElem_cons_zero]at hx
 refine⟨cs,T,hx,hcl,hg,hT,hce,SlO.ofOpt ?_⟩
 have h2:=ho.pre hsz (by simp) (m:=xs.length) (by simp)
 rw[show((List.map some (xs++[x])).set xs.length none).take xs.length=xs.map some by
  refine List.ext_getElem (by simp) fun i h1 h2=>?_
  have h3:i<xs.length:=by simpa using h2
  rw[List.getElem_take,List.getElem_set_ne (by omega),List.getElem_map,List.getElem_map,List.getElem_append_left h3]]at h2
 exact h2
end
theorem VB {W:World} {N:Nat} {n:Int} (hi:I64 n) (hN:W.heap[N]?=some (.cells #[.int .i64 n] 3 (0,0))):SlO 3 1 kP W (.slice (some ⟨N,0,none⟩) 1 1) [n] (fun b=>b=N):=by
 refine(SlO.flat (α:=Int) (xs:=[n]) (v:=.slice (some ⟨N,0,none⟩) 1 1) (base:=0) (cs:=fun _=>[.int .i64 n]) ⟨rfl,.inr ⟨N,1,#[.int .i64 n],rfl,Nat.zero_le _,hN,Nat.le_refl _,by unfold maxLen;omega,rfl,rfl⟩⟩ (fun _ _=>rfl) (fun _ _ u hu=>by rw[List.mem_singleton.1 hu];rfl) (fun i hi=>?_)).grow (fun b h=>by injection h with h;exact h.symm) (fun b h=>by rw[h];exact q9 hN)
 have hi1:i<1:=hi
 obtain rfl:i=0:=by omega
 exact⟨rfl,by simpa using ‹I64 n›⟩
theorem blk_turn {wo:World} {qb:Option Addr} {cb b:Nat} {bs:List BlkL} {u:BlkL→BlkL} {TB:Blks} (h:SlO 48 6 BlkO wo (.slice qb bs.length cb) (zd b u bs) TB) (hlt:b<bs.length) :
  ∃gb qp cp ql cl q3 c3 S2,qb=some ⟨gb,0,none⟩∧TB gb∧¬ S2 gb∧(∀i,S2 i→TB i)∧SlQ 53 8 80 InsO wo (.slice ql bs[b].list.length cl) bs[b].list S2∧
   RowPut wo wo 48 gb (b*6) 6 [.slice qp bs[b].phis.length cp,.slice ql bs[b].list.length cl,.int .i64 bs[b].fin.kind,.bool bs[b].fin.onr,.int .i64 bs[b].fin.onn,.slice q3 bs[b].fin.to.length c3]∧
   ∀W' (ls:List InsL) (tos:List Int) (v2 v3:Value) (S2' S3':Blks),RowPut wo W' 48 gb (b*6) 6 [.slice qp bs[b].phis.length cp,v2,.int .i64 2,.bool false,.int .i64 0,v3]→v2.oneCell'=true→v3.oneCell'=true→wo.heap.size≤W'.heap.size→(∀i,TB i→¬ S2 i→i≠gb→W'.heap[i]?=wo.heap[i]?)→
    SlQ 53 8 80 InsO W' v2 ls S2'→SlQ 3 1 8 kP W' v3 tos S3'→(∀i,S2' i→S2 i∨wo.heap.size≤i)→(∀i,S3' i→wo.heap.size≤i)→Apart S2' S3'→
    SlO 48 6 BlkO W' (.slice qb bs.length cb) ((zd b u bs).set b ⟨bs[b].phis,ls,⟨2,false,0,tos⟩⟩) (fun i=>TB i∨S2' i∨S3' i):=by
 obtain⟨gb,c2,cs',Ty,hv2,hgz,hTg,hcl,hV,hnT,hTS,hce,hfz,⟨cur2,hjV⟩,hput⟩:=h.focus qE (by omega) (i:=b) (by rw[qX];exact hlt)
 rw[xm (by rw[qX];exact hlt) (Nat.le_refl _)]at hV
 obtain⟨v1,v2,v3,S1,S2,S3,hcs,j1,j2,h3,h4,h5,a1,a2,a3,g1,g2,g3⟩:=hV
 subst hcs
 obtain⟨qp,cp,rfl,_,_⟩:=h3.sl.val
 obtain⟨q2,e2,rfl,_,_⟩:=h4.sl.val
 obtain⟨q3,e3,rfl,_,_⟩:=h5.sl.val
 refine⟨gb,qp,cp,q2,e2,q3,e3,S2,by injection hv2,hTg,fun h=>hnT (g2 _ h),fun i hi=>hTS i (g2 i hi),h4,RowPut.same hjV rfl hce,fun W' ls tos v2 v3 S2' S3' hp o2 o3 hz hk hl ht hS2 hS3 hA=>?_⟩
 have hTl:∀i,Ty i→i<wo.heap.size:=fun i hi=>h.inb i (hTS i hi)
 have h1:=hput W' _ ⟨bs[b].phis,ls,⟨2,false,0,tos⟩⟩ (fun i=>S1 i∨S2' i∨S3' i) hp rfl (fun u hu=>by
   simp only[List.mem_cons,List.not_mem_nil,or_false]at hu
   rcases hu with rfl|rfl|rfl|rfl|rfl|rfl<;>first|rfl|assumption) hz (fun i hi h1 h2=>hk i hi (fun h=>h1 (g2 i h)) h2)
  ⟨_,_,_,S1,S2',S3',rfl,by unfold I64;simp only;omega,by unfold I64;simp only;omega,h3.loc zq (fun _ g=>g) (fun i hi=>hk i (hTS i (g1 i hi)) (fun h=>a1 i hi h) (fun e=>hnT (e ▸ g1 i hi))) hz,hl,ht,fun i x y=>by
   rcases hS2 i y with z|z
   ·exact a1 i x z
   have:=hTl i (g1 i x);omega,fun i x y=>by have:=hTl i (g1 i x);have:=hS3 i y;omega,hA,fun _ h=>.inl h,fun _ h=>.inr (.inl h),fun _ h=>.inr (.inr h)⟩
  (fun i hi=>by
   rcases hi with x|x|x
   ·exact⟨.inl (g1 i x),Nat.lt_of_lt_of_le (hTl i (g1 i x)) hz⟩
   ·exact⟨(hS2 i x).imp (g2 i) id,hl.sl.inb i x⟩
   exact⟨.inr (hS3 i x),ht.sl.inb i x⟩)
 refine h1.grow (fun i hi=>?_) (fun i hi=>?_)
 ·rcases hi with x|x|x|x
  ·exact .inl x
  ·exact .inl (hTS i (g1 i x))
  ·exact .inr (.inl x)
  exact .inr (.inr x)
 rcases hi with x|x|x
 ·exact Nat.lt_of_lt_of_le (h.inb i x) hz
 ·exact hl.sl.inb i x
 exact ht.sl.inb i x
end Go.Proofs.YtecdphhdmjmmnaaGreatDoor
namespace Go.Proofs.YtecdphhdmjmmnaaGreatDoor
open Go.RowKit

structure DfsI (f:FunL) (r:Int) (had:Nat→Bool) (todo:List Int):Prop where
 bd:∀t∈todo,0≤t∧t<(f.blocks.length:Int)
 rch:∀b,(had b=true∨(b:Int)∈todo)→LiveP f r b→LiveP f r 0
 cls:∀b,b<f.blocks.length→had b=true→xS r (atF f b) false=false∧(xS r (atF f b) true=true→∀t∈(atF f b).fin.to,had t.toNat=true∨t∈todo)
 h0:had 0=true∨(0:Int)∈todo
theorem DfsI.start {f:FunL} {r:Int} (hn:0<f.blocks.length):DfsI f r (fun _=>false) [0]:=by
 refine⟨fun t h=>?_,fun b h=>?_,fun _ _ h=>?_,.inr (List.mem_singleton.2 rfl)⟩
 ·rw[List.mem_singleton.1 h]
  omega
 ·rcases h with h|h
  ·cases h
  have:=List.mem_singleton.1 h
  obtain rfl:b=0:=by omega
  exact id
 cases h
theorem DfsI.ends {f:FunL} {r:Int} {had:Nat→Bool} (h:DfsI f r had []):¬ LiveP f r 0:=fun hl=>by
 have key:∀b,LiveP f r b→had b=true→False:=by
  intro b hb
  induction hb with
  | here hb1 hb2=>
   intro hh
   have:=(h.cls _ hb1 hh).1
   rw[hb2]at this
   cases this
  | next hb1 hb2 ht _ ih=>
   intro hh
   rcases (h.cls _ hb1 hh).2 hb2 _ ht with h2|h2
   ·exact ih h2
   cases h2
 rcases h.h0 with h0|h0
 ·exact key 0 hl h0
 cases h0
section
variable {f : FunL} {r : Int} {had : Nat → Bool} {todo : List Int} {b : Nat}
theorem DfsI.skip (h:DfsI f r had (todo++[(b:Int)])) (hb:had b=true):DfsI f r had todo:=by
 have hor:∀t:Int,(had t.toNat=true∨t∈todo++[(b:Int)])→had t.toNat=true∨t∈todo:=fun t ht=>by
  rcases ht with h1|h1
  ·exact .inl h1
  rcases List.mem_append.1 h1 with h2|h2
  ·exact .inr h2
  left
  rw[List.mem_singleton.1 h2]
  exact hb
 refine⟨fun t ht=>h.bd t (List.mem_append_left _ ht),fun c hc=>h.rch c (hc.imp id (List.mem_append_left _)),fun c hc hh=>⟨(h.cls c hc hh).1,fun hl t ht=>hor t ((h.cls c hc hh).2 hl t ht)⟩,?_⟩
 exact hor 0 h.h0
theorem DfsI.found (h:DfsI f r had (todo++[(b:Int)])) (hl:xS r (atF f b) false=true):LiveP f r 0:=by
 have:=h.bd b (by simp)
 exact h.rch b (.inr (by simp)) (.here (by omega) hl)
theorem DfsI.step (h:DfsI f r had (todo++[(b:Int)])) (hb:b<f.blocks.length) (hto:∀t∈(atF f b).fin.to,0≤t∧t<(f.blocks.length:Int)) (hl:xS r (atF f b) false=false) {new:List Int} (hnew:new=if xS r (atF f b) true=true then(atF f b).fin.to else[]) :
  DfsI f r (fun c=>if c=b then true else had c) (todo++new):=by
 have hsub:∀t∈new,t∈(atF f b).fin.to∧xS r (atF f b) true=true:=fun t ht=>by
  rw[hnew]at ht
  split at ht
  ·next e=>exact⟨ht,e⟩
  cases ht
 have hor:∀t:Int,(had t.toNat=true∨t∈todo++[(b:Int)])→(if t.toNat=b then true else had t.toNat)=true∨t∈todo++new:=fun t ht=>by
  rcases ht with h1|h1
  ·left;split
   ·rfl
   exact h1
  rcases List.mem_append.1 h1 with h2|h2
  ·exact .inr (List.mem_append_left _ h2)
  left
  rw[List.mem_singleton.1 h2,Int.toNat_natCast,if_pos rfl]
 refine⟨fun t ht=>?_,fun c hc hlc=>?_,fun c hc hh=>?_,?_⟩
 ·rcases List.mem_append.1 ht with h1|h1
  ·exact h.bd t (List.mem_append_left _ h1)
  exact hto t (hsub t h1).1
 ·by_cases e:c=b
  ·subst e
   exact h.rch c (.inr (by simp)) hlc
  rcases hc with h1|h1
  ·rw[if_neg e]at h1
   exact h.rch c (.inl h1) hlc
  rcases List.mem_append.1 h1 with h2|h2
  ·exact h.rch c (.inr (List.mem_append_left _ h2)) hlc
  obtain⟨h3,h4⟩:=hsub _ h2
  exact h.rch b (.inr (by simp)) (.next hb h4 h3 (by rw[Int.toNat_natCast];exact hlc))
 ·by_cases e:c=b
  ·subst e
   refine⟨hl,fun hlt t ht=>.inr (List.mem_append_right _ ?_)⟩
   rw[hnew,if_pos hlt]
   exact ht
  simp only[if_neg e]at hh
  exact⟨(h.cls c hc hh).1,fun hlt t ht=>hor t ((h.cls c hc hh).2 hlt t ht)⟩
 exact hor 0 h.h0
end
def umN (had:Nat→Bool):Nat→Nat
 | 0=>0
 | n+1=>umN had n+if had n=true then 0 else 1
theorem umN_le (had:Nat→Bool):∀n,umN had n≤n
 | 0=>Nat.le_refl _
 | n+1=>by
  have:=umN_le had n
  unfold umN
  split<;>omega
theorem umN_far {had:Nat→Bool} {b:Nat}:∀n,n≤b→umN (fun c=>if c=b then true else had c) n=umN had n
 | 0,_=>rfl
 | n+1,h=>by
  unfold umN
  rw[umN_far n (by omega),if_neg (by omega:¬ n=b)]
theorem VC {had:Nat→Bool} {b:Nat} (hb:had b=false):∀n,b<n→umN (fun c=>if c=b then true else had c) n+1=umN had n
 | 0,h=>by omega
 | n+1,h=>by
  unfold umN
  by_cases e:n=b
  ·subst e
   rw[umN_far n (Nat.le_refl _),if_pos rfl,if_pos rfl,hb]
   rfl
  rw[if_neg e,←VC hb n (by omega)]
  omega
def X6 (r:Int) (x:BlkL) (i:Nat) (l:Bool):Bool:=(x.list.drop i).foldr (J5 r) (isV r (x.fin.onr,x.fin.onn) || l)
theorem scan_end (r:Int) (x:BlkL) (l:Bool):X6 r x x.list.length l=(isV r (x.fin.onr,x.fin.onn) || l):=by simp[X6]
theorem scan_at {r:Int} {x:BlkL} {i:Nat} (h:i<x.list.length) (l:Bool):X6 r x i l=(useI r x.list[i] || (X6 r x (i+1) l&&!(x.list[i].dst == r))):=by
 unfold X6
 rw[List.drop_eq_getElem_cons h,List.foldr_cons]
 rfl
theorem use_eq {regs:Int} {nf:Nat} {P:Nat→Int} {x:InsL} (h:InsC regs nf P x) (r:Int):useI r x=(isV r (x.ar,x.an) || isV r (x.br,x.bn) || x.args.any (isV r)):=by
 unfold useI qL
 rw[List.any_append,List.any_append]
 congr 1
 congr 1
 ·by_cases e:shA x.op=true
  ·rw[if_pos e];simp
  rw[if_neg e]
  have:=h.a0 (by simpa using e)
  simp[isV,this.1]
 by_cases e:shB x.op=true
 ·rw[if_pos e];simp
 rw[if_neg e]
 have:=h.b0 (by simpa using e)
 simp[isV,this.1]
end Go.Proofs.YtecdphhdmjmmnaaGreatDoor
namespace Go.Proofs.YtecdphhdmjmmnaaGreatDoor
open Go.RowKit Go.Shelf

theorem X7 {P:Program} (w:World) (base:Nat) (t ty e:TypeId) (i:TypeInfo) (ht:P.underlying t=some (.slice e)) (hi:P.info? e=some i) (v:Value) (n c size:Nat) (xs:List Value) (hown:w.ownsRow base e size v n xs) :
  (Builtin.append_ #[t,t] ty #[v,.slice none 0 c]).run P w = .ok v w:=by
 rcases hown.2 with⟨rfl,rfl⟩|⟨g,cap,cur,rfl,_,_,hnc,_⟩
 ·simp[Builtin.append_,run_underlying ht,Go.sizeOf,typeInfo,hi,Builtin.lenOf,Builtin.firstCells]
 simp[Builtin.append_,run_underlying ht,Go.sizeOf,typeInfo,hi,Builtin.lenOf,Builtin.firstCells,hnc,storeCells]
theorem QY {P:Program} (w:World) (t ty:TypeId) (i:TypeInfo) (z:Value) (ht:P.underlying t=some (.slice 3)) (hi:P.info? 3=some i) (hz:i.zero=some z) (hsize:i.size=1) (hby:i.bytes=8) (hzs:z.cells.size=1)
  {v:Value} {xs ys:List Int} {S:Blks} (hO:SlO 3 1 kP w v xs S) {q:Option Addr} {c:Nat} (hs:SliceAt w 1 xC q ys) (hlen:xs.length+ys.length≤1000000) :
  ∃v' w',(Builtin.append_ #[t,t] ty #[v,.slice q ys.length c]).run P w = .ok v' w'∧Snoc 3 1 kP w (xs++ys) S (fun _=>False) v' w':=by
 by_cases hq:q=none
 ·subst hq
  have h0:ys=[]:=by
   rcases hs with h|⟨_,_,h,_⟩
   ·exact h
   cases h
  subst h0
  obtain⟨h1,_,_,_⟩:=hO.rowI
  refine⟨v,w,X7 w 0 t ty 3 i ht hi v _ c 1 _ h1,S,by rw[List.append_nil];exact hO,fun k h=>.inl h,Kept.refl _ _⟩
 obtain⟨a,ha⟩:∃a,q=some a:=by
  cases q with
  | none=>exact absurd rfl hq
  | some a=>exact⟨a,rfl⟩
 subst ha
 obtain⟨h1,h2,h3,h4⟩:=hO.rowI
 have hys:(∀y∈ys,I64 y)∧∀j u,(ys.map (Value.int .i64))[j]?=some u→w.cell? (a.add j)=some u:=by
  rcases hs with rfl|⟨b,o,hp,h⟩
  ·exact⟨fun _ h=>(by cases h),fun j u h=>(by simp at h)⟩
  cases hp
  constructor
  ·intro y hy
   obtain⟨j,hj,rfl⟩:=List.getElem_of_mem hy
   obtain⟨cs,_,_,_,hr⟩:=h j hj
   exact hr
  intro j u hu
  rcases Nat.lt_or_ge j ys.length with g|g
  ·obtain⟨cs,_,hc,rfl,_⟩:=h j g
   have:=hc 0 (by omega)
   rw[Nat.mul_one,Nat.add_zero]at this
   rw[zw,this]
   simpa[g]using hu
  rw[List.getElem?_eq_none (by simpa using g)]at hu
  cases hu
 obtain⟨v',w',hr,ho,hg,_,hat⟩:=run_append_own_at (P:=P) w 0 t ty 3 i z 1 8 ht hi hz hsize hby hzs (by omega) v _ _ h1 a ys.length c (ys.map (.int .i64)) (by simp) hys.2 (fun u hu=>by obtain⟨y,_,rfl⟩:=List.mem_map.1 hu;rfl) (by unfold maxLen;omega) (by omega) (Nat.zero_le _)
 refine⟨v',w',hr,fun k=>S k∨v'.ownBlock=some k,?_,fun k hk=>?_,Kept.of_grown hg h3⟩
 ·rw[←List.map_append,←List.length_append]at ho
  refine SlO.ofRowI ho (fun x hx=>?_) (fun g h=>.inr h) (fun k hk=>?_)
  ·rcases List.mem_append.1 hx with h|h
   ·exact h2 x h
   exact hys.1 x h
  rcases hk with h|h
  ·exact(h4.mono hg.size) k h
  exact(ho.lt k h).2
 rcases hk with h|h
 ·exact .inl h
 rcases hat with b|b
 ·exact .inl (h3 k (b.symm.trans h))
 rw[b]at h
 injection h with h
 exact .inr (.inr (by omega))
end Go.Proofs.YtecdphhdmjmmnaaGreatDoor
namespace Go.Proofs.YtecdphhdmjmmnaaGreatDoor
open Go.RowKit

def isVT (r:Int) (v:Bool×Int):Bool:=v.1&&v.2 == r
theorem Zr (b:Bool) (n r:Int) (w:World) :
  Calls Tryz.prog 39 #[.agg #[.bool b,.int .i64 n],.int .i64 r] w fun e w'=>e = .returned (.bool (isVT r (b,n)))∧Below w.heap.size w w':=by
 cases b
 ·go_enter Tryz.func39,Tryz.ntmps39
  go_wp2
  go_ret
  exact⟨rfl,by exact bZ⟩
 go_enter Tryz.func39,Tryz.ntmps39
 go_wp2
 go_ret
 exact⟨by simp[isVT],by exact bZ⟩

theorem goesT_iff {k:Nat} {b:BlkL} {x:InsL} (hx:b.list.getLast?=some x) (hk:b.fin.kind=1) (h0:b.fin.onr=true→0≤b.fin.onn):xx k b=(decide (x.op=20)&&decide (x.fn=(k:Int))&&decide (0≤x.dst)&&isVT x.dst (b.fin.onr,b.fin.onn)):=by
 rw[Bool.eq_iff_iff,goes_iff]
 unfold isVT
 simp only[Bool.and_eq_true,decide_eq_true_eq,beq_iff_eq]
 constructor
 ·rintro⟨y,h1,_,h3,h4,h5,h6⟩
  rw[hx]at h1
  cases h1
  have:=h0 h3
  exact⟨⟨⟨h4,h5⟩,by omega⟩,h3,h6.symm⟩
 rintro⟨⟨⟨h1,h2⟩,_⟩,h4,h5⟩
 exact⟨x,hx,hk,h4,h1,h2,h5.symm⟩

theorem VD (b:BlkL) (q1 q2 q3:Option Addr) (c1 c2 c3 k:Nat) (w:World) (hl:b.list.length*80≤140737488351232) (hs:SliceAt w 8 (InsR w) q2 b.list) (h0:b.fin.onr=true→0≤b.fin.onn) :
  Calls Tryz.prog 17 #[.agg #[.slice q1 b.phis.length c1,.slice q2 b.list.length c2,.int .i64 b.fin.kind,.bool b.fin.onr,.int .i64 b.fin.onn,.slice q3 b.fin.to.length c3],.int .i64 k] w fun e w'=>e = .returned (.bool (xx k b))∧Below w.heap.size w w':=by
 have HSl:=q7 hs
 have H0:=q7 h0
 clear hs h0
 by_cases hz0:b.list.length=0
 ·have hn:xx k b=false:=by
   unfold xx zK
   rw[List.eq_nil_of_length_eq_zero hz0]
   rfl
  have HN:=q7 hn
  have hz:((b.list.length:Int) == 0)=true:=by rw[hz0];rfl
  clear hn
  go_enter Tryz.func17,Tryz.ntmps17
  go_wp2_with fail
  go_ret
  exact⟨by rw[HN.out];rfl,by exact bZ⟩
 have hz:((b.list.length:Int) == 0)=false:=beq_eq_false_iff_ne.2 (by omega)
 by_cases hk1:b.fin.kind=1
 rotate_left
 ·have hkk:(b.fin.kind != 1)=true:=by simp[hk1]
  have hn:xx k b=false:=by
   cases e:xx k b with
   | false=>rfl
   | true=>
    obtain⟨_,_,h,_⟩:=goes_iff.1 e
    exact absurd h hk1
  have HN:=q7 hn
  clear hn
  go_enter Tryz.func17,Tryz.ntmps17
  go_wp2_with fail
  go_ret
  exact⟨by rw[HN.out];rfl,by exact bZ⟩
 have hkk:(b.fin.kind != 1)=false:=by simp[hk1]
 have hj:b.list.length - 1<b.list.length:=by omega
 obtain⟨lb,lo,qs,cs,hlp,i0,i1,i2,i3,i4,i5,i6,i7,_⟩:=Q1 HSl.out (Below.refl _ _) hj
 subst hlp
 have hgl:b.list.getLast?=some b.list[b.list.length - 1]:=by rw[List.getLast?_eq_getElem?,List.getElem?_eq_getElem hj]
 have hwr:IntKind.i64.wrap ((b.list.length:Int) - 1)=((b.list.length - 1:Nat):Int):=by rw[IntKind.wrap_i64];omega
 obtain⟨x,hx⟩:∃x,x=b.list[b.list.length - 1]:=⟨_,rfl⟩
 rw[←hx]at i0 i1 i2 i3 i4 i5 i6 i7 hgl
 have lz:=q8 i0
 have hgo:=goesT_iff (k:=k) hgl hk1 H0.out
 obtain⟨j,hjj⟩:∃j,j=b.list.length - 1:=⟨_,rfl⟩
 rw[←hjj]at hwr i0 i1 i2 i3 i4 i5 i6 i7 hj
 have j0:(0:Int)≤(j:Int):=by omega
 have j1:(j:Int)<b.list.length:=by omega
 obtain⟨s1,hs1⟩:∃s,s=decide (x.op=20):=⟨_,rfl⟩
 obtain⟨s2,hs2⟩:∃s,s=decide (x.fn=(k:Int)):=⟨_,rfl⟩
 obtain⟨s3,hs3⟩:∃s,s=decide (0≤x.dst):=⟨_,rfl⟩
 rw[←hs1,←hs2,←hs3]at hgo
 have e1:(x.op == 20)=s1:=by rw[hs1];rfl
 have e2:(x.fn == (k:Int))=s2:=by rw[hs2];rfl
 have e3:decide (0≤x.dst)=s3:=hs3.symm
 have HGo:=q7 hgo
 clear hgl hx hk1 hjj hgo hs1 hs2 hs3
 cases s1
 ·go_enter Tryz.func17,Tryz.ntmps17
  go_wp2_with fail
  go_ret
  exact⟨by rw[HGo.out];rfl,by exact bZ⟩
 cases s2
 ·go_enter Tryz.func17,Tryz.ntmps17
  go_wp2_with fail
  go_ret
  exact⟨by rw[HGo.out];rfl,by exact bZ⟩
 cases s3
 ·go_enter Tryz.func17,Tryz.ntmps17
  go_wp2_with fail
  go_ret
  exact⟨by rw[HGo.out];rfl,by exact bZ⟩
 go_enter Tryz.func17,Tryz.ntmps17
 go_wp2_with (go_at_call 39;refine(Zr _ _ _ _).mono ?_;rintro e w2 ⟨rfl,hb2⟩;have HB2:Hid (Below w.heap.size w w2):=q7 (Below.trans bZ (hb2.mono (by simp;omega)));clear hb2)
 go_ret
 exact⟨by rw[HGo.out];rfl,HB2.out⟩

theorem manyR_any (f:FunL) (bp:Option Addr) (bc:Nat) (w:World) (h40:f.blocks.length≤40) (hb:SliceAt w 6 (BlkR w) bp f.blocks) :
  Calls Tryz.prog 38 #[.agg #[.string f.name,.int .i64 f.params,.int .i64 f.regs,.slice bp f.blocks.length bc]] w fun e w'=>e = .returned (.int .i64 (zi f))∧Below w.heap.size w w':=by
 have HB:=q7 hb
 clear hb
 go_enter Tryz.func38,Tryz.ntmps38
 go_wp2
 go_loopw [3,4] (fun m i wr=>∃(k:Nat) (x:Int),k≤f.blocks.length∧i = .int .i64 k∧m = .int .i64 x∧(x=jh f k∧jh f k≤k*10000000000000)∧Below (w.heap.size+1) (w.alloc (.cells #[.string f.name,.int .i64 f.params,.int .i64 f.regs,.slice bp f.blocks.length bc] 37)) wr) (fun _ i _=>f.blocks.length - (intOf i).toNat)
 case atStart=>exact⟨0,0,by omega,rfl,rfl,by simp[jh],Below.refl _ _⟩
 case round=>
  obtain⟨k,x,hk,rfl,rfl,hV,hb⟩:=hrel
  have HV:=q7 hV
  have HBw:=q7 hb
  have HBx:Hid (Below w.heap.size w wr):=((Below.refl _ _).alloc (Nat.le_refl _) _).trans (hb.mono (by omega))
  have hz:w.heap.size<wr.heap.size:=by have:=hb.size;simp at this;omega
  obtain⟨hcc,hcf⟩:=blk (qd hb (by omega) (qr w _))
  clear hV hb
  by_cases hlt:k<f.blocks.length
  ·obtain⟨b2,o2,q1,c1,q2,c2,q3,c3,hp,e0,e1,e2,e3,e4,e5,_,_,hl1,hl2,_,_,_,_⟩:=zE HB.out HBx.out hlt
   subst hp
   go_wp2
   go_quiet (fail)
   go_wp2
   refine⟨⟨k+1,_,by omega,by go_num,rfl,?_,?_⟩,by simp[intOf];omega⟩
   ·obtain⟨h1,h2⟩:=HV.out
    rw[k7 f k hlt]
    refine⟨?_,by omega⟩
    rw[IntWalk.wrap64_in (x+_) ⟨by omega,by omega⟩,IntWalk.wrap64_in _ ⟨by omega,by omega⟩,h1]
    omega
   exact below_drewN HBw.out _
  have HM:Hid (x=zi f):=by
   show _=_
   have:=HV.out.1
   rw[show k=f.blocks.length by omega,kO]at this
   exact this
  go_wp2
  go_ret
  refine⟨?_,HBx.out⟩
  rw[HM.out]
  rfl

end Go.Proofs.YtecdphhdmjmmnaaGreatDoor
namespace Go.Proofs.YtecdphhdmjmmnaaGreatDoor
open Go.RowKit Go.Shelf Go.Sort

theorem troom_any {nf:Nat} {P:Nat→Int} (f:FunL) (k:Nat) (hC:FunC nf P f) (q:Option Addr) (e1:Nat) (w:World) (hRd:SliceAt w 6 (BlkR w) q f.blocks) :
  Calls Tryz.prog 16 #[.agg #[.string f.name,.int .i64 f.params,.int .i64 f.regs,.slice q f.blocks.length e1],.int .i64 k] w fun e w'=>e = .returned (.bool (VX k f))∧Below w.heap.size w w':=by
 have hn1:=hC.n1
 have haA:=hC.n40
 have haJ:=hC.par
 have hbh:=hC.reg
 obtain⟨gq,oq,q1,c1,q2,c2,q3,c3,hq,_⟩:=zE hRd (Below.refl _ _) hn1
 subst hq
 have HC:=q7 hC
 have HRd:=q7 hRd
 clear hC hRd
 go_enter Tryz.func16,Tryz.ntmps16
 go_wp2_with fail
 obtain⟨W1,hW1⟩:∃W1,W1=w.alloc (.cells #[.string f.name,.int .i64 f.params,.int .i64 f.regs,.slice (some ⟨gq,oq,none⟩) f.blocks.length e1] 37):=⟨_,rfl⟩
 rw[←hW1]
 have hb1:Below w.heap.size w W1:=by rw[hW1];exact bZ
 have hF1:W1.heap[w.heap.size]?=some (.cells #[.string f.name,.int .i64 f.params,.int .i64 f.regs,.slice (some ⟨gq,oq,none⟩) f.blocks.length e1] 37 (0,0)):=by rw[hW1];exact qh rfl
 have HB1:=q7 hb1
 have HF1:=q7 hF1
 clear hW1 hb1 hF1
 go_loopg [5,6] f.blocks.length (fun q m i wr=>∃j:Nat,j≤f.blocks.length∧q=f.blocks.length - j∧i = .int .i64 j∧m = .int .i64 (cntG k (f.blocks.take j))∧Below W1.heap.size W1 wr)
 case atStart=>exact⟨0,by omega,rfl,rfl,rfl,Below.refl _ _⟩
 case round=>
  obtain⟨j,hj,rfl,rfl,rfl,hb⟩:=hrel
  have hbw:=HB1.out.trans (hb.mono HB1.out.size)
  have hFw:=(hb.block _ (q9 HF1.out)).trans HF1.out
  obtain⟨fb,ff⟩:=blk hFw
  have fb0:=fb 0
  have fb1:=fb 1
  have fb2:=fb 2
  have fb3:=fb 3
  simp only[List.getElem?_toArray,List.getElem?_cons_zero,List.getElem?_cons_succ]at fb0 fb1 fb2 fb3
  have fz:=q9 hFw
  have HB2:=q7 hb
  have HBw:=q7 hbw
  clear hb hbw fb hFw
  by_cases hlt:j<f.blocks.length
  ·obtain⟨b',o',q1,c1,q2,c2,q3,c3,hp,e0,e1',e2,e3,e4,e5,_,_,_,hl2,_,_,hsl,_⟩:=zE HRd.out HBw.out hlt
   cases hp
   have ez:=q8 e0
   have hon:f.blocks[j].fin.onr=true→0≤f.blocks[j].fin.onn:=fun h=>((HC.out.fin j hlt).on h).1
   have HSl:=q7 hsl
   have HOn:=q7 hon
   have HCn:=q7 (XV (k:=k) hlt)
   have heB:=ZZ k f.blocks j
   generalize hbk:f.blocks[j]=bk at *
   generalize hcn:cntG k (f.blocks.take j)=cn at *
   obtain⟨gb,hgb⟩:∃gb,gb=xx k bk:=⟨_,rfl⟩
   rw[←hgb]at HCn
   have HGb:=q7 hgb
   have hwn:IntKind.i64.wrap ((cn:Int)+1)=((cn+1:Nat):Int):=by rw[IntKind.wrap_i64];omega
   have htb:=VD bk q1 q2 q3 c1 c2 c3 k wr hl2 hsl hon
   rw[←hgb]at htb
   have HTb:=q7 htb
   clear hsl hbk hcn hgb hon htb
   cases gb
   all_goals
    go_wp2_with (go_at_call 17;refine HTb.out.mono ?_;rintro e w2 ⟨rfl,hb2⟩;have HB3:=q7 (HB2.out.trans (hb2.mono HB2.out.size));clear hb2)
    go_roundg (f.blocks.length - (j+1))
    case measure=>omega
    case rel=>exact⟨j+1,by omega,rfl,by go_num,by rw[HCn.out];go_num,HB3.out⟩
  obtain rfl:j=f.blocks.length:=by omega
  rw[List.take_of_length_le (Nat.le_refl _)]
  obtain⟨m,hm⟩:∃m:Nat,m=XR k f:=⟨_,rfl⟩
  have hkV:m≤40:=by
   rw[hm]
   have:=ZZ k f.blocks f.blocks.length
   rw[List.take_of_length_le (Nat.le_refl _)]at this
   exact Nat.le_trans this haA
  rw[show cntG k f.blocks=m from hm.symm]
  obtain⟨d,hd⟩:∃d:Int,d=2*f.params - 1:=⟨_,rfl⟩
  have hdb:-1≤d∧d≤11:=by omega
  obtain⟨M,hM⟩:∃M:Int,M=(m:Int)*d:=⟨_,rfl⟩
  have hMb:-40≤M∧M≤440:=by
   have h1:=Int.mul_le_mul_of_nonneg_left hdb.1 (show(0:Int)≤m by omega)
   have h2:=Int.mul_le_mul_of_nonneg_left hdb.2 (show(0:Int)≤m by omega)
   omega
  have hml:=HC.out.many
  have hmy:VX k f=(decide (0<(m:Int))&&decide (f.regs+f.params≤100)&&decide ((f.blocks.length:Int)+1≤40)&&decide ((zi f:Int)+M≤300)):=by
   rw[Bool.eq_iff_iff,mayR_iff,←hm,hM,hd]
   simp only[Bool.and_eq_true,decide_eq_true_eq]
   omega
  have hcM:∀(dd:Nat) (os:Array Obj),Calls Tryz.prog 38 #[.agg #[.string f.name,.int .i64 f.params,.int .i64 f.regs,.slice (some ⟨gq,oq,none⟩) f.blocks.length e1]] (grow (redrawn wr dd) os) fun e w'=>e = .returned (.int .i64 (zi f))∧Below (grow (redrawn wr dd) os).heap.size (grow (redrawn wr dd) os) w':=fun dd os=>manyR_any f _ _ _ haA (zF HRd.out (HBw.out.trans ((below_regrown wr dd os).mono HBw.out.size)))
  have hwa:IntKind.i64.wrap (f.regs+f.params)=f.regs+f.params:=by rw[IntKind.wrap_i64];omega
  have hwb:IntKind.i64.wrap (2*f.params)=2*f.params:=by rw[IntKind.wrap_i64];omega
  have hwc:IntKind.i64.wrap (2*f.params - 1)=d:=by rw[IntKind.wrap_i64];omega
  have hwd:IntKind.i64.wrap ((m:Int)*d)=M:=by rw[IntKind.wrap_i64,←hM];omega
  have hwe:IntKind.i64.wrap ((zi f:Int)+M)=(zi f:Int)+M:=by rw[IntKind.wrap_i64];omega
  have hwf:IntKind.i64.wrap ((f.blocks.length:Int)+1)=(f.blocks.length:Int)+1:=by rw[IntKind.wrap_i64];omega
  obtain⟨s1,hs1⟩:∃b,b=decide (0<(m:Int)):=⟨_,rfl⟩
  obtain⟨s2,hs2⟩:∃b,b=decide (f.regs+f.params≤100):=⟨_,rfl⟩
  obtain⟨s3,hs3⟩:∃b,b=decide ((f.blocks.length:Int)+1≤40):=⟨_,rfl⟩
  obtain⟨s4,hs4⟩:∃b,b=decide ((zi f:Int)+M≤300):=⟨_,rfl⟩
  rw[←hs1,←hs2,←hs3,←hs4]at hmy
  have HMy:=q7 hmy
  have hhO:decide (0<(m:Int))=s1:=hs1.symm
  have htY:decide (0<m)=s1:=by rw[←hhO,decide_eq_decide];omega
  have hkZ:decide (f.regs+f.params≤100)=s2:=hs2.symm
  have hkY:decide ((f.blocks.length:Int)+1≤40)=s3:=hs3.symm
  have hl6:decide ((zi f:Int)+M≤300)=s4:=hs4.symm
  have HSs:=q7 (And.intro hs1 (And.intro hs2 (And.intro hs3 (And.intro hs4 (And.intro hM (And.intro hd hm))))))
  clear hs1 hs2 hs3 hs4 hmy hM hd hm
  have gb0:=cell_regrown fb0
  have gb1:=cell_regrown fb1
  have gb2:=cell_regrown fb2
  have gb3:=cell_regrown fb3
  go_wp2_with fail
  refine wp_region_quiet_below (by kernel_rfl) (by kernel_rfl) ?_
  cases s1
  rotate_left
  cases s2
  rotate_left
  cases s3
  rotate_left
  all_goals
   repeat go_big_quiet_step (exact Calls.regrown_of (hcM _ _))
   refine wpQuiet_nil ?_
   intro Wq hWq
   have hbq:Below wr.heap.size wr Wq:=by
    obtain⟨p,rfl⟩:=hWq
    exact below_regrown _ _ _
   have HBq:=q7 (HBw.out.trans (hbq.mono HBw.out.size))
   clear hWq hcM gb0 gb1 gb2 gb3 fb0 fb1 fb2 fb3 fz ff hbq
   go_wp2_with fail
   go_ret
   exact⟨by rw[HMy.out];rfl,HBq.out⟩
end Go.Proofs.YtecdphhdmjmmnaaGreatDoor
