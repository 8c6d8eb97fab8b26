/-
  Plain: what dom.TreeOf tells: whatever rules a block is on each way to it; where known reg
-/
import Derived.Test.YtbnnhmcloecijaaGreatDoorSpdA
set_option maxRecDepth 100000
set_option maxHeartbeats 16000000
namespace Go.Proofs.YtbnnhmcloecijaaGreatDoor
open Go.RowKit

structure Inst where
 op:Int
 dst:Int
 ar:Bool
 an:Int
 br:Bool
 bn:Int
 fn:Int
 ap:Option Addr
 al:Nat
 ac:Nat
def Inst.cells (i:Inst):Array Value:=#[.int .i64 i.op,.int .i64 i.dst,.bool i.ar,.int .i64 i.an,.bool i.br,.int .i64 i.bn,.int .i64 i.fn,.slice i.ap i.al i.ac]
def kn (op dst:Int) (r:Bool) (n:Int):Inst:=⟨op,dst,r,n,false,0,0,none,0,0⟩


theorem none_none (w:World):Calls Tryz.prog 9 #[.agg #[.slice none 0 0,.slice none 0 0]] w fun e w'=>e = .returned (.bool true)∧Below w.heap.size w w':=by
 go_enter Tryz.func9,Tryz.ntmps9
 go_wp2_with fail
 go_ret
 exact ⟨rfl,by exact bZ⟩
end Go.Proofs.YtbnnhmcloecijaaGreatDoor
namespace Go.Proofs.YtbnnhmcloecijaaGreatDoor
open Go.RowKit Go.Shelf

theorem ssaU_null {u:UniL} (h:(jU u).1=0):jU u=(0,0):=by
 unfold jU at h ⊢
 by_cases hc:(chk u).1=0
 ·rw [zZ hc] at h ⊢
  cases hf:xy u.funcs.length (ssaI u) with
  | none=>rfl
  | some r=>rw [hf] at h;exact absurd h (ja hf)
 rw [zQ hc] at h
 exact absurd h hc
theorem okU_bad {u:UniL} (h:okU u=false):(jU u).1≠0:=fun e=>by
 unfold okU at h
 rw [ssaU_null e] at h
 cases h

theorem spdo_bad (u:UniL) (gp fp:Option Addr) (gc fc:Nat) (w:World) (hgl:u.globals.length*48≤140737488351232) (hG:SliceAt w 3 (GloR w) gp u.globals) (hfl:u.funcs.length*56≤140737488351232) (hF:SliceAt w 4 (FunR w) fp u.funcs) (hw0:Ways w) (h:(jU u).1≠0) :
  Calls Tryz.prog 7 #[.agg #[.slice gp u.globals.length gc,.slice fp u.funcs.length fc]] w fun e w'=>e = .returned (.tuple #[.agg #[.slice none 0 0,.slice none 0 0],.agg #[.int .i64 (jU u).1,.int .i64 (jU u).2]])∧Below w.heap.size w w':=by
 have HG:=q7 hG
 have HF:=q7 hF
 have HW:=q7 hw0
 have hne:((jU u).1 == 0&&(jU u).2 == 0)=false:=by simp [h]
 have hq:∀w,(binOp .neq 27 (.agg #[.int .i64 (jU u).1,.int .i64 (jU u).2]) (.agg #[.int .i64 0,.int .i64 0])).run Tryz.prog w = .ok (.bool true) w:=fun w=>by rw [ju,hne];rfl
 clear hG hF hw0 h hne
 go_enter Tryz.func7,Tryz.ntmps7
 go_wp2_with fail
 refine (kK u _ _ _ _ _ hgl (vT HG.out bZ) hfl (vU HF.out bZ) (HW.out.below bZ)).mono ?_
 rintro e w1 ⟨rfl,hb1⟩
 have HB1:Hid (Below w.heap.size w w1):=yo bZ (hb1.mono (by simp;omega))
 have hR:=qj hb1 (k:=w.heap.size+1) (by simp) (qg (qh (w:=w.alloc (.cells #[.slice gp u.globals.length gc,.slice fp u.funcs.length fc] 25)) (o:=.cells #[.slice none 0 0,.slice none 0 0] 25) (by simp)))
 have hR2:=qj hb1 (k:=w.heap.size+1+1) (by simp) (qh (w:=(w.alloc (.cells #[.slice gp u.globals.length gc,.slice fp u.funcs.length fc] 25)).alloc (.cells #[.slice none 0 0,.slice none 0 0] 25)) (o:=.cells #[.int .i64 0,.int .i64 0] 27) (by simp))
 obtain ⟨hcc,hcf⟩:=blk hR
 obtain ⟨hlO,hlP⟩:=blk hR2
 have z1:=q8 hR
 have z2:=q8 hR2
 clear hb1
 go_wp2_with fail
 go_region
 all_goals go_wp2
 all_goals
  refine zk (v:=.tuple #[.agg #[.slice none 0 0,.slice none 0 0],.agg #[.int .i64 (jU u).1,.int .i64 (jU u).2]]) ?_ rfl ⟨rfl,?_⟩
  ·simp [results,Tryz.results7,go_sem, *]
  exact bZ


end Go.Proofs.YtbnnhmcloecijaaGreatDoor
namespace Go.Proofs.YtbnnhmcloecijaaGreatDoor
open Go.RowKit

def kL (x:BlkL) (j:Nat):List Nat:=x.phis.map (fun p:PhiL=>p.dst.toNat)++(x.list.take j).flatMap fun i=>vt i.dst
def jL (x:BlkL):List Nat:=kL x x.list.length
inductive Bare (f:FunL) (r:Nat):Nat→Prop
 | zero:f.params.toNat≤r→Bare f r 0
 | step {a b:Nat}:Bare f r a→r∉jL (atF f a)→a<f.blocks.length→(b:Int)∈tosB f.blocks a→Bare f r b
structure SsaS (f:FunL):Prop where
 own:∀i,i<f.blocks.length→(jL (atF f i)).Nodup
 two:∀i j,i<f.blocks.length→j<f.blocks.length→∀r,r∈jL (atF f i)→r∈jL (atF f j)→i=j
 par:∀i,i<f.blocks.length→∀r∈jL (atF f i),f.params.toNat≤r
 ins:∀b,b<f.blocks.length→∀j (hj:j<(atF f b).list.length),∀v∈takes (atF f b).list[j],v.1=true→Bare f v.2.toNat b→v.2.toNat∈kL (atF f b) j
 fin:∀b,b<f.blocks.length→(atF f b).fin.onr=true→Bare f (atF f b).fin.onn.toNat b→(atF f b).fin.onn.toNat∈jL (atF f b)
 phi:∀b,b<f.blocks.length→∀p∈(atF f b).phis,∀a∈insN f b,(xK (insN f b) p.src a).1=true→Bare f (xK (insN f b) p.src a).2.toNat a→(xK (insN f b) p.src a).2.toNat∈jL (atF f a)
theorem dstP_sub {x:BlkL} {j r:Nat} (h:r∈kL x j):r∈jL x:=by
 unfold jL kL at *
 rcases yH.1 h with h|h
 ·exact yE _ h
 obtain ⟨i,hi,h⟩:=yU.1 h
 rw [yP]
 exact yM _ (yU.2 ⟨i,List.mem_of_mem_take hi,h⟩)

section
variable {nf : Nat} {P : Nat → Int} {f : FunL}
/-! ## blocks kept -/
theorem Q0 {o:List Nat} {i:Nat} (hi:i<o.length):atF (qX o f) i=mL (qF o) (insN f o[i]) (atF f o[i]):=by
 rw [qC (by rw [zS];exact hi),X5 o f hi]
theorem YI (at_:Nat→Int) (ah:List Nat) (x:BlkL) (j:Nat):kL (mL at_ ah x) j=kL x j:=by
 unfold kL mL
 simp only [yy]
 rfl
theorem Bare.keep (hf:FunD f) {o:List Nat} (ho:OrdC f o) {r i:Nat} (h:Bare (qX o f) r i):∃hi:i<o.length,Bare f r o[i]:=by
 induction h with
 | zero h=>
  obtain ⟨l,hl⟩:=ho.root
  refine ⟨ho.pos.1,?_⟩
  have e:o[0]'ho.pos.1=0:=by simp [hl]
  rw [e]
  exact .zero h
 | @step a b _ h2 h3 h4 ih=>
  obtain ⟨ha,hB⟩:=ih
  rw [QH ho ha] at h4
  obtain ⟨t,ht,e⟩:=yD.1 h4
  have hb:t.toNat∈o:=ho.closed _ (zP ha) t ht
  obtain ⟨k1,k2⟩:=j3 hb
  have hlt:=ho.inb _ (zP ha)
  have e2:o.idxOf t.toNat=b:=by omega
  subst e2
  refine ⟨k1,?_⟩
  rw [k2]
  refine .step hB ?_ hlt ?_
  ·rw [Q0 ha] at h2
   unfold jL at h2 ⊢
   rw [YI] at h2
   exact h2
  have:=hf.tosB _ hlt t ht
  rw [show ((t.toNat:Nat):Int)=t by omega]
  exact ht
theorem SsaS.keep (hC:FunC nf P f) (h:SsaS f) {o:List Nat} (ho:OrdC f o):SsaS (qX o f):=by
 have hf:=hC.funD
 have hd:∀i (hi:i<o.length) j,kL (atF (qX o f) i) j=kL (atF f o[i]) j:=fun i hi j=>by rw [Q0 hi,YI]
 have hb:∀i (hi:i<o.length),jL (atF (qX o f) i)=jL (atF f o[i]):=fun i hi=>by
  unfold jL
  rw [hd i hi,Q0 hi]
  rfl
 have hl:∀{i},i<(qX o f).blocks.length→∃hi:i<o.length,o[i]<f.blocks.length:=fun {i} hi=>by
  rw [zS] at hi
  exact ⟨hi,ho.inb _ (zP hi)⟩
 refine ⟨fun i hi=>?_,fun i j hi hj r h1 h2=>?_,fun i hi r hr=>?_,fun b hb' j hj v hv e hB=>?_,fun b hb' e hB=>?_,fun b hb' p hp a ha e hB=>?_⟩
 ·obtain ⟨hi,hn⟩:=hl hi
  rw [hb i hi];exact h.own _ hn
 ·obtain ⟨hi,hn⟩:=hl hi
  obtain ⟨hj,hm⟩:=hl hj
  rw [hb i hi] at h1
  rw [hb j hj] at h2
  have e:=congrArg (fun x=>o.idxOf x) (h.two _ _ hn hm r h1 h2)
  simpa [ho.once.idxOf_getElem i hi,ho.once.idxOf_getElem j hj] using e
 ·obtain ⟨hi,hn⟩:=hl hi
  rw [hb i hi] at hr
  exact h.par _ hn r hr
 ·obtain ⟨hi,hn⟩:=hl hb'
  rw [hd b hi]
  have e2:(atF (qX o f) b).list=(atF f o[b]).list:=by rw [Q0 hi];rfl
  simp only [e2] at hj hv
  exact h.ins _ hn j hj v hv e (hB.keep hf ho).2
 ·obtain ⟨hi,hn⟩:=hl hb'
  rw [hb b hi]
  rw [Q0 hi] at e hB ⊢
  exact h.fin _ hn e (hB.keep hf ho).2
 obtain ⟨hi,hn⟩:=hl hb'
 rw [Q0 hi] at hp
 obtain ⟨q,hq,rfl⟩:=yD.1 hp
 have hq2:=hq
 rw [qC hn] at hq2
 have hrow:=fromR_row (hf.insD _) (hC.phi _ hn q hq2).len
 have hS:=Vp hf ho (zP hi) (xK (insN f o[b]) q.src)
 rw [←hrow,ho.once.idxOf_getElem b hi] at hS
 obtain ⟨ha2,hai⟩:=(ZB hf ho (zP hi) (j:=a)).1 (by rw [ho.once.idxOf_getElem b hi];exact ha)
 have e3:xK (insN (qX o f) b) (srcK (qF o) (insN f o[b]) q.src) a=xK (insN f o[b]) q.src o[a]:=by
  rw [hS,kB _ ha]
  simp [ha2]
 have e:(xK (insN (qX o f) b) (srcK (qF o) (insN f o[b]) q.src) a).1=true:=e
 have hB:Bare (qX o f) (xK (insN (qX o f) b) (srcK (qF o) (insN f o[b]) q.src) a).2.toNat a:=hB
 show (xK (insN (qX o f) b) (srcK (qF o) (insN f o[b]) q.src) a).2.toNat∈_
 rw [e3] at e hB ⊢
 rw [hb a ha2]
 exact h.phi _ hn q hq _ hai e (hB.keep hf ho).2
/-! ## one block into another -/
theorem Zb (x:BlkL):jL x=x.phis.map (fun p:PhiL=>p.dst.toNat)++x.list.flatMap fun i=>vt i.dst:=by
 unfold jL kL
 rw [yP]
theorem QN (f:FunL) (b t i:Nat):(Vt f b t i).map (fun p:PhiL=>p.dst.toNat)=(atF f i).phis.map fun p:PhiL=>p.dst.toNat:=by
 unfold Vt
 rw [yy]
 refine ya fun p _=>?_
 show (if _ then _ else _:PhiL).dst.toNat=_
 split<;>rfl
theorem Q1 {b t:Nat} (m:MayJ f b t) {i:Nat} (hi:i<f.blocks.length):jL (atF (xg f b t) i)=if i=t then [] else if i=b then jL (atF f b)++jL (atF f t) else jL (atF f i):=by
 rw [jK hi m.hb m.ht]
 by_cases e:i=t
 ·rw [zZ e,zZ e];rfl
 rw [zQ e,zQ e,Zb]
 by_cases e2:i=b
 ·subst e2
  simp only [if_true]
  have hp:(atF f t).phis=[]:=by rw [qC m.ht];exact m.phi
  rw [QN,Zb,Zb,hp,yn]
  simp
 simp only [zQ e2]
 rw [QN,Zb]
theorem Bare.join (hf:FunD f) {b t:Nat} (m:MayJ f b t) {r i:Nat} (h:Bare (xg f b t) r i):i≠t∧Bare f r i:=by
 induction h with
 | zero h=>
  refine ⟨fun e=>?_,.zero h⟩
  have h1:=m.to
  rw [qM m.hb] at h1
  have:=hf.tos b m.hb t (by rw [h1];simp)
  omega
 | @step a c _ h2 h3 h4 ih=>
  rw [qJ] at h3
  obtain ⟨hat,hB⟩:=ih
  rw [Jv m h3,zQ hat] at h4
  rw [Q1 m h3,zQ hat] at h2
  by_cases e:a=b
  ·subst e
   rw [zZ rfl] at h2 h4
   rw [yH,not_or] at h2
   have ht:=Bare.step hB h2.1 h3 (b:=t) (by rw [m.to];simp)
   have hc:=Bare.step ht h2.2 m.ht h4
   refine ⟨fun e=>?_,hc⟩
   subst e
   have h5:c∈insN f c:=hf.mem.2 ⟨m.ht,h4⟩
   rw [m.one,yI] at h5
   exact m.ne h5
  rw [zQ e] at h2 h4
  refine ⟨fun e2=>?_,.step hB h2 h3 h4⟩
  subst e2
  have h5:a∈insN f c:=hf.mem.2 ⟨h3,h4⟩
  rw [m.one,yI] at h5
  exact e h5
theorem SsaS.join (hC:FunC nf P f) (h:SsaS f) {b t:Nat} (m:MayJ f b t):SsaS (xg f b t):=by
 have hf:=hC.funD
 have hp:(atF f t).phis=[]:=by rw [qC m.ht];exact m.phi
 have big:∀{r:Nat},Bare f r b→r∉jL (atF f b)→Bare f r t:=fun h1 h2=>.step h1 h2 m.hb (by rw [m.to];simp)
 refine ⟨fun i hi=>?_,fun i j hi hj r h1 h2=>?_,fun i hi r hr=>?_,fun c hc j hj v hv e hB=>?_,fun c hc e hB=>?_,fun c hc p hq a ha e hB=>?_⟩
 ·rw [qJ] at hi
  rw [Q1 m hi]
  split
  ·exact List.nodup_nil
  split
  ·exact List.nodup_append.2 ⟨h.own b m.hb,h.own t m.ht,fun x hx y hy e=>m.ne (h.two _ _ m.ht m.hb y hy (e ▸ hx))⟩
  exact h.own i hi
 ·rw [qJ] at hi hj
  have key:∀i,i<f.blocks.length→r∈jL (atF (xg f b t) i)→∃k,k<f.blocks.length∧r∈jL (atF f k)∧i=if k=t then b else k:=fun i hi hr=>by
   rw [Q1 m hi] at hr
   split at hr
   ·cases hr
   next e1=>
   split at hr
   ·next e2=>
    rcases yH.1 hr with g|g
    ·exact ⟨b,m.hb,g,by rw [zQ (Ne.symm m.ne)];exact e2⟩
    exact ⟨t,m.ht,g,by rw [zZ rfl];exact e2⟩
   exact ⟨i,hi,hr,by rw [zQ e1]⟩
  obtain ⟨k,hk,g1,e1⟩:=key i hi h1
  obtain ⟨l,hl,g2,e2⟩:=key j hj h2
  rw [e1,e2,h.two _ _ hk hl r g1 g2]
 ·rw [qJ] at hi
  rw [Q1 m hi] at hr
  split at hr
  ·cases hr
  split at hr
  ·rcases yH.1 hr with g|g
   ·exact h.par b m.hb r g
   exact h.par t m.ht r g
  exact h.par i hi r hr
 ·rw [qJ] at hc
  obtain ⟨hct,hB1⟩:=hB.join hf m
  have hx:=jK hc m.hb m.ht
  rw [zQ hct] at hx
  by_cases e2:c=b
  rotate_left
  ·simp only [zQ e2] at hx
   have hbp:kL (atF (xg f b t) c) j=kL (atF f c) j:=by
    rw [hx]
    unfold kL
    simp only [QN]
   have hlist:(atF (xg f b t) c).list=(atF f c).list:=by rw [hx]
   simp only [hlist] at hj hv
   rw [hbp]
   exact h.ins c hc j hj v hv e hB1
  subst e2
  simp only [if_true] at hx
  have hbp:kL (atF (xg f c t) c) j=kL (atF f c) j++((atF f t).list.take (j - (atF f c).list.length)).flatMap fun i=>vt i.dst:=by
   rw [hx]
   unfold kL
   simp only [QN,List.take_append,yn,yF]
  rw [hbp]
  have hlist:(atF (xg f c t) c).list=(atF f c).list++(atF f t).list:=by rw [hx]
  simp only [hlist] at hj hv
  by_cases hjl:j<(atF f c).list.length
  ·rw [List.getElem_append_left hjl] at hv
   exact yE _ (h.ins c hc j hjl v hv e hB1)
  rw [List.getElem_append_right (by omega)] at hv
  rw [yN] at hj
  by_cases hm:v.2.toNat∈jL (atF f c)
  ·refine yE _ ?_
   unfold jL kL at hm
   unfold kL
   rw [yP] at hm
   rw [List.take_of_length_le (by omega)]
   exact hm
  refine yM _ ?_
  have:=h.ins t m.ht (j - (atF f c).list.length) (by omega) v hv e (big hB1 hm)
  unfold kL at this
  rw [hp] at this
  simpa using this
 ·rw [qJ] at hc
  have hx:=jK hc m.hb m.ht
  have hB2:=hB.join hf m
  rw [zQ hB2.1] at hx
  rw [Q1 m hc,zQ hB2.1]
  by_cases e2:c=b
  ·subst e2
   have hfin:(atF (xg f c t) c).fin=(atF f t).fin:=by rw [hx];simp
   rw [hfin] at e hB2 ⊢
   rw [zZ rfl]
   by_cases hm:(atF f t).fin.onn.toNat∈jL (atF f c)
   ·exact yE _ hm
   exact yM _ (h.fin t m.ht e (big hB2.2 hm))
  have hfin:(atF (xg f b t) c).fin=(atF f c).fin:=by rw [hx];simp [e2]
  rw [hfin] at e hB2 ⊢
  rw [zQ e2]
  exact h.fin c hc e hB2.2
 rw [qJ] at hc
 have hB2:=hB.join hf m
 have hx:=jK hc m.hb m.ht
 by_cases ect:c=t
 ·rw [zZ ect] at hx
  rw [hx] at hq
  cases hq
 rw [zQ ect] at hx
 rw [hx] at hq
 obtain ⟨q,hq1,rfl⟩:=yD.1 hq
 have hlen:=(hC.phi c hc q (by rw [←qC hc];exact hq1)).len
 have hJ:=Yn hf m ect hlen
 have ein:(if (c:Int)∈(atF f t).fin.to then { q with src:=QX (insN f c) t b q.src } else q:PhiL).src=(insN (xg f b t) c).map fun a=>xK (insN f c) q.src (if (c:Int)∈tosB f.blocks t∧a=b then t else a):=by
  rw [←hJ,k8 f m.ht]
  split<;>rfl
 rw [ein,kB _ ha] at e hB2 ⊢
 have hai:=(ZD hf m ect (a:=a)).1 ha
 have haf:a<f.blocks.length:=by rw [←qJ f b t];exact ((hf.join m).mem.1 ha).1
 rw [Q1 m haf,zQ hB2.1]
 by_cases hct:(c:Int)∈tosB f.blocks t
 ·rw [zZ hct] at hai
  by_cases eab:a=b
  ·subst eab
   have hc1:(c:Int)∈tosB f.blocks t∧a=a:=⟨hct,rfl⟩
   rw [zZ hc1] at e hB2 ⊢
   rw [zZ rfl]
   by_cases hm:(xK (insN f c) q.src t).2.toNat∈jL (atF f a)
   ·exact yE _ hm
   exact yM _ (h.phi c hc q hq1 t (hf.mem.2 ⟨m.ht,hct⟩) e (big hB2.2 hm))
  have hc1:¬((c:Int)∈tosB f.blocks t∧a=b):=fun g=>eab g.2
  rw [zQ hc1] at e hB2 ⊢
  rw [zQ eab]
  exact h.phi c hc q hq1 a (hai.resolve_left eab).2 e hB2.2
 rw [zQ hct] at hai
 have hc1:¬((c:Int)∈tosB f.blocks t∧a=b):=fun g=>hct g.1
 rw [zQ hc1] at e hB2 ⊢
 by_cases eab:a=b
 ·subst eab
  have:=(hf.mem.1 hai).2
  rw [m.to,yI] at this
  omega
 rw [zQ eab]
 exact h.phi c hc q hq1 a hai e hB2.2
end

variable {nf : Nat} {P : Nat → Int} {f : FunL}
/-! ## names -/
theorem nm_par {r:Nat} (h:r<f.params.toNat):nmN f r=r∧r∈Qr f:=by
 obtain ⟨E,hE⟩:=Zm f.params.toNat (f.blocks.flatMap metB++JS f)
 have e:Qr f=List.range f.params.toNat++E:=by
  unfold Qr Zu
  rw [yF]
  exact hE
 have hm:r∈List.range f.params.toNat:=yR.2 h
 unfold nmN
 rw [e]
 refine ⟨?_,yE _ hm⟩
 rw [List.idxOf_append,zZ hm,idx_range h]
theorem nm_inj {a b:Nat} (ha:a∈Qr f) (hb:b∈Qr f) (e:nmN f a=nmN f b):a=b:=Z0 ha hb e
theorem ZF {b:Nat} (hb:b<f.blocks.length):atF (xq f) b=mn (Zv f).1 (atF f b):=by
 rw [qC (by rw [zd];exact hb),Z4 (by rw [zd];exact hb),qC hb]
theorem Xo {b:Nat} (hb:b<f.blocks.length) {r:Nat} (h:r∈jL (atF f b)):r∈Qr f:=by
 rw [Zb,qC hb] at h
 rcases yH.1 h with h|h
 ·obtain ⟨p,hp,rfl⟩:=yD.1 h
  exact jn hb (Jw hp)
 obtain ⟨i,hi,h⟩:=yU.1 h
 exact jn hb (ZE hi (yM _ h))
theorem YJ {b:Nat} (hb:b<f.blocks.length) (j:Nat):kL (mn (Zv f).1 (atF f b)) j=(kL (atF f b) j).map (nmN f):=by
 unfold kL mn
 rw [yW,←List.map_take,qC hb]
 congr 1
 ·rw [yy,yy]
  refine ya fun p hp=>?_
  show ((Zv f).1 p.dst.toNat).toNat=nmN f p.dst.toNat
  rw [nm_is (jn hb (Jw hp))]
  simp
 refine Yr fun i hi=>?_
 exact metD_ren fun e=>jn hb (ZE (List.mem_of_mem_take hi) (yM _ (by unfold vt;rw [zZ e];simp)))
theorem kd {b:Nat} (hb:b<f.blocks.length):jL (atF (xq f) b)=(jL (atF f b)).map (nmN f):=by
 unfold jL
 rw [ZF hb,←YJ hb]
 simp [mn]
theorem name_tosB (i:Nat):tosB (xq f).blocks i=tosB f.blocks i:=by
 unfold tosB xq
 rw [List.getElem?_map]
 cases f.blocks[i]?<;>rfl
theorem Bare.name {r i:Nat} (h:Bare (xq f) (nmN f r) i):Bare f r i:=by
 induction h with
 | zero h=>
  refine .zero ?_
  rcases yq r f.params.toNat with g|g
  ·rw [(nm_par g).1] at h
   exact h
  exact g
 | @step a b _ h2 h3 h4 ih=>
  rw [zd] at h3
  rw [name_tosB] at h4
  refine .step ih (fun g=>h2 ?_) h3 h4
  rw [kd h3]
  exact List.mem_map_of_mem g
theorem YK (m:Nat→Int) (v:Bool×Int):(xe m v).1=v.1:=by
 unfold xe
 split
 ·next h=>exact h.symm
 rfl
theorem JQ {v:Bool×Int} (h:v.1=true) (hm:v.2.toNat∈Qr f):(xe (Zv f).1 v).2.toNat=nmN f v.2.toNat:=by
 unfold xe
 rw [zZ h,nm_is hm]
 simp
theorem takes_ren (m:Nat→Int) (x:InsL):takes (ky m x)=(takes x).map (xe m):=by
 unfold takes ky
 simp only [renV_eta,yW]
 congr 1
 congr 1<;>split<;>rfl
theorem takes_met {b:Nat} (hb:b<f.blocks.length) {x:InsL} (hx:x∈f.blocks[b].list) {v:Bool×Int} (hv:v∈takes x) (e:v.1=true):v.2.toNat∈Qr f:=by
 refine jn hb (ZE hx (yE _ ?_))
 unfold takes at hv
 unfold QY
 rcases yH.1 hv with h|h
 ·rcases yH.1 h with h|h
  ·split at h
   ·rw [yI.1 h] at e ⊢
    exact yE _ (yE _ (jR e))
   cases h
  split at h
  ·rw [yI.1 h] at e ⊢
   exact yE _ (yM _ (jR e))
  cases h
 exact yM _ (yU.2 ⟨v,h,jR e⟩)
theorem SsaS.name (hC:FunC nf P f) (h:SsaS f):SsaS (xq f):=by
 have hf:=hC.funD
 have hl:∀{i},i<(xq f).blocks.length→i<f.blocks.length:=fun {i} hi=>by rw [zd] at hi;exact hi
 refine ⟨fun i hi=>?_,fun i j hi hj r h1 h2=>?_,fun i hi r hr=>?_,fun b hb j hj v hv e hB=>?_,fun b hb e hB=>?_,fun b hb p hp a ha e hB=>?_⟩
 ·rw [kd (hl hi)]
  unfold List.Nodup
  rw [List.pairwise_map]
  exact List.Pairwise.imp_of_mem (fun {a b} ha hb' g e=>g (nm_inj (Xo (hl hi) ha) (Xo (hl hi) hb') e)) (h.own i (hl hi))
 ·rw [kd (hl hi)] at h1
  rw [kd (hl hj)] at h2
  obtain ⟨a,ha,rfl⟩:=yD.1 h1
  obtain ⟨b,hb,e⟩:=yD.1 h2
  rw [nm_inj (Xo (hl hj) hb) (Xo (hl hi) ha) e] at hb
  exact h.two _ _ (hl hi) (hl hj) a ha hb
 ·rw [kd (hl hi)] at hr
  obtain ⟨a,ha,rfl⟩:=yD.1 hr
  have h1:=h.par i (hl hi) a ha
  show f.params.toNat≤nmN f a
  rcases yq (nmN f a) f.params.toNat with g|g
  ·have h2:=nm_par g
   have:=nm_inj h2.2 (Xo (hl hi) ha) h2.1
   omega
  exact g
 ·have hb':=hl hb
  have hn:=ZF hb'
  have hlist:(atF (xq f) b).list=(atF f b).list.map (ky (Zv f).1):=by rw [hn];rfl
  rw [hn,YJ hb']
  simp only [hlist,xE,takes_ren] at hv
  obtain ⟨w,hw,rfl⟩:=yD.1 hv
  rw [hlist,yT] at hj
  rw [YK] at e
  have hm:=takes_met hb' (x:=(atF f b).list[j]) (by rw [←qC hb'];exact zP hj) hw e
  rw [JQ e hm] at hB ⊢
  exact List.mem_map_of_mem (h.ins b hb' j hj w hw e hB.name)
 ·have hb':=hl hb
  have hn:=ZF hb'
  rw [kd hb']
  have e1:(atF (xq f) b).fin.onr=(atF f b).fin.onr:=by rw [hn];rfl
  rw [e1] at e
  have hm:(atF f b).fin.onn.toNat∈Qr f:=by
   rw [qC hb'] at e ⊢
   exact jn hb' (Yo e)
  have e2:(atF (xq f) b).fin.onn.toNat=nmN f (atF f b).fin.onn.toNat:=by
   rw [hn]
   exact JQ (v:=((atF f b).fin.onr,(atF f b).fin.onn)) e hm
  rw [e2] at hB ⊢
  exact List.mem_map_of_mem (h.fin b hb' e hB.name)
 have hb':=hl hb
 have hn:=ZF hb'
 rw [Yq] at ha e hB ⊢
 rw [hn] at hp
 obtain ⟨q,hq,rfl⟩:=yD.1 hp
 have hq2:=hq
 rw [qC hb'] at hq2
 have hrow:=fromR_row (hf.insD b) (hC.phi b hb' q hq2).len
 have e3:xK (insN f b) (q.src.map (xe (Zv f).1)) a=xe (Zv f).1 (xK (insN f b) q.src a):=by
  have e4:q.src.map (xe (Zv f).1)=(insN f b).map fun a=>xe (Zv f).1 (xK (insN f b) q.src a):=by
   conv=>lhs;rw [hrow]
   rw [yy]
   rfl
  rw [e4,kB _ ha]
 have e:(xK (insN f b) (q.src.map (xe (Zv f).1)) a).1=true:=e
 have hB:Bare (xq f) (xK (insN f b) (q.src.map (xe (Zv f).1)) a).2.toNat a:=hB
 show (xK (insN f b) (q.src.map (xe (Zv f).1)) a).2.toNat∈_
 rw [e3] at e hB ⊢
 rw [YK] at e
 have hs:xK (insN f b) q.src a∈q.src:=by
  have h1:=List.mem_map_of_mem (f:=xK (insN f b) q.src) ha
  rw [←hrow] at h1
  exact h1
 have hm:=jn hb' (Yp hq2 hs e)
 rw [JQ e hm] at hB ⊢
 have hab:a<f.blocks.length:=(hf.mem.1 ha).1
 rw [kd hab]
 exact List.mem_map_of_mem (h.phi b hb' q hq a ha e hB.name)
/-! ## a function made anew block by block, with as many ways or fewer -/
theorem Bare.fewer {g:FunL} (hp:g.params=f.params) (hn:g.blocks.length=f.blocks.length) (hd:∀i,i<f.blocks.length→jL (atF g i)=jL (atF f i)) (ht:∀i,i<f.blocks.length→∀t∈tosB g.blocks i,t∈tosB f.blocks i) {r i:Nat} (h:Bare g r i):Bare f r i:=by
 induction h with
 | zero h=>exact .zero (by rw [←hp];exact h)
 | @step a b _ h2 h3 h4 ih=>
  rw [hn] at h3
  rw [hd a h3] at h2
  exact .step ih h2 h3 (ht a h3 _ h4)
theorem SsaS.cut (hC:FunC nf P f) (h:SsaS f) {c gone:Nat} (m:MayC f c gone):SsaS (jV f c gone):=by
 have hf:=hC.funD
 have hg:=hf.cut m
 have hx:∀{i},i<f.blocks.length→atF (jV f c gone) i={ phis:=if i=gone then (atF f i).phis.map fun p=>{ p with src:=p.src.eraseIdx ((insN f gone).idxOf c) } else (atF f i).phis,list:=(atF f i).list,fin:=if i=c then ⟨2,false,0,(atF f i).fin.to.filter fun t=>decide (t≠(gone:Int))⟩ else (atF f i).fin }:=fun {i} hi=>by
  rw [qC (by rw [qS];exact hi),Zn (by rw [qS];exact hi),qC hi]
 have hdp:∀i,i<f.blocks.length→∀j,kL (atF (jV f c gone) i) j=kL (atF f i) j:=fun i hi j=>by
  rw [hx hi]
  unfold kL
  congr 1
  show (if i=gone then _ else _:List PhiL).map _=_
  split
  ·rw [yy];rfl
  rfl
 have hd:∀i,i<f.blocks.length→jL (atF (jV f c gone) i)=jL (atF f i):=fun i hi=>by
  unfold jL
  rw [hdp i hi,hx hi]
 have fewer:∀{r i:Nat},Bare (jV f c gone) r i→Bare f r i:=fun hB=>Bare.fewer (f:=f) (g:=jV f c gone) rfl (qS f c gone) hd (h:=hB) fun i hi t ht=>by
  rw [Ky hi] at ht
  split at ht
  ·next e=>rw [e];exact (yu.1 ht).1
  exact ht
 refine ⟨fun i hi=>?_,fun i j hi hj r h1 h2=>?_,fun i hi r hr=>?_,fun b hb j hj v hv e hB=>?_,fun b hb e hB=>?_,fun b hb p hp a ha e hB=>?_⟩
 ·rw [qS] at hi
  rw [hd i hi]
  exact h.own i hi
 ·rw [qS] at hi hj
  rw [hd i hi] at h1
  rw [hd j hj] at h2
  exact h.two i j hi hj r h1 h2
 ·rw [qS] at hi
  rw [hd i hi] at hr
  exact h.par i hi r hr
 ·rw [qS] at hb
  have hlist:(atF (jV f c gone) b).list=(atF f b).list:=by rw [hx hb]
  simp only [hlist] at hj hv
  rw [hdp b hb]
  exact h.ins b hb j hj v hv e (fewer hB)
 ·rw [qS] at hb
  rw [hd b hb]
  by_cases ec:b=c
  ·have:(atF (jV f c gone) b).fin.onr=false:=by rw [hx hb];simp [ec]
   rw [this] at e
   cases e
  have:(atF (jV f c gone) b).fin=(atF f b).fin:=by rw [hx hb];simp [ec]
  rw [this] at e hB ⊢
  exact h.fin b hb e (fewer hB)
 rw [qS] at hb
 have ha2:=(Xd hf m).1 ha
 have hab:a<f.blocks.length:=(hf.mem.1 ha2.1).1
 rw [hd a hab]
 rw [hx hb] at hp
 by_cases eg:b=gone
 ·subst eg
  have hp:p∈(if b=b then (atF f b).phis.map fun p:PhiL=>({ p with src:=p.src.eraseIdx ((insN f b).idxOf c) }:PhiL) else (atF f b).phis):=hp
  rw [zZ rfl] at hp
  obtain ⟨q,hq,rfl⟩:=yD.1 hp
  have hq2:=hq
  rw [qC hb] at hq2
  have hrow:=fromR_row (hf.insD b) (hC.phi b hb q hq2).len
  have e1:insN (jV f c b) b=(insN f b).filter fun a=>decide (a≠c):=XS (xm hg b) ((xm hf b).filter _) fun a=>by
   rw [Xd hf m,yu]
   simp
  have e2:q.src.eraseIdx ((insN f b).idxOf c)=(insN (jV f c b) b).map (xK (insN f b) q.src):=by
   conv=>lhs;rw [hrow]
   rw [X9,Xa (hf.insD b),e1]
  have e3:xK (insN (jV f c b) b) (q.src.eraseIdx ((insN f b).idxOf c)) a=xK (insN f b) q.src a:=by rw [e2,kB _ ha]
  have e:(xK (insN (jV f c b) b) (q.src.eraseIdx ((insN f b).idxOf c)) a).1=true:=e
  have hB:Bare (jV f c b) (xK (insN (jV f c b) b) (q.src.eraseIdx ((insN f b).idxOf c)) a).2.toNat a:=hB
  show (xK (insN (jV f c b) b) (q.src.eraseIdx ((insN f b).idxOf c)) a).2.toNat∈_
  rw [e3] at e hB ⊢
  exact h.phi b hb q hq a ha2.1 e (fewer hB)
 have hp:p∈(if b=gone then (atF f b).phis.map fun p:PhiL=>({ p with src:=p.src.eraseIdx ((insN f gone).idxOf c) }:PhiL) else (atF f b).phis):=hp
 rw [zQ eg] at hp
 have e1:insN (jV f c gone) b=insN f b:=XS (xm hg b) (xm hf b) fun a=>by
  rw [Xd hf m]
  simp [eg]
 rw [e1] at e hB ⊢
 exact h.phi b hb p hp a ha2.1 e (fewer hB)
theorem sureI_dst (l:Nat→Spn) (x:InsL):(xp l x).dst=x.dst:=by
 unfold xp
 split<;>rfl
theorem KN {l:Nat→Spn} {x:InsL} {v:Bool×Int} (h:v∈takes (xp l x)) (e:v.1=true):v∈takes x:=by
 unfold xp at h
 split at h
 ·have h:v∈[((false,(l x.dst.toNat).lo):Bool×Int)]:=h
  rw [yI.1 h] at e
  cases e
 exact h
theorem SsaS.insT (l:Nat→Spn) (h:SsaS f):SsaS (Go.Proofs.YtbnnhmcloecijaaGreatDoor.insT l f):=by
 have hn:=jS l f
 have hx:∀{i},i<f.blocks.length→atF (Go.Proofs.YtbnnhmcloecijaaGreatDoor.insT l f) i={ atF f i with list:=(atF f i).list.map (xp l) }:=fun {i} hi=>by
  rw [qC (by rw [hn];exact hi),JC (by rw [hn];exact hi),qC hi]
 have hdp:∀i,i<f.blocks.length→∀j,kL (atF (Go.Proofs.YtbnnhmcloecijaaGreatDoor.insT l f) i) j=kL (atF f i) j:=fun i hi j=>by
  rw [hx hi]
  unfold kL
  congr 1
  show (((atF f i).list.map (xp l)).take j).flatMap _=_
  rw [←List.map_take]
  generalize (atF f i).list.take j=L
  induction L with
  | nil=>rfl
  | cons a L ih=>
   rw [yS,List.flatMap_cons,List.flatMap_cons,ih,sureI_dst]
 have hd:∀i,i<f.blocks.length→jL (atF (Go.Proofs.YtbnnhmcloecijaaGreatDoor.insT l f) i)=jL (atF f i):=fun i hi=>by
  unfold jL
  rw [hdp i hi,hx hi]
  simp
 have fewer:∀{r i:Nat},Bare (Go.Proofs.YtbnnhmcloecijaaGreatDoor.insT l f) r i→Bare f r i:=fun hB=>Bare.fewer (f:=f) (g:=Go.Proofs.YtbnnhmcloecijaaGreatDoor.insT l f) rfl hn hd (h:=hB) fun i hi t ht=>by
  rw [k8 _ (by rw [hn];exact hi),hx hi] at ht
  rw [k8 _ hi]
  exact ht
 refine ⟨fun i hi=>?_,fun i j hi hj r h1 h2=>?_,fun i hi r hr=>?_,fun b hb j hj v hv e hB=>?_,fun b hb e hB=>?_,fun b hb p hp a ha e hB=>?_⟩
 ·rw [hn] at hi
  rw [hd i hi]
  exact h.own i hi
 ·rw [hn] at hi hj
  rw [hd i hi] at h1
  rw [hd j hj] at h2
  exact h.two i j hi hj r h1 h2
 ·rw [hn] at hi
  rw [hd i hi] at hr
  exact h.par i hi r hr
 ·rw [hn] at hb
  have hlist:(atF (Go.Proofs.YtbnnhmcloecijaaGreatDoor.insT l f) b).list=(atF f b).list.map (xp l):=by rw [hx hb]
  simp only [hlist,yT,xE] at hj hv
  rw [hdp b hb]
  exact h.ins b hb j hj v (KN hv e) e (fewer hB)
 ·rw [hn] at hb
  rw [hd b hb]
  have:(atF (Go.Proofs.YtbnnhmcloecijaaGreatDoor.insT l f) b).fin=(atF f b).fin:=by rw [hx hb]
  rw [this] at e hB ⊢
  exact h.fin b hb e (fewer hB)
 rw [hn] at hb
 rw [Yw] at ha e hB ⊢
 rw [hx hb] at hp
 have hab:a<f.blocks.length:=by
  exact Vk ha
 rw [hd a hab]
 exact h.phi b hb p hp a ha e (fewer hB)

variable {bs : List BlkL} {o : List Nat} {ins : Nat → List Nat} {u : Nat → Int}
theorem J7 {pl:Nat→Nat}:∀{n:Nat},kx pl ins o u n=false→∀i,i+2≤n→kx pl ins o u (i+2)=false
 | 0,_,i,hi=>by omega
 | 1,_,i,hi=>by omega
 | n+2,h,i,hi=>by
  by_cases e:i=n
  ·subst e;exact h
  rw [kR,Bool.or_eq_false_iff] at h
  exact J7 h.1 i (by omega)
theorem TreeE.fix (h:OrdOk bs o) (hE:TreeE bs o ins u):(∀c∈o,mkN u c)∧∀c∈o,c≠0→u c=vm u (plN o) (ins c):=by
 obtain ⟨par,hJ⟩:=hE.inv
 have hp:=h.pos
 obtain ⟨m,hm⟩:∃m,o.length=m+1:=⟨o.length - 1,by omega⟩
 have same:∀i,i+1≤o.length→kx (plN o) ins o u (i+1)=false→z7 (plN o) ins o u (i+1)=u:=fun i hi hf=>by
  rcases h.round2 hJ i hi with h2|h2
  ·exact h2.2
  rw [hf] at h2;cases h2.1
 refine ⟨fun c hc=>?_,fun c hc h0=>?_⟩
 ·have h1:=(h.round hJ m (by omega)).1
  have h2:=same m (by omega) (by rw [←hm];exact hE.calm)
  rw [h2] at h1
  exact h1.past c hc (by have:=h.lt hc;omega)
 obtain ⟨k,hk,rfl⟩:=yX hc
 obtain ⟨l,hl⟩:=h.root
 cases k with
 | zero=>exact absurd (by simp [hl]) h0
 | succ i=>
  have h3:=J7 hE.calm i (by omega)
  have h4:=h3
  rw [kR,Bool.or_eq_false_iff] at h4
  have h5:=same i (by omega) h4.1
  have h6:=h4.2
  rw [h5,(h.getD hk).1] at h6
  simpa using h6
theorem TreeE.dom (h:OrdOk bs o) (hE:TreeE bs o ins u) {c p:Nat} (hc:c∈o) (h0:c≠0) (hp:p∈ins c) (hpo:p∈o) {x:Nat} (hx:Ch (upN u) c x) (hne:x≠c):Ch (upN u) p x:=by
 obtain ⟨hm,hf⟩:=hE.fix h
 obtain ⟨par,hJ⟩:=hE.inv
 have hb:=hJ.toDomI.bests (ins c) (-1) (fun hn=>by omega) (.inr ⟨p,hp,hm p hpo⟩)
 have h1:=hb.on p hp (hm p hpo)
 have e:(ins c).foldl (jq u (plN o)) (-1)=u c:=(hf c hc h0).symm
 rw [e] at h1
 cases hx with
 | refl=>exact absurd rfl hne
 | step _ h2=>exact h1.trans h2
theorem YL:∀(k:Nat) (a b:Int),jk (km u 0 (-1)) a k b=true→0≤a→0≤b→Ch (upN u) b.toNat a.toNat
 | 0,a,b,h,_,_=>by
  have e:a=b:=by unfold jk at h;simpa using h
  rw [e];exact .refl _
 | k+1,a,b,h,ha,hb=>by
  unfold jk at h
  split at h
  ·next hc=>
   by_cases e:b=0
   ·subst e
    have e2:km u 0 (-1) (0:Int).toNat = -1:=by simp [km]
    rw [e2] at h
    cases k with
    | zero=>
     unfold jk at h
     have:a = -1:=by simpa using h
     omega
    | succ k=>
     unfold jk at h
     rw [zQ (by omega)] at h
     have:a = -1:=by simpa using h
     omega
   have e2:km u 0 (-1) b.toNat=u b.toNat:=by unfold km;rw [zQ (by omega)]
   rw [e2] at h
   by_cases hu:0≤u b.toNat
   ·have ih:=YL k a (u b.toNat) h ha hu
    exact .step (by omega) ih
   exfalso
   cases k with
   | zero=>
    unfold jk at h
    have:a=u b.toNat:=by simpa using h
    omega
   | succ k=>
    unfold jk at h
    rw [zQ (by omega)] at h
    have:a=u b.toNat:=by simpa using h
    omega
  have e:a=b:=by simpa using h
  rw [e];exact .refl _
theorem ch_root {up:Nat→Nat} {x:Nat} (h:Ch up 0 x):x=0:=by
 cases h with
 | refl=>rfl
 | step h0 _=>exact absurd rfl h0

theorem wr_mem:∀(L:List WrE) (s:(Nat→Int×Int)×Bool) (v:Nat),0≤((L.foldl qH s).1 v).1→(L.foldl qH s).1 v=s.1 v∨∃e∈L,e.r=v∧(L.foldl qH s).1 v=(e.b,e.a)
 | [],s,v,_=>.inl rfl
 | e::L,s,v,h=>by
  rcases wr_mem L (qH s e) v h with h1|⟨e',h1,h2⟩
  ·have h2:(L.foldl qH (qH s e)).1 v=jQ s.1 e.r e.b e.a v:=h1
   unfold jQ at h2
   by_cases hc:v=e.r∧(s.1 e.r).1<0
   ·rw [zZ hc] at h2
    exact .inr ⟨e,yg,hc.1.symm,h2⟩
   rw [zQ hc] at h2
   exact .inl h2
  exact .inr ⟨e',yc _ h1,h2⟩
theorem wrF_mem {f:FunL} {v:Nat} (h:0≤((ZC f).1 v).1):∃e∈Q4 f,e.r=v∧(ZC f).1 v=(e.b,e.a):=by
 rcases wr_mem (Q4 f) (wr0,true) v h with h1|h1
 ·unfold ZC at h
  rw [h1] at h
  exact absurd h (by show ¬ (0:Int)≤-1;omega)
 exact h1
theorem YM {f:FunL} {e:WrE} (h:e∈Q4 f):(e.b=0∧e.a = -1∧e.r<f.params.toNat)∨
  ∃j,∃hj:j<f.blocks.length,e.b=j∧((e.a = -1∧∃p∈f.blocks[j].phis,p.dst.toNat=e.r)∨∃i,∃hi:i<f.blocks[j].list.length,e.a=i∧0≤(f.blocks[j].list[i]).dst∧(f.blocks[j].list[i]).dst.toNat=e.r):=by
 unfold Q4 at h
 rcases yH.1 h with h|h
 ·unfold vO at h
  obtain ⟨r,hr,rfl⟩:=yD.1 h
  exact .inl ⟨rfl,rfl,yR.1 hr⟩
 obtain ⟨j,hj,h⟩:=jH h
 rw [yx] at h
 unfold kD at h
 refine .inr ⟨j,hj,?_⟩
 rcases yH.1 h with h|h
 ·obtain ⟨p,hp,rfl⟩:=yD.1 h
  exact ⟨rfl,.inl ⟨rfl,p,hp,rfl⟩⟩
 obtain ⟨i,hi,h⟩:=jH h
 rw [yx] at h
 unfold kl at h
 split at h
 ·cases h
 next hd=>
 rw [yI.1 h]
 exact ⟨rfl,.inr ⟨i,hi,rfl,by omega,rfl⟩⟩
end Go.Proofs.YtbnnhmcloecijaaGreatDoor
