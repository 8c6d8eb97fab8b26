/-
  The contract of args.drop: a parameter dropped, there and at all calls.
-/
import Derived.Shelf.RegionOpenPlain
import Derived.Deep.RegionLaw
import Derived.Lib.SliceRun
import Derived.Lib.QuietBelow
import Derived.Test.YtgjjhadbjmcnpaaGreatDoorArgF
set_option maxRecDepth 100000
set_option maxHeartbeats 16000000
namespace Go.Proofs.YtgjjhadbjmcnpaaGreatDoor
open Go.RowKit Go.Shelf

theorem k9 (g cap n k j:Nat) (xs:List (Bool×Int)) (cur:Array Value) (w:World) (hr:RowAt w 44 g cap 2 cur) (hx:cur.toList.take (n*2)=qS xs) (hl:xs.length=n) (hn:n≤cap) (hk:k<n) (hj:j=k+1) :
  Calls Tryz.prog 53 #[.slice (some ⟨g,0,none⟩) n cap,.int .i64 k,.int .i64 j] w fun e w'=>
   e = .returned (.slice (some ⟨g,0,none⟩) (n - 1) cap)∧(∃cur',RowAt w' 44 g cap 2 cur'∧cur'.toList.take ((n - 1)*2)=qS (xs.eraseIdx k))∧Kept (fun b=>b=g) w w':=by
 obtain ⟨i1,k1,k2,k3,k4⟩:=info_parts kj
 have hcm:cap≤9223372036854775807:=hr.2.2
 have hcs:=hr.2.1
 have hlt:k<j:=by omega
 have hjn:j≤n:=by omega
 obtain ⟨news,hnews⟩:∃news,news=qS (xs.drop j):=⟨_,rfl⟩
 have hlen:news.length=(n - j)*2:=by rw [hnews,zQ,List.length_drop,hl]
 have hget:∀t u,news[t]?=some u→cur[j*2+t]?=some u:=fun t u hu=>by
  rw [hnews,kN,List.getElem?_drop,←hx] at hu
  rw [←Array.getElem?_toList]
  rw [List.getElem?_take] at hu
  split at hu
  ·exact hu
  cases hu
 obtain ⟨A,hA,hsrc⟩:∃A:Addr,(if cap=j then some (⟨g,0,none⟩:Addr) else some ⟨g,j*2,none⟩)=some A∧Hid (∀t u,news[t]?=some u→w.drew.cell? (A.add t)=some u):=by
  by_cases h:cap=j
  ·refine ⟨⟨g,0,none⟩,by simp [h],fun t u hu=>?_⟩
   have h0:news.length=0:=by rw [hlen];omega
   rw [List.length_eq_zero_iff.1 h0] at hu
   simp at hu
  refine ⟨⟨g,j*2,none⟩,by simp [h],fun t u hu=>?_⟩
  rw [ju]
  exact (hr.drew.cell _).trans (hget t u hu)
 have s2:Hid (∀u∈news,u.oneCell'=true):=by rw [hnews];exact ks _
 have s1:=q8 hlen
 obtain ⟨c1,hc1⟩:∃c1:List Value,c1=cur.toList.take (k*2)++news++cur.toList.drop (k*2+news.length):=⟨_,rfl⟩
 have haX:c1.length=cap*2:=by
  rw [hc1]
  simp only [List.length_append,List.length_take,List.length_drop,Array.length_toList,hcs,hlen]
  omega
 obtain ⟨W1,hW1⟩:∃W1,W1=w.drew.setRow g c1.toArray:=⟨_,rfl⟩
 have hr1:RowAt W1 44 g cap 2 c1.toArray:=by rw [hW1];exact hr.drew.put haX
 have hcl:∀ty c,(Builtin.clear_ #[40] ty #[.slice (some ⟨g,(n - 1)*2,none⟩) 1 c]).run Tryz.prog W1 = .ok (.tuple #[]) (W1.setRow g (c1.toArray.toList.take ((n - 1)*2)++(Value.agg #[.bool false,.int .i64 0]).cells.toList++c1.toArray.toList.drop ((n - 1)*2+2)).toArray):=fun ty c=>
  run_clear_row W1 40 44 ty (.agg #[.bool false,.int .i64 0]) 2 Tryz.underlying40 Tryz.zeroValue44 rfl (fun u hu=>by simp [Value.cells] at hu;rcases hu with rfl|rfl<;>rfl) g _ c cap _ hr1 (by simp [haX];omega)
 have HW:=q8 hW1
 have HR:=q8 hr
 have HR1:=q8 hr1
 have hkc:k≤cap:=by omega
 have hjc:j≤cap:=by omega
 have hkm:k+(n - j)=n - 1:=by omega
 have hn1:n - (n - 1)=1:=by omega
 have HX:=q8 (And.intro hx (And.intro hc1 haX))
 have HN:=q8 (And.intro hnews (And.intro hl hj))
 have mixed:Tryz.prog.follows .mixedOrders=true:=by kernel_rfl
 clear hW1 hr hr1 hget hlen hnews hx hc1 haX hj
 go_enter Tryz.func53,Tryz.ntmps53
 go_wp2_with fail
 go_region_law_o (refine step_append_row rfl (.tmp 22) (.tmp 25) 40 rfl 44 i1 2 Tryz.underlying40 k1 k3 g k cap cur (by simp [Act.eval,Act.put]) HR.out.drew A (n - j) (cap - j) news (by simp [Act.eval,Act.put]) s1.out hsrc.out s2.out (by omega) ?_;rw [←HX.out.2.1,←HW.out,hkm])
 go_wp2
 go_ret
 obtain ⟨hx,hc1,haX⟩:=HX.out
 obtain ⟨hnews,hl,hj⟩:=HN.out
 have hom:(c1.take ((n - 1)*2)++Value.bool false::Value.int .i64 0::c1.drop ((n - 1)*2+2)).length=cap*2:=by
  simp only [List.length_append,List.length_take,List.length_drop,haX,List.length_cons]
  omega
 refine ⟨rfl,⟨_,HR1.out.put hom,?_⟩,((Kept.refl _ _).drew.trans (HW.out ▸ HR.out.drew.keep _) (fun _ _ h=>h)).trans (HR1.out.keep _) (fun _ _ h=>h)⟩
 have e1:c1.take ((n - 1)*2)=qS (xs.eraseIdx k):=by
  have l1:(cur.toList.take (k*2)++news).length=(n - 1)*2:=by
   simp only [List.length_append,List.length_take,Array.length_toList,hcs,s1.out]
   omega
  rw [hc1,←l1,List.take_left,hnews,List.eraseIdx_eq_take_drop_succ,kr,kM,←hx,List.take_take,hj]
  congr 2
  omega
 have l2:(c1.take ((n - 1)*2)).length=(n - 1)*2:=by
  simp only [List.length_take,haX]
  omega
 show List.take ((n - 1)*2) (c1.take ((n - 1)*2)++_)=_
 rw [List.take_append_of_le_length (by rw [l2];exact Nat.le_refl _),List.take_take,Nat.min_self]
 exact e1
end Go.Proofs.YtgjjhadbjmcnpaaGreatDoor
namespace Go.Proofs.YtgjjhadbjmcnpaaGreatDoor
open Go.RowKit Go.Shelf Go.Sort

theorem qJ {l n:Nat} {P:Program} {id:Nat} {Q:Exit→Act→World→Prop} {a:Act} {w:World} {lst:List Oper} (hm:P.follows .mixedOrders=true) (hB:Region.lexB .any lst.toArray=true) (hL:¬ LetsOut Q) (hnd:Jb lst.toArray=true)
  (h:wpQuiet P lst.toArray (fun w'=>∃p:Regrown,w'=grow (redrawn w p.d) p.os) (fun a'=>∀w',(∃p:Regrown,w'=grow (redrawn w p.d) p.os)→Q .normal a' w') lst a):(Code.region id lst.toArray true).wpIn (Fence.wide.inRound l) n P Q a w:=by
 simp only [Region.lexB,Bool.and_eq_true] at hB
 refine wpIn_region_any hm (xZ hL (Q0 hnd) _ _ _ _ (wpAny_of_quiet (C:=fun w'=>∃p:Regrown,w'=grow (redrawn w p.d) p.os) (Q:=fun a'=>∀w',(∃p:Regrown,w'=grow (redrawn w p.d) p.os)→Q .normal a' w') (fun _ w' hw' h=>h w' hw') _ _ _ _ ⟨⟨w.drawn+1,#[]⟩,by rw [grow_empty];rfl⟩ ?_))
 have:=wpAnyQ_lex (C:=fun w'=>∃p:Regrown,w'=grow (redrawn w p.d) p.os) (md:=.any) hB.1 lst 0 (Array.replicate lst.toArray.size false) a (by simp) (by simpa using hB.2) h
 simpa using this
attribute [local go_sem] Oper.semAt_some

theorem del_own {wo:World} {qa:Option Addr} {ca p:Nat} {xs:List (Bool×Int)} {Ti:Blks} (h:SlQ 44 2 16 vM wo (.slice qa xs.length ca) xs Ti) (hp:p<xs.length) :
  ∃ga,qa=some ⟨ga,0,none⟩∧Ti ga∧Calls Tryz.prog 53 #[.slice (some ⟨ga,0,none⟩) xs.length ca,.int .i64 p,.int .i64 ((p+1:Nat):Int)] wo.drew fun e w'=>
   e = .returned (.slice (some ⟨ga,0,none⟩) (xs.length - 1) ca)∧SlQ 44 2 16 vM w' (.slice (some ⟨ga,0,none⟩) (xs.length - 1) ca) (xs.eraseIdx p) Ti∧Kept (fun b=>b=ga) wo w':=by
 obtain ⟨hrow,h64,hbl,hin⟩:=h.sl.row
 obtain ⟨hl,h1|⟨ga,cap,cur,hv,_,hh,hn,hm,hs,ht⟩⟩:=hrow
 ·obtain ⟨h1,h2⟩:=h1
  simp at h1
  omega
 injection hv with e1 e2 e3
 subst e1 e3
 have he:(xs.eraseIdx p).length=xs.length - 1:=List.length_eraseIdx_of_lt hp
 have hT:Ti ga:=hbl ga rfl
 refine ⟨ga,rfl,hT,?_⟩
 refine (k9 ga ca xs.length p (p+1) xs cur wo.drew ⟨hh,hs,hm⟩ ht rfl hn hp rfl).mono ?_
 rintro e w' ⟨rfl,⟨cur',hR,ht'⟩,hK⟩
 have hK2:Kept (fun b=>b=ga) wo w':=((Kept.refl (fun b=>b=ga) wo).drew).trans hK fun _ _ h=>h
 refine ⟨rfl,⟨?_,by rw [he];have:=h.bd;omega⟩,hK2⟩
 have hO:=hR.own (n:=xs.length - 1) (xs:=qS (xs.eraseIdx p)) (by omega) (by rw [zQ,he]) ht'
 rw [←he] at hO ⊢
 exact SlO.ofRow hO (fun x hx=>h64 x (List.mem_of_mem_eraseIdx hx)) (fun g hg=>by
  have e:ga=g:=by simpa [Value.ownBlock] using hg
  rw [←e];exact hT) (hin.mono hK2.size)
theorem kS {α:Type} {xs:List α} {k:Nat} (hk:k<xs.length) (h:α→α):xs.set k (h xs[k])=xs.modify k h:=by
 refine List.ext_getElem (by simp) fun i h1 h2=>?_
 rw [List.getElem_set,List.getElem_modify]
 split
 ·next e=>subst e;rfl
 rfl
theorem drop_call {k p q:Nat} {f:FunL} (h:∀b∈f.blocks,∀x∈b.list,x.op=20→x.fn=(k:Int)→q<x.args.length):∀b∈(km p f).blocks,∀x∈b.list,x.op=20→x.fn=(k:Int)→q<x.args.length:=fun b hb x hx h1 h2=>by
 obtain ⟨b',hb',rfl⟩:=List.mem_map.1 hb
 obtain ⟨x',hx',rfl⟩:=List.mem_map.1 hx
 have:=h b' hb' x' hx' h1 h2
 simpa [toI] using this

theorem Vg (U g c k p:Nat) (xs:List FunL) (w:World) (S:Blks) (hU:w.cell? ⟨U,1,none⟩=some (.slice (some ⟨g,0,none⟩) xs.length c)) (hUS:¬ S U) (hS:SlO 38 4 FunO w (.slice (some ⟨g,0,none⟩) xs.length c) xs S) (hk:k<xs.length) (hn:xs.length≤140737488355328)
  (h0:∀f∈xs,0<f.blocks.length) (hp:(p:Int)<xs[k].params) (hcall:∀f∈xs,∀b∈f.blocks,∀x∈b.list,x.op=20→x.fn=(k:Int)→p<x.args.length) :
  Calls Tryz.prog 19 #[.pointer (some ⟨U,0,none⟩),.int .i64 k,.int .i64 p] w fun e w'=>e = .returned (.int .i64 (xs[k].params - 1))∧SlO 38 4 FunO w' (.slice (some ⟨g,0,none⟩) xs.length c) (j4 k p xs) S∧Kept S w w':=by
 obtain ⟨g1,c1,csF,TF,hvF,hgz,hgS,hfD,hFf,hgT,hTS,ham,hbE,⟨curF,haR⟩,haS⟩:=hS.focus qV (by omega) hk
 obtain rfl:g=g1:=by injection hvF with a;injection a with a;injection a
 obtain ⟨f,hf⟩:∃f,f=xs[k]:=⟨_,rfl⟩
 rw [←hf] at hp ⊢
 have hfm:f∈xs:=by rw [hf];exact List.getElem_mem hk
 have h0f:0<f.blocks.length:=h0 f hfm
 have hkU:I64 f.params:=by rw [←hf] at hFf;obtain ⟨_,_,_,h,_⟩:=hFf;exact h
 have hbM:I64 (f.params - 1):=by unfold I64 at *;omega
 have e1:w.cell? ⟨g,k*4+1,none⟩=some (.int .i64 f.params):=by
  rw [←hf] at hFf
  obtain ⟨_,hcs,_⟩:=hFf
  rw [ham 1 (by omega),hcs]
  rfl
 have zU:=q9 hU
 have HS:=q8 hS
 have HF:=q8 hf
 have hbh:=q8 hcall
 have H0:=q8 h0
 have HSz:=q8 hS.inb
 have hw1:IntKind.i64.wrap (f.params - 1)=f.params - 1:=by rw [IntKind.wrap_i64];unfold I64 at hbM;omega
 have k0:(0:Int)≤(k:Int):=by omega
 have k1:(k:Int)<xs.length:=by omega
 clear hS hf hcall h0 hvF hgS hfD hFf hgT hTS ham hbE haR haS
 refine (callsIn_wide (n:=3)).1 ?_
 refine callsIn_of_wp_marks Tryz.func19 rfl trivial ?_ rfl
 simp only [Tryz.ntmps19,List.size_toArray,List.length_cons,List.length_nil,Nat.reduceAdd,Nat.reduceSub,Array.replicate_succ,Array.replicate_zero,List.push_toArray,List.append_toArray,List.nil_append,List.cons_append]
 refine wpIn_wide.2 ?_
 go_wp2_with fail
 go_quiet (fail)
 go_wp2_with fail
 obtain ⟨w0,hw0⟩:∃w0,w0=(((w.alloc (.cells #[.int .i64 k] 3)).alloc (.cells #[.int .i64 p] 3)).drewN nq).alloc (.cells #[.int .i64 (f.params - 1)] 3):=⟨_,rfl⟩
 rw [←hw0]
 have hz0:w0.heap.size=w.heap.size+1+1+1:=by rw [hw0];simp
 have hb0:Below w.heap.size w w0:=by rw [hw0];exact bZ
 have hKc:w0.heap[w.heap.size]?=some (.cells #[.int .i64 k] 3 (0,0)):=by rw [hw0];exact qh (qh (qx w _))
 have hPc:w0.heap[w.heap.size+1]?=some (.cells #[.int .i64 p] 3 (0,0)):=by rw [hw0];exact qh (qq (by simp))
 have hLc:w0.heap[w.heap.size+1+1]?=some (.cells #[.int .i64 (f.params - 1)] 3 (0,0)):=by rw [hw0];exact qq (by simp)
 have HZw:=q8 hz0
 have nS:∀i,S i→i<w.heap.size:=HSz.out
 have hT:Calls Tryz.prog 51 #[.pointer (some ⟨g,k*4,none⟩),.func (.func 52) #[] #[.pointer (some ⟨w.heap.size+1,0,none⟩),.pointer (some ⟨w.heap.size+1+1,0,none⟩)]] w0 fun e w'=>e = .returned (.tuple #[])∧SlO 38 4 FunO w' (.slice (some ⟨g,0,none⟩) xs.length c) (xs.set k (toF (qK p (f.params - 1)) f)) S∧Kept S w0 w':=by
  have h:=turn_any g xs.length c k (w.heap.size+1) (w.heap.size+1+1) p (f.params - 1) (by omega) hbM xs w0 S (HS.out.below qV hb0) hk (by rw [←HF.out];exact h0f) ⟨(blk hPc).1 0,(blk hLc).1 0⟩ (fun h=>by have:=nS _ h;omega) (fun h=>by have:=nS _ h;omega)
  rw [←HF.out] at h
  exact h
 refine hT.mono ?_
 rintro e W1 ⟨rfl,hS1,hK1⟩
 have hk1:k<(xs.set k (toF (qK p (f.params - 1)) f)).length:=by rw [List.length_set];exact hk
 obtain ⟨g1,c1',csF,TF,hvF,hrD,hgS,hfD,hFf,hgT,hTS,ham,hbE,⟨curF,haR⟩,haS⟩:=hS1.focus qV (by omega) hk1
 obtain rfl:g=g1:=by injection hvF with a;injection a with a;injection a
 rw [List.getElem_set_self] at hFf
 obtain ⟨vF,rfl,hnF,hhs,hfE,hBF⟩:=hFf
 obtain ⟨qF,cF,rfl,_,_⟩:=hBF.sl.val
 have e1:W1.cell? ⟨g,k*4+1,none⟩=some (.int .i64 f.params):=ham 1 (by omega)
 have hL1:=(hK1.block _ (by omega) (fun h=>by have:=nS _ h;omega)).trans hLc
 have hP1:=(hK1.block _ (by omega) (fun h=>by have:=nS _ h;omega)).trans hPc
 have hC1:=(hK1.block _ (by omega) (fun h=>by have:=nS _ h;omega)).trans hKc
 have hU0:=hb0.cell (p:=⟨U,1,none⟩) zU
 have hU1:W1.cell? ⟨U,1,none⟩=some (.slice (some ⟨g,0,none⟩) xs.length c):=(hK1.cell (p:=⟨U,1,none⟩) (by have:=hb0.size;show U<_;omega) hUS).trans (hU0.trans hU)
 have l1:W1.cell? ⟨w.heap.size+1+1,0,none⟩=some (.int .i64 (f.params - 1)):=(blk hL1).1 0
 have lz:=qd hL1
 have hfr:∀i,W1.frozen? ⟨g,i,none⟩=false:=hbE
 have hR1:RowPut W1 W1 38 g (k*4) 4 _:=RowPut.same haR rfl ham
 have hW2:SlO 38 4 FunO (W1.setCell ⟨g,k*4+1,none⟩ (.int .i64 (f.params - 1))) (.slice (some ⟨g,0,none⟩) xs.length c) (xs.set k (km p f)) S:=by
  have hK2:Kept (fun i=>i=g) W1 (W1.setCell ⟨g,k*4+1,none⟩ (.int .i64 (f.params - 1))):=(Kept.refl (fun i=>i=g) W1).setCell (p:=⟨g,k*4+1,none⟩) rfl _
  have h1:=haS _ _ (km p f) TF (hR1.set rfl (by omega) (.int .i64 (f.params - 1)) (j:=1)) rfl (fun u hu=>by
    simp only [List.set_cons_succ,List.set_cons_zero,List.mem_cons,List.not_mem_nil,or_false] at hu
    rcases hu with rfl|rfl|rfl|rfl
    ·rfl
    ·rfl
    ·rfl
    rfl) hK2.size (fun i hi h1 h2=>hK2.block i (hS1.inb i hi) h2)
   ⟨_,rfl,hnF,hbM,hfE,⟨hBF.sl.kept qU hK2 (fun i e h=>hgT (by have e:i=g:=e;exact e ▸ h)),hBF.bd⟩⟩ (fun i hi=>⟨.inl hi,by have:=hS1.inb i (hTS i hi);have:=hK2.size;omega⟩)
  rw [List.set_set] at h1
  exact h1.grow (fun i h=>h.elim id (hTS i)) (fun i hi=>by have:=hS1.inb i hi;have:=hK2.size;omega)
 have hgU:U≠g:=fun e=>hUS (e ▸ hgS)
 have hU2:(W1.setCell ⟨g,k*4+1,none⟩ (.int .i64 (f.params - 1))).cell? ⟨U,1,none⟩=some (.slice (some ⟨g,0,none⟩) xs.length c):=(World.cell?_of_block (a:=⟨U,1,none⟩) (Go.Deep.blk_setCell_other _ _ _ _ hgU)).trans hU1
 have zU2:=q9 hU2
 have HL1:=q8 hL1
 have HP1:=q8 hP1
 have HC1:=q8 hC1
 have HU1:=q8 hU1
 have HW2:=q8 hW2
 have HK1:=q8 hK1
 have HB0:=q8 hb0
 have HgS:=q8 hgS
 have HnS:=q8 nS
 clear hw0 hz0 hb0 hKc hPc hLc nS hT hS1 hK1 hvF hgS hfD hnF hhs hfE hBF hgT hTS ham hbE haR haS hR1 hW2 hL1 hP1 hC1 hU0
 go_wp2_with fail
 obtain ⟨W2,hW2⟩:∃W2,W2=W1.setCell ⟨g,k*4+1,none⟩ (.int .i64 (f.params - 1)):=⟨_,rfl⟩
 rw [←hW2]
 rw [←hW2] at HW2 hU2 zU2
 have hK2:Kept S W1 W2:=by rw [hW2];exact (Kept.refl S W1).setCell (p:=⟨g,k*4+1,none⟩) HgS.out _
 have hKw:Kept S w W2:=(Kept.of_below HB0.out).trans (HK1.out.trans hK2 fun _ _ h=>h) fun _ _ h=>h
 obtain ⟨x2,hx2⟩:∃x2,x2=xs.set k (km p f):=⟨_,rfl⟩
 have hxl:x2.length=xs.length:=by rw [hx2];simp
 rw [←hx2] at HW2
 have hoo:=hK2.size
 have hdP:∀i,w.heap.size≤i→¬ S i:=fun i hi h=>by have:=HnS.out i h;omega
 have HL2:=q8 ((hK2.block _ (qd HL1.out) (hdP _ (by omega))).trans HL1.out)
 have HP2:=q8 ((hK2.block _ (qd HP1.out) (hdP _ (by omega))).trans HP1.out)
 have HC2:=q8 ((hK2.block _ (qd HC1.out) (hdP _ (by omega))).trans HC1.out)
 have HU2:=q8 hU2
 have HKw:=q8 hKw
 have HX2:=q8 hx2
 have HXl:=q8 hxl
 have hdQ:=q8 hdP
 clear hW2 hK2 hKw hx2 hxl hU2 zU2 hoo hdP e1 hU1 l1 lz hfr hgU
 refine (wpIn_wide (n:=3)).1 ?_
 refine wpIn_loop (fun a' w'=>∃(cc:Nat) (Ds:List Nat),(cc≤xs.length∧Ds.Nodup∧(∀D∈Ds,W2.heap.size≤D∧w'.heap[D]?=some (.deferred (some [])))∧SlO 38 4 FunO w' (.slice (some ⟨g,0,none⟩) xs.length c) (qN cc (Qv k p) x2) S∧Kept S W2 w')∧a'.defers=QY Ds∧a'.tmps.size=71∧a'.tmps.getD 0 undef = .pointer (some ⟨U,0,none⟩)∧a'.tmps.getD 4 undef = .pointer (some ⟨w.heap.size,0,none⟩)∧a'.tmps.getD 5 undef = .pointer (some ⟨w.heap.size+1,0,none⟩)∧a'.tmps.getD 8 undef = .pointer (some ⟨w.heap.size+1+1,0,none⟩)∧a'.tmps.getD 33 undef = .int .i64 xs.length∧a'.tmps.getD 34 undef = .int .i64 cc) (fun a' _=>xs.length - (intOf (a'.tmps.getD 34 undef)).toNat) ?start ?round
 case start=>
  exact ⟨0,[],⟨Nat.zero_le _,List.nodup_nil,fun D h=>(by cases h),by rw [zB];exact HW2.out,Kept.refl _ _⟩,rfl,rfl,rfl,rfl,rfl,rfl,rfl,rfl⟩
 case round=>
  rintro ⟨ts,ds⟩ wk ⟨cc,Ds,⟨hcc,hN,hD,hL,hK⟩,hdf,hfs,hf0,hf4,hf5,hf8,hiy,hiA⟩
  simp only at hdf hfs hf0 hf4 hf5 hf8 hiy hiA
  subst hdf
  obtain ⟨us,hus⟩:∃us:Nat→Value,us=fun i=>ts.getD i undef:=⟨_,rfl⟩
  have hts:ts=((.pointer (some ⟨U,0,none⟩))::(us 1)::(us 2)::(us 3)::(.pointer (some ⟨w.heap.size,0,none⟩))::(.pointer (some ⟨w.heap.size+1,0,none⟩))::(us 6)::(us 7)::(.pointer (some ⟨w.heap.size+1+1,0,none⟩))::(us 9)::(us 10)::(us 11)::(us 12)::(us 13)::(us 14)::(us 15)::(us 16)::(us 17)::(us 18)::(us 19)::(us 20)::(us 21)::(us 22)::(us 23)::(us 24)::(us 25)::(us 26)::(us 27)::(us 28)::(us 29)::(us 30)::(us 31)::(us 32)::(.int .i64 xs.length)::(.int .i64 cc)::(us 35)::(us 36)::(us 37)::(us 38)::(us 39)::(us 40)::(us 41)::(us 42)::(us 43)::(us 44)::(us 45)::(us 46)::(us 47)::(us 48)::(us 49)::(us 50)::(us 51)::(us 52)::(us 53)::(us 54)::(us 55)::(us 56)::(us 57)::(us 58)::(us 59)::(us 60)::(us 61)::(us 62)::(us 63)::(us 64)::(us 65)::(us 66)::(us 67)::(us 68)::(us 69)::(us 70)::[]).toArray:=by
   have hfr:=xJ hfs
   rw [←hus] at hfr
   have h0:us 0 = .pointer (some ⟨U,0,none⟩):=by rw [hus];exact hf0
   have h4:us 4 = .pointer (some ⟨w.heap.size,0,none⟩):=by rw [hus];exact hf4
   have h5:us 5 = .pointer (some ⟨w.heap.size+1,0,none⟩):=by rw [hus];exact hf5
   have h8:us 8 = .pointer (some ⟨w.heap.size+1+1,0,none⟩):=by rw [hus];exact hf8
   have h33:us 33 = .int .i64 xs.length:=by rw [hus];exact hiy
   have h34:us 34 = .int .i64 cc:=by rw [hus];exact hiA
   refine hfr.trans ?_
   show ((us 0)::(us 1)::(us 2)::(us 3)::(us 4)::(us 5)::(us 6)::(us 7)::(us 8)::(us 9)::(us 10)::(us 11)::(us 12)::(us 13)::(us 14)::(us 15)::(us 16)::(us 17)::(us 18)::(us 19)::(us 20)::(us 21)::(us 22)::(us 23)::(us 24)::(us 25)::(us 26)::(us 27)::(us 28)::(us 29)::(us 30)::(us 31)::(us 32)::(us 33)::(us 34)::(us 35)::(us 36)::(us 37)::(us 38)::(us 39)::(us 40)::(us 41)::(us 42)::(us 43)::(us 44)::(us 45)::(us 46)::(us 47)::(us 48)::(us 49)::(us 50)::(us 51)::(us 52)::(us 53)::(us 54)::(us 55)::(us 56)::(us 57)::(us 58)::(us 59)::(us 60)::(us 61)::(us 62)::(us 63)::(us 64)::(us 65)::(us 66)::(us 67)::(us 68)::(us 69)::(us 70)::[]).toArray=_
   rw [h0,h4,h5,h8,h33,h34]
  clear hus hfs hf0 hf4 hf5 hf8 hiy hiA
  subst hts
  have HN:=q8 hN
  have HD:=q8 hD
  have HL:=q8 hL
  have HK:=q8 hK
  have cU:wk.cell? ⟨U,1,none⟩=some (.slice (some ⟨g,0,none⟩) xs.length c):=(hK.cell (p:=⟨U,1,none⟩) (q9 HU2.out) hUS).trans HU2.out
  have zUk:=q9 cU
  have hlk:=(hK.block _ (qd HL2.out) (hdQ.out _ (by omega))).trans HL2.out
  have HLk:=q8 hlk
  have HPk:=q8 ((hK.block _ (qd HP2.out) (hdQ.out _ (by omega))).trans HP2.out)
  have HCk:=q8 ((hK.block _ (qd HC2.out) (hdQ.out _ (by omega))).trans HC2.out)
  have hzk:=hK.size
  clear hN hD hL hK hlk
  refine wpIn_wide.2 ?_
  by_cases hlt:cc<xs.length
  rotate_left
  ·obtain rfl:cc=xs.length:=by omega
   have l8:wk.cell? ⟨w.heap.size+1+1,0,none⟩=some (.int .i64 (f.params - 1)):=(blk HLk.out).1 0
   have z8:=qd HLk.out
   go_wp2_with fail
   have hfull:=HL.out
   rw [←HXl.out,zl] at hfull
   have hdr:x2.map (Qv k p)=j4 k p xs:=by
    rw [HX2.out]
    unfold j4
    congr 1
    rw [HF.out]
    exact kS hk _
   rw [hdr,HXl.out] at hfull
   have hKf:Kept S w wk:=HKw.out.trans HK.out fun _ _ h=>h
   show LeavesInM _ _ _ _ _ _ (QY Ds) .returning _
   refine zS W2.heap.size Ds wk HN.out (fun D h=>⟨(HD.out D h).1,(HD.out D h).2⟩) (fun w' h1 h2 h3 h4 h5=>⟨_,results_tmp (t:=6) rfl _ _ _,rfl,?_,?_⟩)
   ·refine hfull.loc qV (fun i hi=>h5 i (fun h=>by have:=(HD.out i h).1;have:=HnS.out i hi;have:=HKw.out.size;omega)) h4
   exact ⟨h1.trans hKf.os,h2.trans hKf.tape,h3.trans hKf.output,Nat.le_trans hKf.size h4,fun i hi hn=>(h5 i (fun h=>by have:=(HD.out i h).1;have:=HKw.out.size;omega)).trans (hKf.block i hi hn)⟩
  have c0:(0:Int)≤(cc:Int):=by omega
  have c1:(cc:Int)<xs.length:=by omega
  have hcm:cc<(qN cc (Qv k p) x2).length:=by rw [qY,HXl.out];exact hlt
  have hcx:cc<x2.length:=by rw [HXl.out];exact hlt
  obtain ⟨g2,c2,csf,Tf,hvf,hiB,hiC,hdK,hFf,hiD,hfI,ham,hbE,⟨curf,haQ⟩,_⟩:=HL.out.focus qV (by omega) hcm
  obtain rfl:g=g2:=by injection hvf with a;injection a with a;injection a
  rw [x6 hcm (Nat.le_refl _)] at hFf
  obtain ⟨f2,hf2⟩:∃f2,f2=x2[cc]:=⟨_,rfl⟩
  rw [←hf2] at hFf
  have hgood:0<f2.blocks.length∧∀b∈f2.blocks,∀x∈b.list,x.op=20→x.fn=(k:Int)→p<x.args.length:=by
   have hxc:f2=if k=cc then km p f else xs[cc]'hlt:=by rw [hf2];simp only [HX2.out];rw [List.getElem_set]
   by_cases e:k=cc
   ·rw [if_pos e] at hxc
    rw [hxc]
    exact ⟨by show 0<(f.blocks.map _).length;rw [List.length_map];exact h0f,drop_call (hbh.out f hfm)⟩
   rw [if_neg e] at hxc
   rw [hxc]
   exact ⟨H0.out _ (List.getElem_mem hlt),hbh.out _ (List.getElem_mem hlt)⟩
  have hset:(qN cc (Qv k p) x2).set cc (upI (fun _=>Qu k p) f2 0)=qN cc (Qv k p) x2:=by
   rw [JW]
   have e2:=x6 (u:=Qv k p) hcm (Nat.le_refl _)
   rw [hf2,←e2,List.set_getElem_self]
  have hlists:=hFf.lists hgood.1
  obtain ⟨vb,hbO,hnm,hi1,hi2,hBf⟩:=hFf
  obtain ⟨bb,cb,hcs2,haD,hbl,hbP⟩:=hlists
  have hvb:vb = .slice (some ⟨bb,0,none⟩) f2.blocks.length cb:=by
   rw [hbO] at hcs2
   simpa using hcs2
  subst hvb
  subst hbO
  have hcN:=HL.out.inb bb (hfI bb haD)
  have e3:wk.cell? ⟨g,cc*4+3,none⟩=some (.slice (some ⟨bb,0,none⟩) f2.blocks.length cb):=ham 3 (by omega)
  have HLs:=q8 hbP
  have hew:=q8 hset
  have HF2:=q8 hf2
  have hdR:=q8 hgood.2
  have h0b:=hgood.1
  clear hvf hiC hdK hiD hfI ham hbE haQ hcs2 haD hnm hi1 hi2 hBf hbP hset hf2 hgood
  go_wp2_with fail
  refine (Qe (some ⟨g,cc*4,none⟩) wk).mono ?_
  rintro e W0 ⟨rfl,hW0⟩
  have hb1:Below wk.heap.size wk W0:=by rw [hW0];exact bZ
  have HZ0:Hid (W0.heap.size=wk.heap.size+1):=q8 (by rw [hW0];simp)
  have hx0:W0.cell? ⟨wk.heap.size,0,none⟩=some (.pointer (some ⟨g,cc*4,none⟩)):=by rw [hW0];exact (blk (qx wk _)).1 0
  have hSk:∀i,S i→i<wk.heap.size:=HL.out.inb
  have hbQ:EachSh wk.heap.size g (cc*4) (some ⟨bb,0,none⟩) f2.blocks.length cb (lqW wk bb) (ql f2) (lcW wk bb) W0:=by
   refine ⟨hx0,?_,fun mm hmm=>⟨bb,0,rfl,?_⟩⟩
   ·exact (hb1.cell (p:=⟨g,cc*4+3,none⟩) hiB).trans e3
   rw [Nat.zero_add,hb1.cell (p:=⟨bb,mm*6+1,none⟩) hcN]
   exact (HLs.out mm hmm).1
  have HSH:=q8 hbQ
  have HS0:Hid (SlO 38 4 FunO W0 (.slice (some ⟨g,0,none⟩) xs.length c) ((qN cc (Qv k p) x2).set cc (upI (fun _=>Qu k p) f2 0)) S):=q8 (by rw [hew.out];exact HL.out.below qV hb1)
  have HB1:=q8 hb1
  have HSk:=q8 hSk
  clear hb1 hx0 hbQ hW0 hSk
  go_wp2_with fail
  refine (wpIn_wide (n:=3)).1 ?_
  refine xR rfl (by omega) (gf:=74) (lb:=#[.pointer (some ⟨wk.heap.size,0,none⟩)]) rfl trivial (enters_of Tryz.func74 (by kernel_rfl) rfl)
   (ZC Fence.wide 2 trivial rfl (by omega) wk.heap.size g (cc*4) cb f2.blocks.length (some ⟨bb,0,none⟩) (lqW wk bb) (lpW wk bb) (ql f2) (lcW wk bb) W0 hbl (fun mm hmm=>(HLs.out mm hmm).2.1) (fun mm hmm h0=>(HLs.out mm hmm).2.2 h0) HSH.out) (fun h k x=>k (h x)) (fun W l o o' _ hl ho _ h=>h.putObj o' hl ho) (Below.refl _ _) (fun i _=>rfl)
   (fun i W=>SlO 38 4 FunO W (.slice (some ⟨g,0,none⟩) xs.length c) ((qN cc (Qv k p) x2).set cc (upI (fun _=>Qu k p) f2 i)) S∧EachSh wk.heap.size g (cc*4) (some ⟨bb,0,none⟩) f2.blocks.length cb (lqW wk bb) (ql f2) (lcW wk bb) W∧Kept S W0 W)
   (fun _ _ _=>False)
   ((own_slo qV (fun b hb=>by have:=HSk.out b hb;have:=HZ0.out;omega) _).and (own_sh.and (vB (Nat.le_refl _)))) (fun _ _ _ _ _ hs _ _=>hs) ⟨HS0.out,HSH.out,Kept.refl _ _⟩
   (fun i=>{ tmps:=((.pointer (some ⟨U,0,none⟩))::(us 1)::(us 2)::(us 3)::(.pointer (some ⟨w.heap.size,0,none⟩))::(.pointer (some ⟨w.heap.size+1,0,none⟩))::(us 6)::(us 7)::(.pointer (some ⟨w.heap.size+1+1,0,none⟩))::(.int .i64 cc)::((j9 (lpW wk bb) (ql f2) f2.blocks.length i))::(us 11)::(us 12)::(us 13)::(us 14)::(us 15)::(us 16)::(us 17)::(us 18)::(us 19)::(us 20)::(us 21)::(us 22)::(us 23)::(us 24)::(us 25)::(us 26)::(us 27)::(us 28)::(us 29)::(us 30)::(us 31)::(us 32)::(.int .i64 xs.length)::(.int .i64 cc)::(.bool true)::(.int .i64 cc)::(.pointer (some ⟨U,0,none⟩))::(.pointer (some ⟨U,0,none⟩))::(.pointer (some ⟨U,1,none⟩))::(.slice (some ⟨g,0,none⟩) xs.length c)::(.int .i64 cc)::(.pointer (some ⟨g,cc*4,none⟩))::(.func (.func 74) #[] #[.pointer (some ⟨wk.heap.size,0,none⟩)])::((j9 (lpW wk bb) (ql f2) f2.blocks.length i))::(us 45)::(us 46)::(us 47)::(us 48)::(us 49)::(us 50)::(us 51)::(us 52)::(us 53)::(us 54)::(us 55)::(us 56)::(us 57)::(us 58)::(us 59)::(us 60)::(us 61)::(us 62)::(us 63)::(us 64)::(us 65)::(us 66)::(us 67)::(us 68)::(us 69)::(us 70)::[]).toArray,defers:=[] }) ?assign ?body ?done ?stop
  case assign=>
   intro l i W K hi hK
   unfold Qx
   gi_wp2
   exact hK
  case body=>
   rintro l i W hl hi ⟨hSl,hSh,hKp⟩
   obtain ⟨m',j,hm',hj,rfl⟩:=vA hi
   have hj2:j<f2.blocks[m'].list.length:=by rw [←zM hm'];exact hj
   obtain ⟨lb,v,Ti,hlq,hcD,heu,hfh,hci,hlg,hbK,h64,hAr,hfv,haD,hTg,hd8,⟨cur,haf⟩,hput⟩:=Vf hSl hcm hm' hj2 (⟨hSh.fn,fun m hm=>by
    obtain ⟨b6,o6,hq6,hc6⟩:=hSh.blk m hm
    cases hq6
    rw [Nat.zero_add] at hc6
    exact hc6⟩:FunSh g cc bb f2.blocks.length cb (lqW wk bb) (ql f2) (lcW wk bb) W)
   have hpt:j9 (lpW wk bb) (ql f2) f2.blocks.length ((zX (ql f2) m').length+j) = .pointer (some ⟨lb,j*8,none⟩):=by
    have h2:=(HLs.out m' hm').2.2 (by omega)
    rw [hlq] at h2
    injection h2 with h2
    injection h2 with h3 h4
    rw [jX hm' hj,←h3,←h4,Nat.zero_add]
   rw [hpt]
   obtain ⟨x,hx⟩:∃x,x=f2.blocks[m'].list[j]:=⟨_,rfl⟩
   rw [←hx] at hci h64 hAr hput
   obtain ⟨qa,ca,rfl,_,_⟩:=hAr.sl.val
   have hR0:RowPut W W 51 lb (j*8) 8 (XF x (.slice qa x.args.length ca)):=RowPut.same haf rfl hci
   have y0:W.cell? ⟨lb,j*8,none⟩=some (.int .i64 x.op):=hci 0 (by omega)
   have y6:W.cell? ⟨lb,j*8+6,none⟩=some (.int .i64 x.fn):=hci 6 (by omega)
   have hez:Kept S wk W:=(Kept.of_below HB1.out).trans hKp fun _ _ h=>h
   have hCc:=(hez.block _ (qd HCk.out) (hdQ.out _ (Nat.le_refl _))).trans HCk.out
   have hPc:=(hez.block _ (qd HPk.out) (hdQ.out _ (by omega))).trans HPk.out
   have yK:W.cell? ⟨w.heap.size,0,none⟩=some (.int .i64 k):=(blk hCc).1 0
   have zK:=qd hCc
   have hlen:x.op=20→x.fn=(k:Int)→p<x.args.length:=hdR.out _ (List.getElem_mem hm') x (by rw [hx];exact List.getElem_mem hj2)
   have haE:Qu k p x=x→∀Wq,Below W.heap.size W Wq→xQ W0.heap.size (fun W W'=>EachSh wk.heap.size g (cc*4) (some ⟨bb,0,none⟩) f2.blocks.length cb (lqW wk bb) (ql f2) (lcW wk bb) W→EachSh wk.heap.size g (cc*4) (some ⟨bb,0,none⟩) f2.blocks.length cb (lqW wk bb) (ql f2) (lcW wk bb) W') (fun i W=>SlO 38 4 FunO W (.slice (some ⟨g,0,none⟩) xs.length c) ((qN cc (Qv k p) x2).set cc (upI (fun _=>Qu k p) f2 i)) S∧EachSh wk.heap.size g (cc*4) (some ⟨bb,0,none⟩) f2.blocks.length cb (lqW wk bb) (ql f2) (lcW wk bb) W∧Kept S W0 W) (fun _ _ _=>False) ((zX (ql f2) m').length+j) W .normal Wq:=fun h1 Wq hb=>by
    have hS2:SlO 38 4 FunO W (.slice (some ⟨g,0,none⟩) xs.length c) ((qN cc (Qv k p) x2).set cc (upI (fun _=>Qu k p) f2 ((zX (ql f2) m').length+j+1))) S:=by
     rw [←upI_same hm' hj2 (by rw [←hx];exact h1)]
     exact hSl
    refine ⟨⟨hb.size,fun q o _ hq _=>(hb.block q (qd hq)).trans hq⟩,fun h=>h.below hb,hS2.below qV hb,hSh.below hb,hKp.trans (Kept.of_below hb) (fun _ _ h=>h)⟩
   have hkY:∀(Wz:World) (y:InsL) (v':Value),Kept (fun b=>b=lb∨Ti b) W Wz→RowPut W Wz 51 lb (j*8) 8 (XF y v')→v'.oneCell'=true→Ins64 y→SlQ 44 2 16 vM Wz v' y.args Ti→Qu k p x=y→xQ W0.heap.size (fun W W'=>EachSh wk.heap.size g (cc*4) (some ⟨bb,0,none⟩) f2.blocks.length cb (lqW wk bb) (ql f2) (lcW wk bb) W→EachSh wk.heap.size g (cc*4) (some ⟨bb,0,none⟩) f2.blocks.length cb (lqW wk bb) (ql f2) (lcW wk bb) W') (fun i W=>SlO 38 4 FunO W (.slice (some ⟨g,0,none⟩) xs.length c) ((qN cc (Qv k p) x2).set cc (upI (fun _=>Qu k p) f2 i)) S∧EachSh wk.heap.size g (cc*4) (some ⟨bb,0,none⟩) f2.blocks.length cb (lqW wk bb) (ql f2) (lcW wk bb) W∧Kept S W0 W) (fun _ _ _=>False) ((zX (ql f2) m').length+j) W .normal Wz:=fun Wz y v' hK hR hv hy hA hG=>by
    have hTz:∀b,Ti b→b<W.heap.size:=fun b hb=>hAr.sl.inb b hb
    have hnew:=hput Wz y v' Ti hR hv hK.size (fun b hb h1 h2=>hK.block b (by have:=HSk.out b hb;have:=HB1.out.size;have:=hKp.size;omega) (fun h=>h.elim h2 h1)) hy hA (fun b hb=>⟨.inl hb,by have:=hTz b hb;have:=hK.size;omega⟩) hG
    have hdL:=hnew.grow (S':=S) (fun b hb=>hb.elim id (hd8 b)) (fun b hb=>by have:=HSk.out b hb;have:=HB1.out.size;have:=hKp.size;have:=hK.size;omega)
    have hKS:Kept S W Wz:=hK.mono fun b _ h=>h.elim (fun e=>by have e:b=lb:=e;rw [e];exact hcD) (hd8 b)
    have hfC:EachSh wk.heap.size g (cc*4) (some ⟨bb,0,none⟩) f2.blocks.length cb (lqW wk bb) (ql f2) (lcW wk bb) Wz:=hSh.other fun b o v hc hw=>by
     have hbz:=q9 hc
     refine (World.cell?_of_block (a:=⟨b,o,none⟩) (hK.block b hbz ?_)).trans hc
     rcases hw with e|e|⟨o',e⟩
     ·intro e2
      have:S b:=e2.elim (fun e3=>by have e3:b=lb:=e3;rw [e3];exact hcD) (hd8 b)
      have:=HSk.out b this
      omega
     ·exact fun e2=>e2.elim (fun e3=>hlg (by rw [←e];exact Eq.symm e3)) (fun h=>hTg (by rw [←e];exact h))
     have e3:bb=b:=by injection e with e;injection e
     exact fun e2=>e2.elim (fun e4=>hbK (by rw [e3];exact Eq.symm e4)) (fun h=>haD (by rw [e3];exact h))
    exact ⟨⟨hKS.size,fun q o hq0 hq _=>(hKS.block q (qd hq) (fun h=>by have:=HSk.out q h;have:=HB1.out.size;omega)).trans hq⟩,fun _=>hfC,hdL,hfC,hKp.trans hKS (fun _ _ h=>h)⟩
   have z0:∀d os,(grow (redrawn W d) os).cell? ⟨lb,j*8,none⟩=some (.int .i64 x.op):=cell_regrown y0
   have z6:∀d os,(grow (redrawn W d) os).cell? ⟨lb,j*8+6,none⟩=some (.int .i64 x.fn):=cell_regrown y6
   have zk:∀d os,(grow (redrawn W d) os).cell? ⟨w.heap.size,0,none⟩=some (.int .i64 k):=cell_regrown yK
   have haT:=q8 haE
   have hoA:=q8 hkY
   have HR0:=q8 hR0
   have HPc:=q8 hPc
   have HAr:=q8 hAr
   have H64:=q8 h64
   have HTl:=q8 hfv
   have HnP:Hid (¬ Ti (w.heap.size+1)∧w.heap.size+1≠lb):=q8 ⟨fun h=>hdQ.out _ (by omega) (hd8 _ h),fun e=>hdQ.out _ (by omega) (e ▸ hcD)⟩
   clear hSl hSh hKp hlq hfh hci h64 hAr hput hpt hR0 haf hx hfv haD hTg hd8 haE hkY hez hCc hPc y0 y6 yK
   by_cases hop:x.op=20
   rotate_left
   ·have q20:(x.op == 20)=false:=by simp [hop]
    have hid:Qu k p x=x:=by unfold Qu;rw [if_neg fun h=>hop h.1]
    clear hlen hop
    gi_wp2
    refine qJ (by kernel_rfl) (by kernel_rfl) (fun ⟨_,_,h⟩=>h.2) (by kernel_rfl) ?_
    repeat go_big_quiet_step (fail)
    refine wpQuiet_nil ?_
    intro Wq hWq
    have hbq:Below W.heap.size W Wq:=by
     obtain ⟨p,rfl⟩:=hWq
     exact below_regrown _ _ _
    clear hWq
    gi_wp2
    exact haT.out hid Wq hbq
   have q20:(x.op == 20)=true:=by simp [hop]
   by_cases hfn:x.fn=(k:Int)
   rotate_left
   ·have qk:(x.fn == (k:Int))=false:=by simp [hfn]
    have hid:Qu k p x=x:=by unfold Qu;rw [if_neg fun h=>hfn h.2]
    clear hlen hop hfn
    gi_wp2
    refine qJ (by kernel_rfl) (by kernel_rfl) (fun ⟨_,_,h⟩=>h.2) (by kernel_rfl) ?_
    repeat go_big_quiet_step (fail)
    refine wpQuiet_nil ?_
    intro Wq hWq
    have hbq:Below W.heap.size W Wq:=by
     obtain ⟨p,rfl⟩:=hWq
     exact below_regrown _ _ _
    clear hWq
    gi_wp2
    exact haT.out hid Wq hbq
   have qk:(x.fn == (k:Int))=true:=by simp [hfn]
   have hpl:=hlen hop hfn
   have HOp:=q8 (And.intro hop hfn)
   clear hlen hop hfn
   gi_wp2
   refine qJ (by kernel_rfl) (by kernel_rfl) (fun ⟨_,_,h⟩=>h.2) (by kernel_rfl) ?_
   repeat go_big_quiet_step (fail)
   refine wpQuiet_nil ?_
   intro Wq hWq
   have hbq:Below W.heap.size W Wq:=by
    obtain ⟨p,rfl⟩:=hWq
    exact below_regrown _ _ _
   clear hWq
   obtain ⟨ga,hqa,haZ,hdel⟩:=del_own (⟨HAr.out.sl.below zJ hbq,HAr.out.bd⟩:SlQ 44 2 16 vM Wq (.slice qa x.args.length ca) x.args Ti) hpl
   subst hqa
   have hoB:=q8 hdel
   have hRq:=HR0.out.other1 (hbq.block lb heu)
   have hPq:=(hbq.block _ (qd HPc.out)).trans HPc.out
   have c7:Wq.cell? ⟨lb,j*8+7,none⟩=some (.slice (some ⟨ga,0,none⟩) x.args.length ca):=hRq.at1 (j:=7) (by omega)
   have cP:Wq.cell? ⟨w.heap.size+1,0,none⟩=some (.int .i64 p):=(blk hPq).1 0
   have HRq:=q8 hRq
   have hga:ga≠lb:=fun e=>HTl.out (e ▸ haZ)
   have hpw:(p:Int)≤140737488355328:=by have:=HAr.out.bd;have e:reachBytes=140737488351232:=rfl;omega
   clear hdel hRq hPq
   gi_wp2
   have hSp:(fun W':World=>W'.cell? ⟨lb,j*8+7,none⟩=some (.slice (some ⟨ga,0,none⟩) x.args.length ca)∧W'.cell? ⟨w.heap.size+1,0,none⟩=some (.int .i64 p)) Wq.drew:=⟨c7,cP⟩
   refine qR (S:=(fun W':World=>W'.cell? ⟨lb,j*8+7,none⟩=some (.slice (some ⟨ga,0,none⟩) x.args.length ca)∧W'.cell? ⟨w.heap.size+1,0,none⟩=some (.int .i64 p))) (by kernel_rfl) (fun ⟨_,_,h⟩=>h.2) (by kernel_rfl) 11 ?_
   refine qD 0 58 (.pointer (some ⟨lb,j*8,none⟩)) rfl rfl hSp (fun W' hS'=>by obtain ⟨h1,h2⟩:=hS';go_simp) ?_
   refine qD 1 59 (.pointer (some ⟨lb,j*8,none⟩)) rfl rfl hSp (fun W' hS'=>by obtain ⟨h1,h2⟩:=hS';go_simp) ?_
   refine qD 2 60 (.pointer (some ⟨lb,j*8,none⟩)) rfl rfl hSp (fun W' hS'=>by obtain ⟨h1,h2⟩:=hS';go_simp) ?_
   refine qD 3 61 (.pointer (some ⟨lb,j*8+7,none⟩)) rfl rfl hSp (fun W' hS'=>by obtain ⟨h1,h2⟩:=hS';go_simp) ?_
   refine qD 4 62 (.slice (some ⟨ga,0,none⟩) x.args.length ca) rfl rfl hSp (fun W' hS'=>by obtain ⟨h1,h2⟩:=hS';go_simp) ?_
   refine qD 5 63 (.int .i64 p) rfl rfl hSp (fun W' hS'=>by obtain ⟨h1,h2⟩:=hS';go_simp) ?_
   refine qD 6 64 (.int .i64 p) rfl rfl hSp (fun W' hS'=>by obtain ⟨h1,h2⟩:=hS';go_simp) ?_
   refine qD 7 65 (.int .i64 ((p+1:Nat):Int)) rfl rfl hSp (fun W' hS'=>by obtain ⟨h1,h2⟩:=hS';go_simp;rw [IntKind.wrap_i64];omega) ?_
   refine qm (i:=8) (by kernel_rfl) (qr 66 rfl rfl rfl (by go_simp) hoB.out ?_)
   rintro e W8 ⟨rfl,hA8,hK8⟩
   have heA:(fun W':World=>W'.cell? ⟨lb,j*8+7,none⟩=some (.slice (some ⟨ga,0,none⟩) x.args.length ca)∧W'.cell? ⟨w.heap.size+1,0,none⟩=some (.int .i64 p)) W8:=⟨(hK8.cell (p:=⟨lb,j*8+7,none⟩) (q9 c7) (fun e=>hga (Eq.symm e))).trans c7,(hK8.cell (p:=⟨w.heap.size+1,0,none⟩) (q9 cP) (fun e=>HnP.out.1 (by have e:w.heap.size+1=ga:=e;rw [e];exact haZ))).trans cP⟩
   refine ⟨_,rfl,heA,?_⟩
   refine qD 9 67 (.pointer (some ⟨lb,j*8,none⟩)) rfl rfl heA (fun W' hS'=>by obtain ⟨h1,h2⟩:=hS';go_simp) ?_
   refine qD 10 68 (.pointer (some ⟨lb,j*8+7,none⟩)) rfl rfl heA (fun W' hS'=>by obtain ⟨h1,h2⟩:=hS';go_simp) ?_
   have hR8:=HRq.out.other1 (hK8.block lb (q9 c7) (fun e=>hga (Eq.symm e)))
   have hoC:=hR8.free1
   have hz8:lb<W8.heap.size:=q9 heA.1
   refine qm (i:=11) (by kernel_rfl) (qt (W8.setCell ⟨lb,j*8+7,none⟩ (.slice (some ⟨ga,0,none⟩) (x.args.length - 1) ca)) rfl rfl rfl (by obtain ⟨h1,h2⟩:=heA;go_simp) (fun h=>absurd rfl h) ?_)
   refine ⟨by kernel_rfl,?_⟩
   have hR9:=hR8.set (j:=7) rfl (by omega) (.slice (some ⟨ga,0,none⟩) (x.args.length - 1) ca)
   have hK9:Kept (fun b=>b=lb) W8 (W8.setCell ⟨lb,j*8+7,none⟩ (.slice (some ⟨ga,0,none⟩) (x.args.length - 1) ca)):=(Kept.refl (fun b=>b=lb) W8).setCell (p:=⟨lb,j*8+7,none⟩) rfl _
   have hKa:Kept (fun b=>b=lb∨Ti b) W (W8.setCell ⟨lb,j*8+7,none⟩ (.slice (some ⟨ga,0,none⟩) (x.args.length - 1) ca)):=((Kept.of_below hbq).trans hK8 (fun b _ e=>by have e:b=ga:=e;exact .inr (e ▸ haZ))).trans hK9 (fun b _ e=>.inl e)
   have hfin:=hoA.out _ { x with args:=x.args.eraseIdx p } (.slice (some ⟨ga,0,none⟩) (x.args.length - 1) ca) hKa hR9 rfl ⟨H64.out.op,H64.out.dst,H64.out.an,H64.out.bn,H64.out.fn⟩ ⟨hA8.sl.kept zJ hK9 fun b e h=>HTl.out (by have e:b=lb:=e;exact e ▸ h),hA8.bd⟩ (by unfold Qu;rw [if_pos HOp.out])
   have HFin:=q8 hfin
   clear hSp heA hR8 hoC hz8 hR9 hK9 hKa hfin hA8 hK8 c7 cP
   gi_wp2
   exact HFin.out
  case done=>
   rintro D W hD ⟨hSl,hSh,hKp⟩ hDl
   have hu:upI (fun _=>Qu k p) f2 (zX (ql f2) f2.blocks.length).length=Qv k p f2:=by rw [upI_all];rfl
   rw [hu,HF2.out,zh hcx] at hSl
   have hez:Kept S wk W:=(Kept.of_below HB1.out).trans hKp fun _ _ h=>h
   have HS2:=q8 hSl
   have hfJ:=q8 hez
   have HDl:=q8 hDl
   clear hSl hSh hKp hez hDl hu
   go_wp2_with fail
   refine ⟨⟨cc+1,D::Ds,⟨by omega,List.nodup_cons.2 ⟨fun h=>?_,HN.out⟩,fun E hE=>?_,HS2.out,HK.out.trans hfJ.out fun _ _ h=>h⟩,rfl,?_⟩,?_⟩
   ·have:=(HD.out D h).2
    have:=qd this
    have:=HZ0.out
    omega
   ·rcases List.mem_cons.1 hE with rfl|hE
    ·exact ⟨by have:=HZ0.out;omega,HDl.out⟩
    obtain ⟨d1,d2⟩:=HD.out E hE
    exact ⟨d1,(hfJ.out.block _ (qd d2) (fun h=>by have:=HnS.out E h;have:=HKw.out.size;omega)).trans d2⟩
   ·exact ⟨rfl,rfl,rfl,rfl,rfl,rfl,by show Value.int .i64 _=_;go_num⟩
   simp [intOf];omega
  case stop=>
   rintro D ccc i W hD hi h hDl
   exact h.elim
end Go.Proofs.YtgjjhadbjmcnpaaGreatDoor
