/-
  The contract of span.spans, of a function as it came in.
-/
import Derived.Test.YtbnnhmcloecijaaGreatDoorJSpnI
import Derived.Test.YtbnnhmcloecijaaGreatDoorRegA
set_option maxRecDepth 100000
set_option maxHeartbeats 16000000
namespace Go.Proofs.YtbnnhmcloecijaaGreatDoor
open Go.RowKit Go.Shelf

def JM (k:Nat) (r:Nat):Spn:=if r<k then jW else vc
theorem mG (k:Nat):VC (JM k) k jW=JM (k+1):=by
 funext r
 unfold VC JM
 by_cases h:r=k
 ·rw [zZ h,zZ (by omega)]
 rw [zQ h]
 by_cases h2:r<k
 ·rw [zZ h2,zZ (by omega)]
 rw [zQ h2,zQ (by omega)]
theorem infoSpn:(Tryz.prog.info? 59).map (fun i=>(i.zero,i.size,i.bytes))=some (some (.agg #[.int .i64 0,.int .i64 0,.bool false]),3,24):=by kernel_rfl
theorem underSpns:Tryz.prog.underlying 49=some (.slice 59):=by kernel_rfl
theorem rowSpn (w:World) (n:Nat):(w.alloc (.cells (madeCells #[.int .i64 0,.int .i64 0,.bool false] (n*3)) 59)).rowIs w.heap.size 59 (n*3) (spF (JM 0)):=
 ⟨_,qn w _,by rw [size_madeCells],fun i hi=>by
  have h3:i % 3=0∨i % 3=1∨i % 3=2:=by omega
  rcases h3 with h3|h3|h3<;>simp [madeCells,hi,h3,spF,JM,vc]⟩

section
variable {P : Program} {md : Region.Mode} {ops : Array Oper} {Q : Exit → Act → World → Prop} {S : World → Prop} {z : Nat}
end
theorem itS_phi {t:Nat} {l:Nat→Spn} {ag:Bool} {p:PhiL} {d:Nat} {s:Spn} (hd:p.dst=d) (hs:s=phS l p.src):itS t (l,ag) (.phi p)=(kG t l d s,ag || Kz l d s):=by
 have h0:¬ (ItS.phi p).dst<0:=by show ¬ p.dst<0;omega
 have h1:(ItS.phi p).dst.toNat=d:=by show p.dst.toNat=d;omega
 unfold itS
 rw [zQ h0,h1,hs]
 rfl
theorem itS_ins {t:Nat} {l:Nat→Spn} {ag:Bool} {x:InsL} {d:Nat} {s:Spn} (hd:x.dst=d) (hs:s=Xu x.op (vlS l (x.ar,x.an)) (vlS l (x.br,x.bn))):itS t (l,ag) (.ins x)=(kG t l d s,ag || Kz l d s):=by
 have h0:¬ (ItS.ins x).dst<0:=by show ¬ x.dst<0;omega
 have h1:(ItS.ins x).dst.toNat=d:=by show x.dst.toNat=d;omega
 unfold itS
 rw [zQ h0,h1,hs]
 rfl
theorem itS_no {t:Nat} {l:Nat→Spn} {ag:Bool} {x:InsL} (hd:x.dst<0):itS t (l,ag) (.ins x)=(l,ag):=zZ hd
theorem SpW.turn {w:World} {fv:Array Value} {R X O T A:Nat} {l:Nat→Spn} {turn:Nat} {ag:Bool} {W:World} (h:SpW w fv R X O T A l turn ag W) :
  SpW w fv R X O W.heap.size (W.heap.size+1) l (turn+1) ag ((W.alloc (.cells #[.int .i64 ((turn:Int)+1)] 3)).alloc (.cells #[.bool ag] 4)):=by
 obtain ⟨W4,hW4⟩:∃W4,W4=(W.alloc (.cells #[.int .i64 ((turn:Int)+1)] 3)).alloc (.cells #[.bool ag] 4):=⟨_,rfl⟩
 rw [←hW4]
 have hb:Below W.heap.size W W4:=by rw [hW4];exact bZ
 have ht:W4.heap[W.heap.size]?=some (.cells #[.int .i64 ((turn:Int)+1)] 3 (0,0)):=by rw [hW4];exact qg (qn W _)
 have ha:W4.heap[W.heap.size+1]?=some (.cells #[.bool ag] 4 (0,0)):=by rw [hW4];exact qh (by simp)
 clear hW4
 have z1:=q8 h.x
 have z2:=h.o.lt
 have z3:=h.below.size
 have z4:=h.hX
 have z5:=h.hO
 have hn:=h.next hb
 exact { hn with
  t:=ht
  a:=ha
  hT:=by omega
  hA:=by omega
  xo:=h.xo
  xa:=by omega
  oa:=by omega
  «to»:=by omega
  ta:=by omega }
theorem spans_aux (f:FunL) (P R:Nat) (nm:ByteArray) (fp:Option Addr) (fc:Nat) (w:World) (hP:Hid (f.params=P)) (hRR:Hid (f.regs=R)) (hS:FunR' f) (hF:SliceAt w 6 (BlkR w) fp f.blocks) (hA:AllW w) :
  Calls Tryz.prog 15 #[.agg #[.string nm,.int .i64 P,.int .i64 R,.slice fp f.blocks.length fc]] w fun e w'=>∃O,e = .returned (.slice (some ⟨O,0,none⟩) R R)∧w.heap.size≤O∧w'.rowIs O 59 (R*3) (spF (qN f))∧Below w.heap.size w w':=by
 have hPR:P≤R:=by have h1:=hS.par;have h2:=hP.out;have h3:=hRR.out;omega
 have hew:R≤100:=by have h1:=hS.reg;have h3:=hRR.out;omega
 have n1:=hS.n1
 have n40:=hS.n40
 have HRn:Hid (f.regs.toNat=R):=q7 (by have h:=hRR.out;omega)
 have HOk:=q7 (YD hS hF)
 have HF:=q7 hF
 have HS:=q7 hS
 have HA:=q7 hA
 have HI:=q7 (show Q6 f=JM P from by
  funext r
  unfold Q6 JM
  rw [hP.out]
  by_cases h:r<P
  ·rw [zZ (by omega),zZ h]
  rw [zQ (by omega),zQ h])
 clear hS hF hA
 obtain ⟨i1,k1,k2,k3,k4⟩:=info_parts infoSpn
 have hmk:∀w,(Instr.makeSlice 49 (.int .i64 (R:Int)) (.int .i64 (R:Int))).run Tryz.prog w = .ok (.slice (some ⟨w.heap.size,0,none⟩) R R) (w.alloc (.cells (madeCells #[.int .i64 0,.int .i64 0,.bool false] (R*3)) 59)):=fun w=>by
  have hr:=run_make (P:=Tryz.prog) w 49 59 i1 _ underSpns k1 k2 .i64 .i64 R R (by omega) (Int.le_refl _) (by rw [k4];omega) (by omega)
  simp only [xC,k3] at hr
  exact hr
 clear k1 k2 k3 k4
 obtain ⟨fv,hfv⟩:∃fv:Array Value,fv=#[.string nm,.int .i64 (P:Int),.int .i64 (R:Int),.slice fp f.blocks.length fc]:=⟨_,rfl⟩
 have HFv:=q7 hfv
 clear hfv
 go_enter Tryz.func15,Tryz.ntmps15
 go_wp2_with fail
 rw [←HFv.out]
 obtain ⟨W2,hW2⟩:∃W2,W2=((w.alloc (.cells fv 36)).alloc (.cells (madeCells #[.int .i64 0,.int .i64 0,.bool false] (R*3)) 59)).alloc (.cells #[.slice (some ⟨w.heap.size+1,0,none⟩) R R] 49):=⟨_,rfl⟩
 rw [←hW2]
 have HB2:=q7 (show Below w.heap.size w W2 by rw [hW2];exact bZ)
 have HX2:=q7 (show W2.heap[w.heap.size+1+1]?=some (.cells #[.slice (some ⟨w.heap.size+1,0,none⟩) R R] 49 (0,0)) by rw [hW2];exact qh (by simp))
 have HF2:=q7 (show W2.heap[w.heap.size]?=some (.cells fv 36 (0,0)) by rw [hW2];exact qg (qg (qn w _)))
 have HO2:=q7 (show W2.rowIs (w.heap.size+1) 59 (R*3) (spF (JM 0)) by
  have h0:=(rowSpn (w.alloc (.cells fv 36)) R).alloc (.cells #[.slice (some ⟨w.heap.size+1,0,none⟩) R R] 49)
  rw [show (w.alloc (.cells fv 36)).heap.size=w.heap.size+1 from by simp] at h0
  rw [hW2]
  exact h0)
 clear hW2 hmk
 go_loopg [23] P (fun q s23 wr=>∃k:Nat,k≤P∧q=P - k∧s23 = .int .i64 k∧wr.rowIs (w.heap.size+1) 59 (R*3) (spF (JM k))∧Kept (fun b=>b=w.heap.size+1) W2 wr)
 case atStart=>exact ⟨0,by omega,rfl,rfl,HO2.out,Kept.refl _ _⟩
 case round=>
  obtain ⟨k,hk,rfl,rfl,hR,hK⟩:=hrel
  have HR:=q7 hR
  have HK:=q7 hK
  clear hR hK HO2
  have hX:=(HK.out.block _ (q8 HX2.out) (by omega)).trans HX2.out
  have HX:=q7 hX
  have x0:=(blk hX).1 0
  have zx:=q8 hX
  simp only [zE,zB] at x0
  clear hX
  have HBr:=q7 (HB2.out.trans (HK.out.below HB2.out.size fun i hi=>by omega))
  by_cases hlt:k<P
  ·have hkR:k<R:=by omega
   obtain ⟨g0,g1,g2⟩:=HA.out.below HBr.out
   have zg:=qd HA.out.1
   have hO:=HR.out.lt
   have c0:=HR.out.cell (i:=k*3) (by omega)
   have c1:=HR.out.cell (i:=k*3+1) (by omega)
   have c2:=HR.out.cell (i:=k*3+2) (by omega)
   have f0:=HR.out.frozen (k*3)
   have f1:=HR.out.frozen (k*3+1)
   have f2:=HR.out.frozen (k*3+2)
   go_wp2_with fail
   go_roundg (P - (k+1))
   case measure=>omega
   case rel=>exact ⟨k+1,by omega,rfl,by go_num,by rw [←mG];exact VI jW HR.out,((HK.out.setCell rfl _).setCell rfl _).setCell rfl _⟩
  obtain rfl:k=P:=by omega
  have hI:Hid (wr.rowIs (w.heap.size+1) 59 (R*3) (spF (Q6 f))):=q7 (by rw [HI.out];exact HR.out)
  have HF3:=q7 ((HK.out.block _ (q8 HF2.out) (by omega)).trans HF2.out)
  obtain ⟨w3,hw3⟩:∃w3,w3=wr:=⟨_,rfl⟩
  subst hw3
  clear HR HK HX2 HF2 HB2 HI
  go_wp2_with fail
  obtain ⟨W4,hW4⟩:∃W4,W4=(w3.alloc (.cells #[.int .i64 0] 3)).alloc (.cells #[.bool true] 4):=⟨_,rfl⟩
  rw [←hW4]
  have hoE:=HBr.out.size
  have zO:=hI.out.lt
  have HW4:Hid (SpW w fv R (w.heap.size+1+1) (w.heap.size+1) w3.heap.size (w3.heap.size+1) (Q6 f) 0 true W4):=q7 (by
   have h0:Below w3.heap.size w3 W4:=by rw [hW4];exact bZ
   exact { below:=HBr.out.trans (h0.mono hoE),fb:=(h0.block _ (q8 HF3.out)).trans HF3.out,x:=(h0.block _ (q8 HX.out)).trans HX.out,o:=hI.out.of_block (h0.block _ zO),t:=(by rw [hW4];exact qg (qn w3 _)),a:=(by rw [hW4];exact qh (by simp)),hX:=by omega,hO:=by omega,hT:=by omega,hA:=by omega,xo:=by omega,xa:=by omega,oa:=by omega,«to»:=by omega,ta:=by omega })
  have HK0:Hid (msS f.regs.toNat 0 (Q6 f)+1≤2000):=q7 (by
   have h1:=rksS_le f.regs.toNat (Q6 f)
   have h2:=hRR.out
   unfold msS
   omega)
  clear hW4 hI HF3 HX HBr zx zO hoE x0
  go_loopg [6,7] (msS f.regs.toNat 0 (Q6 f)+1) (fun q s6 s7 wr=>∃(t:Nat) (l:Nat→Spn) (ag:Bool) (T A:Nat),s6 = .pointer (some ⟨T,0,none⟩)∧s7 = .pointer (some ⟨A,0,none⟩)∧SpW w fv R (w.heap.size+1+1) (w.heap.size+1) T A l t ag wr∧OkS l∧(ag=true→LeftS f t l q∧t+q≤2000)∧(ag=false→l=qN f∧q=0))
  case atStart=>exact ⟨0,Q6 f,true,_,_,rfl,rfl,HW4.out,OkS.init f,fun _=>⟨LeftS.start f,by have:=HK0.out;omega⟩,fun h=>by cases h⟩
  case round=>
   obtain ⟨t,l,ag,T,A,rfl,rfl,hW,hOk,ht,hf⟩:=hrel
   have HW:=q7 hW
   have HOl:=q7 hOk
   clear hW hOk HW4 HK0
   cases ag with
   | false=>
    obtain ⟨rfl,rfl⟩:=hf rfl
    clear ht hf
    have x0:=(blk HW.out.x).1 0
    have zx:=q8 HW.out.x
    simp only [zE,zB] at x0
    have a0:=(blk HW.out.a).1 0
    have af:=(blk HW.out.a).2
    have za:=q8 HW.out.a
    simp only [zE,zB] at a0
    go_wp2_with fail
    go_ret
    exact ⟨_,rfl,by omega,HW.out.o,HW.out.below⟩
   | true=>
    obtain ⟨hL,hsY⟩:=ht rfl
    obtain ⟨kr,rfl⟩:∃k,gk=k+1:=⟨gk - 1,by have:=hL.fuel;omega⟩
    have HL:=q7 hL
    clear hL ht hf
    have hA0:=HW.out.hA
    have hT0:=HW.out.hT
    have hXA:=HW.out.xa
    have hOA:=HW.out.oa
    have hTA:=HW.out.ta
    have hTO:=HW.out.to
    have x0:=(blk HW.out.x).1 0
    have zx:=q8 HW.out.x
    simp only [zE,zB] at x0
    have a0:=(blk HW.out.a).1 0
    have af:=(blk HW.out.a).2
    have za:=q8 HW.out.a
    simp only [zE,zB] at a0
    have f3:=(blk HW.out.fb).1 3
    have zf:=q8 HW.out.fb
    rw [HFv.out] at f3
    simp only [zE,zB,zD] at f3
    go_wp2_with fail
    obtain ⟨w5,hw5⟩:∃w5,w5=wr.setCell ⟨A,0,none⟩ (.bool false):=⟨_,rfl⟩
    rw [←hw5]
    have HW5:Hid (SpW w fv R (w.heap.size+1+1) (w.heap.size+1) T A l t false w5):=q7 (by
     rw [hw5]
     exact HW.out.put (HW.out.o.of_block (zJ _ _ _ _ hOA)) (by rw [qV HW.out.a];rfl) ((Kept.refl _ _).setCell (.inr rfl) _))
    clear hw5 HW a0 af za f3 zf
    go_loopg [39] f.blocks.length (fun q s39 wr=>∃(k:Nat) (l':Nat→Spn) (ag':Bool),k≤f.blocks.length∧q=f.blocks.length - k∧s39 = .int .i64 k∧SpW w fv R (w.heap.size+1+1) (w.heap.size+1) T A l' t ag' wr∧OkS l'∧((f.blocks.drop k).flatMap itsB).foldl (itS t) (l',ag')=KA f t l)
    case atStart=>exact ⟨0,l,false,by omega,rfl,rfl,HW5.out,HOl.out,by rw [List.drop_zero];rfl⟩
    case round=>
     obtain ⟨k,l',ag',hk,rfl,rfl,hW,hOk,hhg⟩:=hrel
     have HW:=q7 hW
     have hkE:=q7 hOk
     have HFo:=q7 hhg
     clear hW hOk hhg HW5
     by_cases hlt:k<f.blocks.length
     rotate_left
     ·obtain rfl:k=f.blocks.length:=by omega
      have hst:KA f t l=(l',ag'):=by
       have h:=HFo.out
       rw [List.drop_length] at h
       exact h.symm
      have HST:=q7 hst
      clear hst HFo
      have x0:=(blk HW.out.x).1 0
      have zx:=q8 HW.out.x
      simp only [zE,zB] at x0
      have t0:=(blk HW.out.t).1 0
      have tf:=(blk HW.out.t).2
      have zt:=q8 HW.out.t
      simp only [zE,zB] at t0
      have a0:=(blk HW.out.a).1 0
      have af:=(blk HW.out.a).2
      have za:=q8 HW.out.a
      simp only [zE,zB] at a0
      cases ag' with
      | false=>
       have HLa:=q7 (HL.out.last HOk.out (by rw [HST.out]))
       have hl':l'=qN f:=by
        have h1:=((kZ HOk.out t HL.out.ok).flag (by rw [HST.out])).2
        have h2:=HST.out
        rw [h2] at h1
        exact h1.trans HLa.out
       have HL':=q7 hl'
       clear hl' HLa
       go_wp2_with fail
       go_roundg (0)
       case measure=>omega
       case rel=>exact ⟨t+1,l',false,_,_,rfl,rfl,HW.out.turn,hkE.out,(fun h=>by cases h),fun _=>⟨HL'.out,rfl⟩⟩
      | true=>
       have HN:=q7 (HL.out.next HOk.out (by rw [HST.out]))
       have HN2:Hid (LeftS f (t+1) l' kr):=q7 (by have h:=HN.out;rw [HST.out] at h;exact h)
       clear HN
       go_wp2_with fail
       go_roundg kr
       case measure=>omega
       case rel=>exact ⟨t+1,l',true,_,_,rfl,rfl,HW.out.turn,hkE.out,fun _=>⟨HN2.out,by omega⟩,fun h=>by cases h⟩
     obtain ⟨bb,bo,q1,c1,q2,c2,q3,c3,hfp,e0,e1,e2,e3,e4,e5,_,_,hl1,hl2,hl3,hPh,hIn,hTo⟩:=ke HF.out (zI _ _) hlt
     subst hfp
     replace e0:=(HW.out.below.cell (p:=⟨bb,bo+k*6,none⟩) (qd e0)).trans e0
     replace e1:=(HW.out.below.cell (p:=⟨bb,bo+k*6+1,none⟩) (qd e1)).trans e1
     replace e2:=(HW.out.below.cell (p:=⟨bb,bo+k*6+2,none⟩) (qd e2)).trans e2
     replace e3:=(HW.out.below.cell (p:=⟨bb,bo+k*6+3,none⟩) (qd e3)).trans e3
     replace e4:=(HW.out.below.cell (p:=⟨bb,bo+k*6+4,none⟩) (qd e4)).trans e4
     replace e5:=(HW.out.below.cell (p:=⟨bb,bo+k*6+5,none⟩) (qd e5)).trans e5
     have hzb:=qd e0
     have HPh:=q7 hPh
     have HIn:=q7 hIn
     have hoF:∀x∈itsB f.blocks[k],ItOk f.regs.toNat x:=fun x hx=>HOk.out x (yU.2 ⟨_,zP hlt,hx⟩)
     have heW:=q7 hoF
     have HPd:Hid (∀p∈f.blocks[k].phis,0≤p.dst):=q7 fun p hp=>(HS.out.phi k hlt p hp).dst.1
     have hfo:=HFo.out
     rw [List.drop_eq_getElem_cons hlt,List.flatMap_cons,yh] at hfo
     have hoG:=q7 hfo
     clear hPh hIn hTo hoF hfo HFo
     generalize f.blocks[k]=B at *
     have zO:=HW.out.o.lt
     have zA:=q8 HW.out.a
     have zw:=HW.out.below.size
     go_wp2_with fail
     obtain ⟨w6,hw6⟩:∃w6,w6=wr.alloc (.cells #[.slice q1 B.phis.length c1,.slice q2 B.list.length c2,.int .i64 B.fin.kind,.bool B.fin.onr,.int .i64 B.fin.onn,.slice q3 B.fin.to.length c3] 45):=⟨_,rfl⟩
     rw [←hw6]
     have HW6:Hid (SpW w fv R (w.heap.size+1+1) (w.heap.size+1) T A l' t ag' w6):=q7 (HW.out.next (by rw [hw6];exact bZ))
     obtain ⟨bx,hbx⟩:∃bx,bx=wr.heap.size:=⟨_,rfl⟩
     have HBx:Hid (w6.heap[bx]?=some (.cells #[.slice q1 B.phis.length c1,.slice q2 B.list.length c2,.int .i64 B.fin.kind,.bool B.fin.onr,.int .i64 B.fin.onn,.slice q3 B.fin.to.length c3] 45 (0,0))):=q7 (by rw [hw6,hbx];exact qn wr _)
     have hxO:bx≠(w.heap.size+1):=by omega
     have hxA:bx≠A:=by omega
     rw [←hbx]
     clear hw6 HW e0 e1 e2 e3 e4 e5 hzb zO zA zw hbx
     go_loopg [46] B.phis.length (fun q s46 wr=>∃(j:Nat) (l2:Nat→Spn) (ag2:Bool),j≤B.phis.length∧q=B.phis.length - j∧s46 = .int .i64 j∧SpW w fv R (w.heap.size+1+1) (w.heap.size+1) T A l2 t ag2 wr∧OkS l2∧Kept (fun k=>k=(w.heap.size+1)∨k=A) w6 wr∧((B.phis.drop j).map ItS.phi).foldl (itS t) (l2,ag2)=(B.phis.map ItS.phi).foldl (itS t) (l',ag'))
     case atStart=>exact ⟨0,l',ag',by omega,rfl,rfl,HW6.out,hkE.out,Kept.refl _ _,by rw [List.drop_zero]⟩
     case round=>
      obtain ⟨j,l2,ag2,hj,rfl,rfl,hW,hO2,hK,hf2⟩:=hrel
      have HW:=q7 hW
      have HO2:=q7 hO2
      have HK:=q7 hK
      have HF2:=q7 hf2
      clear hW hO2 hK hf2 HW6
      by_cases hjl:j<B.phis.length
      ·obtain ⟨pb,po,pq,pc,hpq,d0,d1,_,hl4,hoH⟩:=V1 HPh.out (zI _ _) hjl
       subst hpq
       replace d0:=(HW.out.below.cell (p:=⟨pb,po+j*2,none⟩) (qd d0)).trans d0
       replace d1:=(HW.out.below.cell (p:=⟨pb,po+j*2+1,none⟩) (qd d1)).trans d1
       have hzp:=qd d0
       have hIt:ItOk f.regs.toNat (.phi B.phis[j]):=heW.out _ (yE _ (List.mem_map_of_mem (zP hjl)))
       have hPd:0≤B.phis[j].dst:=HPd.out _ (zP hjl)
       have hff:=HF2.out
       rw [List.drop_eq_getElem_cons hjl,yS,List.foldl_cons] at hff
       have HFF:=q7 hff
       have hfN:=q7 hoH
       have HIt:=q7 hIt
       clear hff hoH hIt HF2
       generalize B.phis[j]=p at *
       obtain ⟨d,hd⟩:∃d:Nat,p.dst=d:=⟨p.dst.toNat,by omega⟩
       rw [hd] at d0
       have hdR:d<R:=by
        have h1:=HIt.out.1
        have h2:=HRn.out
        have h1:p.dst<f.regs.toNat:=h1
        omega
       have Hd:=q7 hd
       clear hd
       have zO:=HW.out.o.lt
       have zA:=q8 HW.out.a
       have zX:=q8 HW.out.x
       have zT:=q8 HW.out.t
       have zw:=HW.out.below.size
       go_wp2_with fail
       obtain ⟨w7,hw7⟩:∃w7,w7=(wr.alloc (.cells #[.int .i64 (d:Int),.slice pq p.src.length pc] 88)).alloc (.cells #[.int .i64 0,.int .i64 0,.bool false] 59):=⟨_,rfl⟩
       rw [←hw7]
       have hkF:Below wr.heap.size wr w7:=by rw [hw7];exact bZ
       have HW7:=q7 (HW.out.next hkF)
       have HK7:=q7 (HK.out.trans (Kept.of_below (S:=fun _=>False) hkF) (fun _ _ h=>h.elim))
       obtain ⟨bp,hbp⟩:∃bp,bp=wr.heap.size:=⟨_,rfl⟩
       have HP7:Hid (w7.heap[bp]?=some (.cells #[.int .i64 (d:Int),.slice pq p.src.length pc] 88 (0,0))):=q7 (by rw [hw7,hbp];exact qg (qn wr _))
       have HS7:Hid (w7.heap[bp+1]?=some (.cells #[.int .i64 0,.int .i64 0,.bool false] 59 (0,0))):=q7 (by rw [hw7,hbp];exact qh (by simp))
       have z67:=HK.out.size
       rw [←hbp] at zO zA zX zT zw z67 ⊢
       have hX0:=HW.out.hX
       clear hw7 hkF hbp HW HK d0 d1 hzp
       go_loopg [53] p.src.length (fun q s53 wr=>∃(i:Nat) (s:Spn),i≤p.src.length∧q=p.src.length - i∧s53 = .int .i64 i∧wr.heap[bp+1]?=some (.cells #[.int .i64 s.lo,.int .i64 s.hi,.bool s.has] 59 (0,0))∧Kept (fun k=>k=bp+1) w7 wr∧(p.src.drop i).foldl (fun s v=>zR s (vlS l2 v)) s=phS l2 p.src)
       case atStart=>exact ⟨0,vc,by omega,rfl,rfl,HS7.out,Kept.refl _ _,by rw [List.drop_zero];rfl⟩
       case round=>
        obtain ⟨i,s,hi,rfl,rfl,hSb,hK,hfs⟩:=hrel
        have HSb:=q7 hSb
        have HK:=q7 hK
        have HFs:=q7 hfs
        have HW:Hid (SpW w fv R (w.heap.size+1+1) (w.heap.size+1) T A l2 t ag2 wr):=q7 (HW7.out.other hK fun i hi=>by subst hi;refine ⟨?_,?_,?_,?_,?_⟩<;>omega)
        clear hSb hK hfs HS7
        by_cases hil:i<p.src.length
        rotate_left
        ·obtain rfl:i=p.src.length:=by omega
         have hs:s=phS l2 p.src:=by
          have h:=HFs.out
          rw [List.drop_length] at h
          exact h
         have hit:=itS_phi (t:=t) (l:=l2) (ag:=ag2) Hd.out hs
         have hey:=HO2.out.it (turn:=t) (s:=(l2,ag2)) HIt.out
         have hff:=HFF.out
         rw [hit] at hey hff
         have hsZ:=q7 hey
         have heX:=q7 hff
         clear hs hit hey hff HFs HFF HIt
         have hPb:=(HK.out.block _ (q8 HP7.out) (by omega)).trans HP7.out
         have p0:=(blk hPb).1 0
         have zp:=q8 hPb
         have s0:=(blk HSb.out).1 0
         have s1:=(blk HSb.out).1 1
         have s2:=(blk HSb.out).1 2
         have zs:=q8 HSb.out
         simp only [zE,zB,zD] at p0 s0 s1 s2
         clear hPb
         go_wp2_with fail
         refine (put_at HW.out (by omega) (by omega) hdR s).mono ?_
         rintro e w12 ⟨rfl,hoI,hoJ⟩
         have ht4:=q7 hoI
         have ht5:Hid (Kept (fun k=>k=(w.heap.size+1)∨k=A) w6 w12):=q7 ((HK7.out.trans HK.out (fun k hk e=>by omega)).trans hoJ (fun _ _ h=>h))
         clear hoI hoJ p0 zp s0 s1 s2 zs
         go_wp2_with fail
         go_roundg (B.phis.length - (j+1))
         case measure=>omega
         case rel=>exact ⟨j+1,kG t l2 d s,ag2 || Kz l2 d s,by omega,rfl,by go_num,ht4.out,hsZ.out,ht5.out,heX.out⟩
        obtain ⟨vb,vo,hpq,v0,v1,h64⟩:=KZ hfN.out HW.out.below hil
        subst hpq
        have hvR:=(HIt.out.2 _ (zP hil)).2
        rw [HRn.out] at hvR
        have hfs:=HFs.out
        rw [List.drop_eq_getElem_cons hil,List.foldl_cons] at hfs
        have hoK:=q7 hfs
        have HvR:=q7 hvR
        clear hfs hvR HFs h64
        generalize p.src[i]=v at *
        obtain ⟨vr,vn⟩:=v
        simp only at v0 v1
        have zv:=qd v0
        have zs:=q8 HSb.out
        go_wp2_with fail
        obtain ⟨w8,hw8⟩:∃w8,w8=wr.alloc (.cells #[.bool vr,.int .i64 vn] 40):=⟨_,rfl⟩
        rw [←hw8]
        have hez:Below wr.heap.size wr w8:=by rw [hw8];exact bZ
        obtain ⟨bv,hbv⟩:∃bv,bv=wr.heap.size:=⟨_,rfl⟩
        have HV8:Hid (w8.heap[bv]?=some (.cells #[.bool vr,.int .i64 vn] 40 (0,0))):=q7 (by rw [hw8,hbv];exact qn wr _)
        have HS8:=q7 ((hez.block _ zs).trans HSb.out)
        have HW8:=q7 (HW.out.next hez)
        have HK8:=q7 (HK.out.trans (Kept.of_below (S:=fun _=>False) hez) (fun _ _ h=>h.elim))
        rw [←hbv]
        have ha8:=q7 (show ∀w',Below w8.heap.size w8 w'→w'.cell? ⟨bv,0,none⟩=some (.bool vr)∧w'.cell? ⟨bv,1,none⟩=some (.int .i64 vn)∧w'.cell? ⟨bp+1,0,none⟩=some (.int .i64 s.lo)∧w'.cell? ⟨bp+1,1,none⟩=some (.int .i64 s.hi)∧w'.cell? ⟨bp+1,2,none⟩=some (.bool s.has) from fun w' h=>by
         have h1:=(h.block _ (q8 HV8.out)).trans HV8.out
         have h2:=(h.block _ (q8 HS8.out)).trans HS8.out
         exact ⟨(blk h1).1 0,(blk h1).1 1,(blk h2).1 0,(blk h2).1 1,(blk h2).1 2⟩)
        clear hw8 hez hbv HW HK HSb v0 v1 zv zs
        refine qr (S:=fun w'=>Below w8.heap.size w8 w') (by kernel_rfl) 5 ?_
        obtain ⟨y0,hy0⟩:∃y0,y0=w8.drew:=⟨_,rfl⟩
        have hb0:Below w8.heap.size w8 y0:=by rw [hy0];exact (zI _ _).drew
        rw [←hy0]
        clear hy0
        refine tkZ 0 57 (.agg #[.int .i64 s.lo,.int .i64 s.hi,.bool s.has]) rfl rfl hb0 (fun w' h=>?_) ?_
        ·obtain ⟨h1,h2,h3,h4,h5⟩:=ha8.out w' h
         go_simp
        refine tkZ 1 58 (.func (.func 36) #[] #[.pointer (some ⟨w.heap.size+1+1,0,none⟩)]) rfl rfl hb0 (fun w' h=>?_) ?_
        ·obtain ⟨h1,h2,h3,h4,h5⟩:=ha8.out w' h
         go_simp
        refine tkZ 2 59 (.agg #[.bool vr,.int .i64 vn]) rfl rfl hb0 (fun w' h=>?_) ?_
        ·obtain ⟨h1,h2,h3,h4,h5⟩:=ha8.out w' h
         go_simp
        refine qk (i:=3) (by kernel_rfl) (qm 60 rfl rfl rfl (by go_simp) (val_at (HW8.out.next hb0) (by omega) (r:=vr) (m:=vn) HvR.out) ?_)
        rintro e y1 ⟨rfl,hb1'⟩
        have hb1:Below w8.heap.size w8 y1:=hb0.trans (hb1'.mono hb0.size)
        clear hb1'
        refine ⟨_,rfl,hb1,?_⟩
        refine qk (i:=4) (by kernel_rfl) (qm 61 rfl rfl rfl (by go_simp) (spJoin_at s (vlS l2 (vr,vn)) y1) ?_)
        rintro e y2 ⟨rfl,hb2'⟩
        have hb2:Below w8.heap.size w8 y2:=hb1.trans (hb2'.mono hb1.size)
        clear hb2' hb1 hb0
        refine ⟨_,rfl,hb2,?_⟩
        obtain ⟨sn,hsn⟩:∃sn,sn=zR s (vlS l2 (vr,vn)):=⟨_,rfl⟩
        rw [←hsn] at hoK ⊢
        clear hsn
        have hS2:=(hb2.block _ (q8 HS8.out)).trans HS8.out
        have z2:=q8 hS2
        have c0:=(blk hS2).1 0
        have c1:=(blk hS2).1 1
        have c2:=(blk hS2).1 2
        have cf:=(blk hS2).2
        simp only [zE,zB,zD] at c0 c1 c2
        obtain ⟨y3,hy3⟩:∃y3,y3=((y2.setCell ⟨bp+1,0,none⟩ (.int .i64 sn.lo)).setCell ⟨bp+1,1,none⟩ (.int .i64 sn.hi)).setCell ⟨bp+1,2,none⟩ (.bool sn.has):=⟨_,rfl⟩
        refine qk (i:=5) (by kernel_rfl) (qA y3 rfl rfl rfl (by rw [hy3];go_simp) (fun h=>absurd rfl h) (qx (by kernel_rfl) ?_ _))
        have HS3:Hid (y3.heap[bp+1]?=some (.cells #[.int .i64 sn.lo,.int .i64 sn.hi,.bool sn.has] 59 (0,0))):=q7 (by
         rw [hy3,qV (qV (qV hS2 0 _) 1 _) 2 _]
         rfl)
        have HK3:Hid (Kept (fun k=>k=bp+1) w7 y3):=q7 (by
         rw [hy3]
         exact (((HK8.out.trans (Kept.of_below (S:=fun _=>False) hb2) (fun _ _ h=>h.elim)).setCell (p:=⟨bp+1,0,none⟩) rfl _).setCell (p:=⟨bp+1,1,none⟩) rfl _).setCell (p:=⟨bp+1,2,none⟩) rfl _)
        clear hy3 hS2 z2 c0 c1 c2 cf hb2
        simp only [calm]
        go_simp
        go_wp2_with fail
        go_roundg (p.src.length - (i+1))
        case measure=>omega
        case rel=>exact ⟨i+1,sn,by omega,rfl,by go_num,HS3.out,HK3.out,hoK.out⟩
      obtain rfl:j=B.phis.length:=by omega
      have hst:(B.phis.map ItS.phi).foldl (itS t) (l',ag')=(l2,ag2):=by
       have h:=HF2.out
       rw [List.drop_length] at h
       exact h.symm
      have hkG:=hoG.out
      rw [show itsB B=B.phis.map ItS.phi++B.list.map ItS.ins from rfl,yh,hst] at hkG
      have hoL:=q7 hkG
      clear hst HF2 hkG hoG
      have hBr:=(HK.out.block _ (q8 HBx.out) (fun e=>e.elim hxO hxA)).trans HBx.out
      have b1:=(blk hBr).1 1
      have zb:=q8 hBr
      simp only [zE,zB,zD] at b1
      clear hBr
      go_wp2_with fail
      obtain ⟨w9,rfl⟩:∃w9:World,w9=wr:=⟨_,rfl⟩
      clear b1 zb HBx HK hxO hxA
      go_loopg [72] B.list.length (fun q s72 wr=>∃(j:Nat) (l3:Nat→Spn) (ag3:Bool),j≤B.list.length∧q=B.list.length - j∧s72 = .int .i64 j∧SpW w fv R (w.heap.size+1+1) (w.heap.size+1) T A l3 t ag3 wr∧OkS l3∧((B.list.drop j).map ItS.ins).foldl (itS t) (l3,ag3)=(B.list.map ItS.ins).foldl (itS t) (l2,ag2))
      case atStart=>exact ⟨0,l2,ag2,by omega,rfl,rfl,HW.out,HO2.out,by rw [List.drop_zero]⟩
      case round=>
       clear HW HO2
       obtain ⟨j,l3,ag3,hj,rfl,rfl,hW,hO3,hf3⟩:=hrel
       have HW:=q7 hW
       have HO3:=q7 hO3
       have HF3:=q7 hf3
       clear hW hO3 hf3
       by_cases hjl:j<B.list.length
       rotate_left
       ·obtain rfl:j=B.list.length:=by omega
        have hkH:=hoL.out
        rw [show (B.list.map ItS.ins).foldl (itS t) (l2,ag2)=(l3,ag3) from by
         have h:=HF3.out
         rw [List.drop_length] at h
         exact h.symm] at hkH
        have ht7:=q7 hkH
        clear hkH hoL HF3
        go_wp2_with fail
        go_roundg (f.blocks.length - (k+1))
        case measure=>omega
        case rel=>exact ⟨k+1,l3,ag3,by omega,rfl,by go_num,HW.out,HO3.out,ht7.out⟩
       obtain ⟨ib,io,pq,pc,hiq,i0,i1,i2,i3,i4,i5,i6,i7,_,_,_,_,_,_,_⟩:=V2 HIn.out (zI _ _) hjl
       subst hiq
       replace i0:=(HW.out.below.cell (p:=⟨ib,io+j*8,none⟩) (qd i0)).trans i0
       replace i1:=(HW.out.below.cell (p:=⟨ib,io+j*8+1,none⟩) (qd i1)).trans i1
       replace i2:=(HW.out.below.cell (p:=⟨ib,io+j*8+2,none⟩) (qd i2)).trans i2
       replace i3:=(HW.out.below.cell (p:=⟨ib,io+j*8+3,none⟩) (qd i3)).trans i3
       replace i4:=(HW.out.below.cell (p:=⟨ib,io+j*8+4,none⟩) (qd i4)).trans i4
       replace i5:=(HW.out.below.cell (p:=⟨ib,io+j*8+5,none⟩) (qd i5)).trans i5
       replace i6:=(HW.out.below.cell (p:=⟨ib,io+j*8+6,none⟩) (qd i6)).trans i6
       replace i7:=(HW.out.below.cell (p:=⟨ib,io+j*8+7,none⟩) (qd i7)).trans i7
       have hzi:=qd i0
       have hIt:ItOk f.regs.toNat (.ins B.list[j]):=heW.out _ (yM _ (List.mem_map_of_mem (zP hjl)))
       have hff:=HF3.out
       rw [List.drop_eq_getElem_cons hjl,yS,List.foldl_cons] at hff
       have HFF:=q7 hff
       have HIt:=q7 hIt
       clear hff hIt HF3
       generalize B.list[j]=x at *
       by_cases hneg:x.dst<0
       ·have hff:=HFF.out
        rw [itS_no hneg] at hff
        have heX:=q7 hff
        have hge:decide (0≤x.dst)=false:=by simp;omega
        clear hff HFF
        go_wp2_with fail
        go_roundg (B.list.length - (j+1))
        case measure=>omega
        case rel=>exact ⟨j+1,l3,ag3,by omega,rfl,by go_num,HW.out.next bZ,HO3.out,heX.out⟩
       obtain ⟨d,hd⟩:∃d:Nat,x.dst=d:=⟨x.dst.toNat,by omega⟩
       have ht9:=HIt.out
       obtain ⟨g1,g2,g3,_,_,ga,gb⟩:=ht9
       have hdR:d<R:=by have h2:=HRn.out;omega
       rw [HRn.out] at ga gb
       have Hga:=q7 ga
       have Hgb:=q7 gb
       have hvo:SpOk (vlS l3 (x.ar,x.an)):=HO3.out.vl (by assumption)
       have hvp:SpOk (vlS l3 (x.br,x.bn)):=HO3.out.vl (by assumption)
       have Hvo:=q7 hvo
       have Hvp:=q7 hvp
       have hit:=itS_ins (t:=t) (l:=l3) (ag:=ag3) hd rfl
       have hey:=HO3.out.it (turn:=t) (s:=(l3,ag3)) HIt.out
       have hff:=HFF.out
       rw [hit] at hey hff
       have hoM:=q7 hey
       have heX:=q7 hff
       rw [hd] at i1
       clear hit hey hff HFF HIt hneg ga gb hvo hvp hd
       go_wp2_with fail
       obtain ⟨w8,hw8⟩:∃w8,w8=wr.alloc (.cells #[.int .i64 x.op,.int .i64 (d:Int),.bool x.ar,.int .i64 x.an,.bool x.br,.int .i64 x.bn,.int .i64 x.fn,.slice pq x.args.length pc] 57):=⟨_,rfl⟩
       rw [←hw8]
       have hez:Below wr.heap.size wr w8:=by rw [hw8];exact bZ
       obtain ⟨bi,hbi⟩:∃bi,bi=wr.heap.size:=⟨_,rfl⟩
       have HI8:Hid (w8.heap[bi]?=some (.cells #[.int .i64 x.op,.int .i64 (d:Int),.bool x.ar,.int .i64 x.an,.bool x.br,.int .i64 x.bn,.int .i64 x.fn,.slice pq x.args.length pc] 57 (0,0))):=q7 (by rw [hw8,hbi];exact qn wr _)
       have zA:=q8 HW.out.a
       have zO:=HW.out.o.lt
       have HW8:=q7 (HW.out.next hez)
       rw [←hbi] at zA zO ⊢
       have ha8:=q7 (show ∀w':World,w'.heap[bi]?=some (.cells #[.int .i64 x.op,.int .i64 (d:Int),.bool x.ar,.int .i64 x.an,.bool x.br,.int .i64 x.bn,.int .i64 x.fn,.slice pq x.args.length pc] 57 (0,0))→w'.cell? ⟨bi,0,none⟩=some (.int .i64 x.op)∧w'.cell? ⟨bi,1,none⟩=some (.int .i64 (d:Int))∧w'.cell? ⟨bi,2,none⟩=some (.bool x.ar)∧w'.cell? ⟨bi,3,none⟩=some (.int .i64 x.an)∧w'.cell? ⟨bi,4,none⟩=some (.bool x.br)∧w'.cell? ⟨bi,5,none⟩=some (.int .i64 x.bn) from fun w' h=>
        ⟨(blk h).1 0,(blk h).1 1,(blk h).1 2,(blk h).1 3,(blk h).1 4,(blk h).1 5⟩)
       clear hw8 hez hbi HW i0 i1 i2 i3 i4 i5 i6 i7 hzi
       refine qr (S:=fun w'=>w'.heap[bi]?=some (.cells #[.int .i64 x.op,.int .i64 (d:Int),.bool x.ar,.int .i64 x.an,.bool x.br,.int .i64 x.bn,.int .i64 x.fn,.slice pq x.args.length pc] 57 (0,0))) (by kernel_rfl) 15 ?_
       obtain ⟨y0,hy0⟩:∃y0,y0=w8.drew:=⟨_,rfl⟩
       have hb0:Below w8.heap.size w8 y0:=by rw [hy0];exact (zI _ _).drew
       rw [←hy0]
       clear hy0
       have hs0:=(hb0.block _ (q8 HI8.out)).trans HI8.out
       refine xO 0 79 (.func (.func 37) #[] #[.pointer (some ⟨w.heap.size+1+1,0,none⟩),.pointer (some ⟨A,0,none⟩),.pointer (some ⟨T,0,none⟩)]) rfl rfl (zK _) (by kernel_rfl) (by kernel_rfl) (by kernel_rfl) (fun _ _ _ h=>h) (xH ⟨by rfl,fun w' h=>?_⟩) hs0 ?_
       ·obtain ⟨h1,h2,h3,h4,h5,h6⟩:=ha8.out w' h
        go_simp
       refine xO 1 80 (.pointer (some ⟨bi,1,none⟩)) rfl rfl (zK _) (by kernel_rfl) (by kernel_rfl) (by kernel_rfl) (fun _ _ _ h=>h) (xH ⟨by rfl,fun w' h=>?_⟩) hs0 ?_
       ·obtain ⟨h1,h2,h3,h4,h5,h6⟩:=ha8.out w' h
        go_simp
       refine xO 2 81 (.int .i64 (d:Int)) rfl rfl (zK _) (by kernel_rfl) (by kernel_rfl) (by kernel_rfl) (fun _ _ _ h=>h) (xH ⟨by rfl,fun w' h=>?_⟩) hs0 ?_
       ·obtain ⟨h1,h2,h3,h4,h5,h6⟩:=ha8.out w' h
        go_simp
       refine xO 3 82 (.pointer (some ⟨bi,0,none⟩)) rfl rfl (zK _) (by kernel_rfl) (by kernel_rfl) (by kernel_rfl) (fun _ _ _ h=>h) (xH ⟨by rfl,fun w' h=>?_⟩) hs0 ?_
       ·obtain ⟨h1,h2,h3,h4,h5,h6⟩:=ha8.out w' h
        go_simp
       refine xO 4 83 (.int .i64 x.op) rfl rfl (zK _) (by kernel_rfl) (by kernel_rfl) (by kernel_rfl) (fun _ _ _ h=>h) (xH ⟨by rfl,fun w' h=>?_⟩) hs0 ?_
       ·obtain ⟨h1,h2,h3,h4,h5,h6⟩:=ha8.out w' h
        go_simp
       refine xO 5 84 (.func (.func 36) #[] #[.pointer (some ⟨w.heap.size+1+1,0,none⟩)]) rfl rfl (zK _) (by kernel_rfl) (by kernel_rfl) (by kernel_rfl) (fun _ _ _ h=>h) (xH ⟨by rfl,fun w' h=>?_⟩) hs0 ?_
       ·obtain ⟨h1,h2,h3,h4,h5,h6⟩:=ha8.out w' h
        go_simp
       refine xO 6 85 (.pointer (some ⟨bi,2,none⟩)) rfl rfl (zK _) (by kernel_rfl) (by kernel_rfl) (by kernel_rfl) (fun _ _ _ h=>h) (xH ⟨by rfl,fun w' h=>?_⟩) hs0 ?_
       ·obtain ⟨h1,h2,h3,h4,h5,h6⟩:=ha8.out w' h
        go_simp
       refine xO 7 86 (.agg #[.bool x.ar,.int .i64 x.an]) rfl rfl (zK _) (by kernel_rfl) (by kernel_rfl) (by kernel_rfl) (fun _ _ _ h=>h) (xH ⟨by rfl,fun w' h=>?_⟩) hs0 ?_
       ·obtain ⟨h1,h2,h3,h4,h5,h6⟩:=ha8.out w' h
        go_simp
       refine xO 9 88 (.func (.func 36) #[] #[.pointer (some ⟨w.heap.size+1+1,0,none⟩)]) rfl rfl (zK _) (by kernel_rfl) (by kernel_rfl) (by kernel_rfl) (fun _ _ _ h=>h) (xH ⟨by rfl,fun w' h=>?_⟩) hs0 ?_
       ·obtain ⟨h1,h2,h3,h4,h5,h6⟩:=ha8.out w' h
        go_simp
       refine xO 10 89 (.pointer (some ⟨bi,4,none⟩)) rfl rfl (zK _) (by kernel_rfl) (by kernel_rfl) (by kernel_rfl) (fun _ _ _ h=>h) (xH ⟨by rfl,fun w' h=>?_⟩) hs0 ?_
       ·obtain ⟨h1,h2,h3,h4,h5,h6⟩:=ha8.out w' h
        go_simp
       refine xO 11 90 (.agg #[.bool x.br,.int .i64 x.bn]) rfl rfl (zK _) (by kernel_rfl) (by kernel_rfl) (by kernel_rfl) (fun _ _ _ h=>h) (xH ⟨by rfl,fun w' h=>?_⟩) hs0 ?_
       ·obtain ⟨h1,h2,h3,h4,h5,h6⟩:=ha8.out w' h
        go_simp
       refine qk (i:=8) (by kernel_rfl) (qm 87 rfl rfl rfl (by go_simp) (val_at (HW8.out.next hb0) (by omega) (r:=x.ar) (m:=x.an) Hga.out) ?_)
       rintro e y1 ⟨rfl,hb1'⟩
       have hb1:Below w8.heap.size w8 y1:=hb0.trans (hb1'.mono hb0.size)
       have hs1:=(hb1.block _ (q8 HI8.out)).trans HI8.out
       clear hb1'
       refine ⟨_,rfl,hs1,?_⟩
       refine qk (i:=12) (by kernel_rfl) (qm 91 rfl rfl rfl (by go_simp) (val_at (HW8.out.next hb1) (by omega) (r:=x.br) (m:=x.bn) Hgb.out) ?_)
       rintro e y2 ⟨rfl,hb2'⟩
       have hb2:Below w8.heap.size w8 y2:=hb1.trans (hb2'.mono hb1.size)
       have hs2:=(hb2.block _ (q8 HI8.out)).trans HI8.out
       clear hb2' hb1 hb0 hs0 hs1
       refine ⟨_,rfl,hs2,?_⟩
       refine qk (i:=13) (by kernel_rfl) (qm 92 rfl rfl rfl (by go_simp) (makes_at x.op (vlS l3 (x.ar,x.an)) (vlS l3 (x.br,x.bn)) y2 ⟨g2,g3⟩ Hvo.out Hvp.out (HA.out.below ((HW8.out.next hb2).below))) ?_)
       rintro e y3 ⟨rfl,hcL⟩
       have hb3:Below w8.heap.size w8 y3:=hb2.trans (hcL.mono hb2.size)
       have hs3:=(hb3.block _ (q8 HI8.out)).trans HI8.out
       clear hcL hb2 hs2
       refine ⟨_,rfl,hs3,?_⟩
       obtain ⟨sn,hsn⟩:∃sn,sn=Xu x.op (vlS l3 (x.ar,x.an)) (vlS l3 (x.br,x.bn)):=⟨_,rfl⟩
       rw [←hsn] at heX hoM ⊢
       clear hsn
       refine qk (i:=14) (by kernel_rfl) (qm 93 rfl rfl rfl (by go_simp) (put_at (HW8.out.next hb3) (by omega) (by omega) hdR sn) ?_)
       rintro e y4 ⟨rfl,hW4,hK4⟩
       have hs4:=(hK4.block _ (q8 hs3) (fun e=>by omega)).trans hs3
       have HW4:=q7 hW4
       clear hs3 hb3 hW4 hK4
       refine ⟨_,rfl,hs4,qx (by kernel_rfl) ?_ _⟩
       clear hs4
       simp only [calm]
       go_simp
       go_wp2_with fail
       go_roundg (B.list.length - (j+1))
       case measure=>omega
       case rel=>exact ⟨j+1,kG t l3 d sn,ag3 || Kz l3 d sn,by omega,rfl,by go_num,HW4.out,hoM.out,heX.out⟩
end Go.Proofs.YtbnnhmcloecijaaGreatDoor
namespace Go.Proofs.YtbnnhmcloecijaaGreatDoor
open Go.RowKit

theorem spans_any (f:FunL) (fp:Option Addr) (fc:Nat) (w:World) (hS:FunR' f) (hF:SliceAt w 6 (BlkR w) fp f.blocks) (hA:AllW w) :
  Calls Tryz.prog 15 #[.agg #[.string f.name,.int .i64 f.params,.int .i64 f.regs,.slice fp f.blocks.length fc]] w fun e w'=>∃O,e = .returned (.slice (some ⟨O,0,none⟩) f.regs.toNat f.regs.toNat)∧w.heap.size≤O∧w'.rowIs O 59 (f.regs.toNat*3) (spF (qN f))∧Below w.heap.size w w':=by
 have h1:=hS.par
 obtain ⟨P,hP⟩:∃P:Nat,f.params=P:=⟨f.params.toNat,by omega⟩
 obtain ⟨R,hR⟩:∃R:Nat,f.regs=R:=⟨f.regs.toNat,by omega⟩
 have h:=spans_aux f P R f.name fp fc w (q7 hP) (q7 hR) hS hF hA
 have e:f.regs.toNat=R:=by omega
 rw [hP,e,hR]
 exact h
end Go.Proofs.YtbnnhmcloecijaaGreatDoor
