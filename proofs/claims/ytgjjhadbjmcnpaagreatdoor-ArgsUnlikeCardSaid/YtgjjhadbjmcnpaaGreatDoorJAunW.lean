/-
  The walk of ArgsUnlike: it tells true.
-/
import Derived.Test.YtgjjhadbjmcnpaaGreatDoorJSamC
set_option maxRecDepth 100000
set_option maxHeartbeats 16000000
namespace Go.Proofs.YtgjjhadbjmcnpaaGreatDoor

def Z3 (k p:Nat) (x:InsL):List (Bool×Int):=if x.op=20∧x.fn=(k:Int) then [x.args.getD p (false,0)] else []
def seenB (k p:Nat) (b:BlkL):List (Bool×Int):=b.list.flatMap (Z3 k p)
def seenF (k p:Nat) (f:FunL):List (Bool×Int):=f.blocks.flatMap (seenB k p)
theorem seen_cv (k p:Nat) (V:List FunL):(V.flatMap (seenF k p)).map VZ=cvX k p V:=by
 have e:∀x,(Z3 k p x).map VZ=cvI k p x:=fun x=>by
  unfold Z3 cvI
  split<;>rfl
 unfold cvX cvF seenF seenB
 simp only [List.map_flatMap,e]
theorem seen_no {k p:Nat} {V:List FunL} {xs:List (Bool×Int)} (h:kK k p V=none) (hs:xs=V.flatMap (seenF k p)) (h0:0<xs.length) (ha:∀j (hj:j<xs.length),xs[j].1=false∧xs[j]=xs[0]):False:=by
 have h1:kK k p V=some xs[0].2:=by
  rw [alwL_iff,←seen_cv,←hs]
  refine ⟨fun e=>?_,fun v hv=>?_⟩
  ·have:=congrArg List.length e
   simp at this
   subst this
   simp at h0
  obtain ⟨x,hx,rfl⟩:=List.mem_map.1 hv
  obtain ⟨j,hj,rfl⟩:=List.mem_iff_getElem.1 hx
  obtain ⟨a,b⟩:=ha j hj
  unfold VZ
  rw [if_neg (by rw [a];decide),b]
 rw [h1] at h
 cases h
theorem QS {α β:Type} {l:List α} {g:α→List β} {i:Nat} (hi:i<l.length):(l.take (i+1)).flatMap g=(l.take i).flatMap g++g l[i]:=by
 rw [←List.take_append_getElem hi,List.flatMap_append]
 simp
theorem Vp {k p:Nat} {x:InsL} (h:¬(x.op=20∧x.fn=(k:Int))):Z3 k p x=[]:=if_neg h
theorem seenI_yes {k p:Nat} {x:InsL} (h:x.op=20∧x.fn=(k:Int)) (hp:p<x.args.length):Z3 k p x=[x.args[p]]:=by
 unfold Z3
 rw [if_pos h]
 simp [hp]
end Go.Proofs.YtgjjhadbjmcnpaaGreatDoor
namespace Go.Proofs.YtgjjhadbjmcnpaaGreatDoor
open Go.RowKit Go.Shelf

def SeenR (wq wr:World) (pv:Option Addr) (vc:Nat) (xs:List (Bool×Int)):Prop:=∃Sv:Blks,SlO 44 2 vM wr (.slice pv xs.length vc) xs Sv∧(∀g,Sv g→wq.heap.size≤g)∧Below wq.heap.size wq wr
theorem SeenR.nil {wq wr:World} (h:Below wq.heap.size wq wr):SeenR wq wr none 0 []:=⟨fun _=>False,SlO.nil _ _ _ _ (fun _ h=>h.elim),fun _ h=>h.elim,h⟩
theorem SeenR.snoc {wq wr w':World} {xs:List (Bool×Int)} {y:Bool×Int} {v':Value} {Sv:Blks} {o:Obj} (hL:∀g,Sv g→wq.heap.size≤g) (hB:Below wq.heap.size wq wr) (h:Snoc 44 2 vM (wr.alloc o) (xs++[y]) Sv (fun _=>False) v' w'):∃pv' vc',v' = .slice pv' (xs++[y]).length vc'∧SeenR wq w' pv' vc' (xs++[y]):=by
 obtain ⟨S',hO3,hsub,hK3⟩:=h
 obtain ⟨pv2,vc2,e2,_⟩:=hO3.val
 subst e2
 have hz:=hB.size
 refine ⟨pv2,vc2,rfl,S',hO3,fun g hg=>?_,(hB.alloc hz _).trans (hK3.below (by simp;omega) hL)⟩
 rcases hsub g hg with h|h|h
 ·exact hL g h
 ·exact h.elim
 simp at h;omega

theorem seen_bd {cc m i n a b c:Nat} (h:n≤cc*12000+m*300+i) (h1:cc<a) (h2:a≤10) (h3:m<b) (h4:b≤40) (h5:i<c) (h6:c≤300):n+1≤maxLen∧(n+1)*16≤140737488355328:=by
 unfold maxLen
 omega
theorem aun_all (u:UniL) (gp fp:Option Addr) (gc fc:Nat) (w:World) (hG:SlF w 3 48 (GloR w) (.slice gp u.globals.length gc) u.globals) (hF:SlF w 4 56 (FunR w) (.slice fp u.funcs.length fc) u.funcs) (hw0:Ways w) :
  Calls Tryz.prog 5 #[.agg #[.slice gp u.globals.length gc,.slice fp u.funcs.length fc]] w fun e w'=>e = .returned (.bool true)∧Below w.heap.size w w':=by
 have hF0:SliceAt w 4 (FunR w) fp u.funcs:=by
  obtain ⟨p,c,e,_,_,h⟩:=hF.outC
  cases e
  exact h
 have hgl:u.globals.length*48≤140737488351232:=hG.bdC
 have hfl:u.funcs.length*56≤140737488351232:=hF.bdC
 have HGs:=q8 hG
 have HFs:=q8 hF
 have HW:=q8 hw0
 have HF0:=q8 hF0
 clear hG hF hF0 hw0
 obtain ⟨iV,r1,r2,r3,r4⟩:=info_parts kj
 have hfd:∀w:World,(Instr.field 27 (.agg #[.int .i64 0,.int .i64 0]) 0).run Tryz.prog w = .ok (.int .i64 0) w:=fun w=>by kernel_rfl
 go_enter Tryz.func5,Tryz.ntmps5
 go_wp2_with fail
 obtain ⟨w1,hw1⟩:∃w1,w1=w.alloc (.cells #[.slice gp u.globals.length gc,.slice fp u.funcs.length fc] 25):=⟨_,rfl⟩
 rw [←hw1]
 have hb1:Below w.heap.size w w1:=by rw [hw1];exact bZ
 have hO1:w1.heap[w.heap.size]?=some (.cells #[.slice gp u.globals.length gc,.slice fp u.funcs.length fc] 25 (0,0)):=by rw [hw1];exact qq rfl
 have hz1:w1.heap.size=w.heap.size+1:=by rw [hw1];simp
 have hgm:=SlF.mono HGs.out hb1 (by omega) fun _ _ h=>h.below hb1
 have hfm:=SlF.mono HFs.out hb1 (by omega) fun _ _ h=>h.below hb1
 have HB1:=q8 hb1
 have HO1:=q8 hO1
 clear hw1 hb1 hO1
 refine (ado_any u gp fp gc fc w1 hgm hfm (HW.out.below HB1.out)).mono ?_
 rintro e w2 ⟨h,hb2⟩
 have HB2:=q8 (HB1.out.trans (hb2.mono HB1.out.size))
 have HO2:=q8 ((hb2.block _ (by omega)).trans HO1.out)
 have hz2:=hb2.size
 clear hgm hfm hb2
 rcases h with ⟨c,k,hne,rfl⟩|⟨hc,V,hV,p1,c1,p2,c2,rfl,hgr,hfr⟩
 ·go_wp2_with fail
  refine (XO _).mono ?_
  rintro e w3 ⟨rfl,hb3⟩
  have HB3:Hid (Below w.heap.size w w3):=q8 (HB2.out.trans (Below.trans bZ (hb3.mono (by simp;omega))))
  clear hb3
  go_wp2_with fail
  go_ret
  exact ⟨rfl,HB3.out⟩
 obtain ⟨m,hm,_⟩:=hc.main
 have hpos:0<u.funcs.length:=Nat.lt_of_le_of_lt (Nat.zero_le _) (QP hm)
 have hp0:((u.funcs.length:Int) == 0)=false:=beq_eq_false_iff_ne.2 (by omega)
 have hF2:SliceAt w2 4 (FunR w2) p2 V:=by
  obtain ⟨p,c,e,_,_,h⟩:=hfr.outC
  injection e with e1 e2 e3
  rw [e1]
  exact h
 have HF2:=q8 hF2
 have HC:=q8 hc
 have HV:=q8 hV
 have hV':=hV
 have HGr:=q8 hgr
 have HFr:=q8 hfr
 clear hc hm hV hgr hfr hF2
 have HlV:=q8 hV'.len
 obtain ⟨W3,hW3⟩:∃W3,W3=(w2.alloc (.cells #[.slice p1 u.globals.length c1,.slice p2 u.funcs.length c2] 25)).alloc (.cells #[.int .i64 0,.int .i64 0] 27):=⟨_,rfl⟩
 have hz3:W3.heap.size=w2.heap.size+1+1:=by rw [hW3];simp
 have hb3:Below w2.heap.size w2 W3:=by rw [hW3];exact bZ
 have hO3:W3.heap[w2.heap.size]?=some (.cells #[.slice p1 u.globals.length c1,.slice p2 u.funcs.length c2] 25 (0,0)):=by rw [hW3];exact qh (qq rfl)
 have HB3:=q8 hb3
 have HBw:=q8 (HB2.out.trans (hb3.mono HB2.out.size))
 have HO3:=q8 hO3
 have hG2:SliceAt w2 3 (GloR w2) p1 u.globals:=by
  obtain ⟨p,c,e,_,_,h⟩:=HGr.out.outC
  injection e with e1 e2 e3
  rw [e1]
  exact h
 have hck:=jS { globals:=u.globals,funcs:=V } p1 p2 c1 c2 W3 hgl (kc hG2 hb3) (by show V.length*56≤_;rw [HlV.out];exact hfl) (kd HF2.out hb3) (HW.out.below HBw.out)
 rw [HV.out.ok.zero] at hck
 simp only [HlV.out] at hck
 rw [hW3] at hck hO3
 have HCk:=q8 hck
 have HW3:=q8 hW3
 obtain ⟨hcO,_⟩:=blk hO3
 have hqP:=hcO 0
 have hqQ:=hcO 1
 clear hW3 hb3 hO3 hG2 hck hcO hV'
 go_wp2_with (go_at_call 9;refine HCk.out.mono ?_;rintro e w4 ⟨rfl,hb4⟩;rw [←HW3.out] at hb4;have HB4:=q8 hb4;clear hb4)
 have hz4:=HB4.out.size
 have HO4:=q8 ((HB4.out.block _ (by omega)).trans HO3.out)
 have hnQ:Hid (Below w2.heap.size w2 w4):=q8 (HB3.out.trans (HB4.out.mono (by omega)))
 have hnS:Hid (Below w.heap.size w w4):=q8 (HBw.out.trans (HB4.out.mono HBw.out.size))
 have HSm:=q8 HV.out.ok.small
 have HCn:=q8 HV.out.ok.callN
 have hqR:u.funcs.length≤10:=by have:=HV.out.ok.nf;simp only [HlV.out] at this;omega
 have hsM:=hnQ.out.size
 clear hqP hqQ
 go_loopg [5] u.funcs.length (fun q s wr=>∃k:Nat,k≤u.funcs.length∧q=u.funcs.length - k∧s = .int .i64 k∧Below w4.heap.size w4 wr)
 case atStart=>exact ⟨0,by omega,rfl,rfl,Below.refl _ _⟩
 case round=>
  obtain ⟨wp,hwp⟩:∃wp,wp=wr:=⟨_,rfl⟩
  subst hwp
  obtain ⟨k,hk,rfl,rfl,hb⟩:=hrel
  have HBp:=q8 hb
  have hzp:=hb.size
  have HOp:=q8 ((hb.block _ (qd HO4.out)).trans HO4.out)
  have o1:wp.cell? ⟨w2.heap.size,1,none⟩=some (.slice p2 u.funcs.length c2):=(blk HOp.out).1 1
  have oz1:=qd HOp.out
  have hbo:Hid (Below w.heap.size w wp):=q8 (hnS.out.trans (HBp.out.mono hnS.out.size))
  have hcM:Hid (Below w2.heap.size w2 wp):=q8 (hnQ.out.trans (HBp.out.mono (by omega)))
  clear hb
  by_cases hlt:k<u.funcs.length
  rotate_left
  ·obtain rfl:k=u.funcs.length:=by omega
   go_wp2_with fail
   go_ret
   exact ⟨rfl,hbo.out⟩
  have hkV:k<V.length:=by have:=HlV.out;omega
  obtain ⟨fb,fo,q,c,rfl,e0,e1,e2,e3,_,_,_,_,_⟩:=jI HF2.out hcM.out hkV
  obtain ⟨P,hP⟩:∃P,P=V[k].params:=⟨_,rfl⟩
  have heL:P≤6∧0≤P:=by
   have:=HCn.out.par V[k] (List.getElem_mem hkV)
   rw [hP];omega
  have HP:=q8 hP
  have k0:(0:Int)≤(k:Int):=by omega
  have k1:(k:Int)<u.funcs.length:=by omega
  clear hP e0 e1 e2 e3
  go_wp2_with fail
  go_loopg [6] P.toNat (fun q s wr=>∃p:Nat,(p:Int)≤P∧q=P.toNat - p∧s = .int .i64 p∧Below wp.heap.size wp wr)
  case atStart=>exact ⟨0,by omega,rfl,rfl,Below.refl _ _⟩
  case round=>
   obtain ⟨wq,hwq⟩:∃wq,wq=wr:=⟨_,rfl⟩
   subst hwq
   obtain ⟨p,hp,rfl,rfl,hb⟩:=hrel
   have HBq:=q8 hb
   have hzq:=hb.size
   have HOq:=q8 ((hb.block _ oz1).trans HOp.out)
   have hhL:Hid (Below w2.heap.size w2 wq):=q8 (hcM.out.trans (hb.mono hcM.out.size))
   have hbZ:Hid (Below w.heap.size w wq):=q8 (hbo.out.trans (hb.mono hbo.out.size))
   have x1:wq.cell? ⟨w2.heap.size,1,none⟩=some (.slice (some ⟨fb,fo,none⟩) u.funcs.length c2):=(blk HOq.out).1 1
   have zx:=qd HOq.out
   obtain ⟨fb',fo',q,c,he,_,e1,_⟩:=jI HF2.out hhL.out hkV
   simp only [Option.some.injEq,Addr.mk.injEq,and_true] at he
   obtain ⟨rfl,rfl⟩:=he
   rw [←HP.out] at e1
   have gz2:=q9 e1
   clear hb o1
   by_cases hlt2:(p:Int)<P
   rotate_left
   ·have hpe:(p:Int)=P:=by omega
    have hd:decide ((p:Int)<P)=false:=decide_eq_false hlt2
    clear hpe
    go_wp2_with fail
    go_roundg (u.funcs.length - (k+1))
    case measure=>omega
    case rel=>exact ⟨k+1,by omega,rfl,by go_num,HBp.out.trans (HBq.out.mono HBp.out.size)⟩
   have HAl:Hid (kK k p V=none):=q8 (HV.out.unlike k hkV p (by rw [←HP.out];exact hlt2))
   have hbh:Hid (∀f∈V,∀b∈f.blocks,∀x∈b.list,x.op=20→x.fn=(k:Int)→p<x.args.length):=q8 (HCn.out.at_call hkV (by rw [←HP.out];exact hlt2))
   go_wp2_with fail
   go_loopg [7,8] u.funcs.length (fun q s7 s8 wr=>∃(c:Nat) (xs:List (Bool×Int)) (pv:Option Addr) (vc:Nat),c≤u.funcs.length∧q=u.funcs.length - c∧s8 = .int .i64 c∧s7 = .slice pv xs.length vc∧SeenR wq wr pv vc xs∧Hid (xs=(V.take c).flatMap (seenF k p))∧xs.length≤c*12000)
   case atStart=>exact ⟨0,[],none,0,by omega,rfl,rfl,rfl,SeenR.nil (Below.refl _ _),q8 (by rw [List.take_zero];rfl),by simp⟩
   case round=>
    obtain ⟨wc,hwc⟩:∃wc,wc=wr:=⟨_,rfl⟩
    subst hwc
    obtain ⟨cc,xs,pv,vc,hcc,rfl,rfl,rfl,hS,HXs,hxl⟩:=hrel
    have HS:=q8 hS
    have hb:Below wq.heap.size wq wc:=by obtain ⟨_,_,_,h⟩:=hS;exact h
    have HBc:=q8 hb
    have hzc:=hb.size
    have HOc:=q8 ((hb.block _ zx).trans HOq.out)
    have o1:wc.cell? ⟨w2.heap.size,1,none⟩=some (.slice (some ⟨fb,fo,none⟩) u.funcs.length c2):=(blk HOc.out).1 1
    have zo:=qd HOc.out
    have HXl:=q8 hxl
    clear hS hb hxl e1 x1
    by_cases hlc:cc<u.funcs.length
    rotate_left
    ·obtain rfl:cc=u.funcs.length:=by omega
     have HXa:Hid (xs=V.flatMap (seenF k p)):=q8 (by rw [HXs.out,List.take_of_length_le (by have:=HlV.out;omega)])
     have hRd:SliceAt wc 2 kY pv xs:=by
      obtain ⟨Sv,h,_⟩:=HS.out
      obtain ⟨p',c',e,_,_,h⟩:=h.read (R':=kY) zJ (by omega) fun _ _ _ h=>h
      cases e
      exact h
     have HRd:=q8 hRd
     have hsN:xs.length≤140737488355328:=by have:=HXl.out;omega
     clear hRd
     go_wp2_with fail
     clear o1
     go_loopg [12,13] xs.length (fun q s12 s13 wr=>∃(i:Nat) (sb:Bool),i≤xs.length∧q=xs.length - i∧s13 = .int .i64 i∧s12 = .bool sb∧Below wc.heap.size wc wr∧Hid (sb=true→0<xs.length∧∀j (hj:j<xs.length),j<i→xs[j].1=false∧xs[j]=xs[0]))
     case atStart=>exact ⟨0,decide (0<xs.length),by omega,rfl,rfl,rfl,Below.refl _ _,q8 fun h=>⟨of_decide_eq_true h,fun _ _ h=>absurd h (by omega)⟩⟩
     case round=>
      obtain ⟨wi,hwi⟩:∃wi,wi=wr:=⟨_,rfl⟩
      subst hwi
      obtain ⟨i,sb,hi,rfl,rfl,rfl,hb,HSb⟩:=hrel
      have HBi:=q8 hb
      have hzi:=hb.size
      clear hb
      by_cases hli:i<xs.length
      rotate_left
      ·obtain rfl:i=xs.length:=by omega
       obtain rfl:sb=false:=by
        cases sb with
        | false=>rfl
        | true=>
         obtain ⟨h1,h2⟩:=HSb.out rfl
         exact (seen_no HAl.out HXa.out h1 fun j hj=>h2 j hj hj).elim
       go_wp2_with fail
       go_roundg (P.toNat - (p+1))
       case measure=>omega
       case rel=>exact ⟨p+1,by omega,rfl,by go_num,HBq.out.trans ((HBc.out.trans (HBi.out.mono HBc.out.size)).mono HBq.out.size)⟩
      cases sb
      ·go_wp2_with fail
       go_quiet (fail)
       go_wp2_with fail
       go_roundg (xs.length - (i+1))
       case measure=>omega
       case rel=>exact ⟨i+1,false,by omega,rfl,by go_num,rfl,by exact bZ,q8 fun h=>by cases h⟩
      obtain ⟨vb,vo,rfl,a0,a1,_⟩:=Ql HRd.out HBi.out hli
      obtain ⟨vb',vo',he,z0,z1,_⟩:=Ql HRd.out HBi.out (i:=0) (by omega)
      simp only [Option.some.injEq,Addr.mk.injEq,and_true] at he
      obtain ⟨rfl,rfl⟩:=he
      simp only [Nat.zero_mul,Nat.add_zero] at z0 z1
      have hq:=run_eqVal xs[i].1 xs[0].1 xs[i].2 xs[0].2
      obtain ⟨Y,hY⟩:∃Y,Y=xs[i]:=⟨_,rfl⟩
      obtain ⟨Z,hZ⟩:∃Z,Z=xs[0]:=⟨_,rfl⟩
      rw [←hY] at a0 a1 hq
      rw [←hZ] at z0 z1 hq
      have HYe:=q8 hY
      have HZe:=q8 hZ
      have vz:=q9 a0
      have i0:(0:Int)≤(i:Int):=by omega
      have i1:(i:Int)<xs.length:=by omega
      have i2:(0:Int)<xs.length:=by omega
      clear hY hZ
      obtain ⟨Y1,Y2⟩:=Y
      obtain ⟨E,hE⟩:∃E,E=(Y1 == Z.1&&Y2 == Z.2):=⟨_,rfl⟩
      rw [←hE] at hq
      have HE:=q8 hE
      clear hE
      cases Y1
      ·go_wp2_with fail
       go_quiet (fail)
       go_wp2_with fail
       go_roundg (xs.length - (i+1))
       case measure=>omega
       case rel=>
        refine ⟨i+1,E,by omega,rfl,by go_num,rfl,by exact bZ,q8 fun h=>?_⟩
        obtain ⟨h1,h2⟩:=HSb.out (by simp)
        refine ⟨h1,fun j hj hji=>?_⟩
        by_cases e:j=i
        ·subst e
         have h3:=HE.out
         rw [h] at h3
         have h4:=(Bool.and_eq_true _ _).mp h3.symm
         have h5:((false,Y2):Bool×Int)=Z:=Prod.ext (eq_of_beq h4.1) (eq_of_beq h4.2)
         rw [←HYe.out,←HZe.out]
         exact ⟨rfl,h5⟩
        exact h2 j hj (by omega)
      go_wp2_with fail
      go_quiet (fail)
      go_wp2_with fail
      go_roundg (xs.length - (i+1))
      case measure=>omega
      case rel=>exact ⟨i+1,false,by omega,rfl,by go_num,rfl,by exact bZ,q8 fun h=>by cases h⟩
    have hcV:cc<V.length:=by have:=HlV.out;omega
    obtain ⟨fb',fo',qf,cf,he,_,_,_,e3,_,_,_,_,hbl⟩:=jI HF2.out hhL.out hcV
    simp only [Option.some.injEq,Addr.mk.injEq,and_true] at he
    obtain ⟨rfl,rfl⟩:=he
    obtain ⟨f,hf⟩:∃f,f=V[cc]:=⟨_,rfl⟩
    rw [←hf] at e3 hbl
    have hfm:f∈V:=by rw [hf];exact List.getElem_mem hcV
    have hcE:f.blocks.length≤40:=by rw [hf];exact (HV.out.ok.funC hcV).n40
    have HFe:=q8 hf
    have HFm:=q8 hfm
    have HBl:=q8 hbl
    have ez:=q9 e3
    have c0:(0:Int)≤(cc:Int):=by omega
    have c1':(cc:Int)<u.funcs.length:=by omega
    clear hf hfm hbl
    go_wp2_with fail
    clear o1
    go_loopg [7,9] f.blocks.length (fun q s7 s9 wr=>∃(m:Nat) (ys:List (Bool×Int)) (pv:Option Addr) (vc:Nat),m≤f.blocks.length∧q=f.blocks.length - m∧s9 = .int .i64 m∧s7 = .slice pv ys.length vc∧SeenR wq wr pv vc ys∧Hid (ys=xs++(f.blocks.take m).flatMap (seenB k p))∧ys.length≤cc*12000+m*300)
    case atStart=>exact ⟨0,xs,pv,vc,by omega,rfl,rfl,rfl,HS.out,q8 (by rw [List.take_zero,List.flatMap_nil,List.append_nil]),by have:=HXl.out;omega⟩
    case round=>
     obtain ⟨wm,hwm⟩:∃wm,wm=wr:=⟨_,rfl⟩
     subst hwm
     obtain ⟨m,ys,pv,vc,hm,rfl,rfl,rfl,hS,HYs,hyl⟩:=hrel
     have HS:=q8 hS
     have hb:Below wq.heap.size wq wm:=by obtain ⟨_,_,_,h⟩:=hS;exact h
     have HBm:=q8 hb
     have hzm:=hb.size
     have HOm:=q8 ((hb.block _ zx).trans HOq.out)
     have o1:wm.cell? ⟨w2.heap.size,1,none⟩=some (.slice (some ⟨fb,fo,none⟩) u.funcs.length c2):=(blk HOm.out).1 1
     have zo:=qd HOm.out
     have e3m:wm.cell? ⟨fb,fo+cc*4+3,none⟩=some (.slice qf f.blocks.length cf):=(hb.cell (p:=⟨fb,fo+cc*4+3,none⟩) ez).trans e3
     have ezm:=q9 e3m
     have HYl:=q8 hyl
     clear hS hb hyl
     by_cases hlm:m<f.blocks.length
     rotate_left
     ·obtain rfl:m=f.blocks.length:=by omega
      go_wp2_with fail
      go_roundg (u.funcs.length - (cc+1))
      case measure=>omega
      case rel=>
       refine ⟨cc+1,ys,pv,vc,by omega,rfl,by go_num,rfl,HS.out,q8 ?_,by have:=HYl.out;omega⟩
       rw [HYs.out,HXs.out,List.take_length,QS (show cc<V.length by have:=HlV.out;omega),HFe.out]
       rfl
     obtain ⟨bb,bo,q1,d1,q2,d2,q3,d3,rfl,_,b1,_,_,_,_,_,_,_,_,_,_,hli,_⟩:=jH HBl.out (Below.refl _ _) hlm
     obtain ⟨x,hx⟩:∃x,x=f.blocks[m]:=⟨_,rfl⟩
     rw [←hx] at b1 hli
     have hxm:x∈f.blocks:=by rw [hx];exact List.getElem_mem hlm
     have hkf:x.list.length≤300:=HSm.out f HFm.out x hxm
     have HXe:=q8 hx
     have HXm:=q8 hxm
     have HLi:=q8 hli
     have b1m:wm.cell? ⟨bb,bo+m*6+1,none⟩=some (.slice q2 x.list.length d2):=(HBm.out.cell (p:=⟨bb,bo+m*6+1,none⟩) (q9 b1)).trans b1
     have bz:=q9 b1m
     have m0:(0:Int)≤(m:Int):=by omega
     have m1:(m:Int)<f.blocks.length:=by omega
     clear hx hxm hli b1
     go_wp2_with fail
     clear o1 e3m b1m
     go_loopg [7,11] x.list.length (fun q s7 s11 wr=>∃(i:Nat) (zs:List (Bool×Int)) (pv:Option Addr) (vc:Nat),i≤x.list.length∧q=x.list.length - i∧s11 = .int .i64 i∧s7 = .slice pv zs.length vc∧SeenR wq wr pv vc zs∧Hid (zs=ys++(x.list.take i).flatMap (Z3 k p))∧zs.length≤cc*12000+m*300+i)
     case atStart=>exact ⟨0,ys,pv,vc,by omega,rfl,rfl,rfl,HS.out,q8 (by rw [List.take_zero,List.flatMap_nil,List.append_nil]),by have:=HYl.out;omega⟩
     case round=>
      obtain ⟨wi,hwi⟩:∃wi,wi=wr:=⟨_,rfl⟩
      subst hwi
      obtain ⟨i,zs,pv,vc,hi,rfl,rfl,rfl,hS,HZs,hzl⟩:=hrel
      have HS:=q8 hS
      have hb:Below wq.heap.size wq wi:=by obtain ⟨_,_,_,h⟩:=hS;exact h
      have HBi:=q8 hb
      have hzi:=hb.size
      have HZl:=q8 hzl
      clear hS hb hzl
      by_cases hli:i<x.list.length
      rotate_left
      ·obtain rfl:i=x.list.length:=by omega
       go_wp2_with fail
       go_roundg (f.blocks.length - (m+1))
       case measure=>omega
       case rel=>
        refine ⟨m+1,zs,pv,vc,by omega,rfl,by go_num,rfl,HS.out,q8 ?_,by have:=HZl.out;omega⟩
        rw [HZs.out,HYs.out,List.take_length,QS hlm,List.append_assoc,HXe.out]
        rfl
      obtain ⟨ib,io,qa,ca,rfl,n0,_,_,_,_,_,n6,n7,_,_,_,_,_,_,hsr⟩:=Xa HLi.out HBi.out hli
      obtain ⟨y,hy⟩:∃y,y=x.list[i]:=⟨_,rfl⟩
      rw [←hy] at n0 n6 n7 hsr
      have hst:(x.list.take (i+1)).flatMap (Z3 k p)=(x.list.take i).flatMap (Z3 k p)++Z3 k p y:=by rw [hy];exact QS hli
      have hym:y∈x.list:=by rw [hy];exact List.getElem_mem hli
      have HSt:=q8 hst
      have HYm:=q8 hym
      have HSr:=q8 hsr
      have nz:=q9 n0
      have i0:(0:Int)≤(i:Int):=by omega
      have i1:(i:Int)<x.list.length:=by omega
      clear hy hst hym hsr
      by_cases h20:y.op=20
      rotate_left
      ·have hqS:(y.op == 20)=false:=by simp [h20]
       have HSy:=q8 (Vp (k:=k) (p:=p) (x:=y) (fun h=>h20 h.1))
       clear h20
       go_wp2_with fail
       go_roundg (x.list.length - (i+1))
       case measure=>omega
       case rel=>exact ⟨i+1,zs,pv,vc,by omega,rfl,by go_num,rfl,HS.out,q8 (by rw [HSt.out,HSy.out,List.append_nil];exact HZs.out),by have:=HZl.out;omega⟩
      have hqS:(y.op == 20)=true:=by simp [h20]
      by_cases hfn:y.fn=(k:Int)
      rotate_left
      ·have hqT:(y.fn == (k:Int))=false:=by simp [hfn]
       have HSy:=q8 (Vp (p:=p) (x:=y) (fun h=>hfn h.2))
       clear h20 hfn
       go_wp2_with fail
       go_roundg (x.list.length - (i+1))
       case measure=>omega
       case rel=>exact ⟨i+1,zs,pv,vc,by omega,rfl,by go_num,rfl,HS.out,q8 (by rw [HSt.out,HSy.out,List.append_nil];exact HZs.out),by have:=HZl.out;omega⟩
      have hqT:(y.fn == (k:Int))=true:=by simp [hfn]
      have hpl:=hbh.out f HFm.out x HXm.out y HYm.out h20 hfn
      have hdp:decide ((p:Int)<y.args.length)=true:=decide_eq_true (by omega)
      have HSy:=q8 (seenI_yes (k:=k) (p:=p) ⟨h20,hfn⟩ hpl)
      obtain ⟨ab,ao,rfl,a0,a1,hkv⟩:=Ql HSr.out (Below.refl _ _) hpl
      obtain ⟨Y,hY⟩:∃Y,Y=y.args[p]:=⟨_,rfl⟩
      rw [←hY] at a0 a1 hkv
      have HYe:=q8 hY
      have hiS:=q8 hkv
      have az:=q9 a0
      have p0:(0:Int)≤(p:Int):=by omega
      have p1':(p:Int)<y.args.length:=by omega
      have hsn:∃Sv,SlO 44 2 vM wi (.slice pv zs.length vc) zs Sv∧(∀g,Sv g→wq.heap.size≤g)∧Below wq.heap.size wq wi:=HS.out
      obtain ⟨Sv,hSv,hLv,hBv⟩:=hsn
      have HSv:=q8 hSv
      have HLv:=q8 hLv
      have HBd:=q8 (seen_bd HZl.out hlc hqR hlm hcE hli hkf)
      clear h20 hfn hY hkv hSv hLv hBv
      go_wp2_with (at_builtin;refine zw _ rfl _ _ 40 rfl 44 iV _ 2 16 Tryz.underlying40 r1 r2 r3 r4 rfl (by decide) zJ rfl (HSv.out.below zJ ((Below.refl _ wi).alloc (Nat.le_refl _) _)) ⟨wi.heap.size,0,none⟩ 1 [.bool Y.1,.int .i64 Y.2] Y rfl rfl ?hn ?ho (T:=fun _=>False) ⟨rfl,hiS.out⟩ ?ha ?ht ?hm ?hb ?_)
      case hn=>exact xt _ _ _ (by simp)
      case ho=>intro u hu;simp only [List.mem_cons,List.not_mem_nil,or_false] at hu;rcases hu with rfl|rfl<;>rfl
      case ha=>exact fun k h1 h2=>h2
      case ht=>exact fun k h=>h.elim
      case hm=>exact (HBd.out).1
      case hb=>exact (HBd.out).2
      intro v' w' hsn
      obtain ⟨pv',vc',rfl,hS2⟩:=SeenR.snoc HLv.out HBi.out hsn
      have HS2:=q8 hS2
      clear hsn hS2
      go_wp2_with fail
      go_roundg (x.list.length - (i+1))
      case measure=>omega
      case rel=>exact ⟨i+1,zs++[Y],pv',vc',by omega,rfl,by go_num,rfl,HS2.out,q8 (by rw [HSt.out,HSy.out,←HYe.out,←List.append_assoc,←HZs.out]),by rw [List.length_append];exact Nat.succ_le_succ HZl.out⟩
end Go.Proofs.YtgjjhadbjmcnpaaGreatDoor
