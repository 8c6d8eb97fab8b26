/-
  The contract of dom.TreeOf.
-/
import Derived.Test.YtbnnhmcloecijaaGreatDoorJDomD
set_option maxRecDepth 100000
set_option maxHeartbeats 16000000
namespace Go.Proofs.YtbnnhmcloecijaaGreatDoor
open Go.RowKit Go.Shelf

theorem mI {g n c:Nat} (h1:1≤n) (h2:n≤c):∃p,(1<n→p=some ⟨g,1,none⟩)∧∀w,(Instr.sliceAt 41 (.slice (some ⟨g,0,none⟩) n c) (some (.int .i64 1)) none none).run Tryz.prog w = .ok (.slice p (n - 1) (c - 1)) w:=by
 refine ⟨if c=1 then some ⟨g,0,none⟩ else some ⟨g,1,none⟩,fun h=>by rw [zQ (by omega)],fun w=>?_⟩
 have he:Tryz.prog.underlying 41=some (.slice (Tryz.prog.elem 41)):=by kernel_rfl
 have hs:∀w,(sizeOf (Tryz.prog.elem 41)).run Tryz.prog w = .ok 1 w:=by intro w;kernel_rfl
 rw [run_sliceAt_slice (h:=he),run_slice_l (ht:=he) (h0:=by omega) (h1:=by omega),hs]
 simp only [Result.andThen_ok,sliced]
 by_cases hc:c=1
 ·simp [hc]
 simp [hc,kv]
theorem Zq {f:FunL} {w w':World} {fp:Option Addr} (hF:SliceAt w 6 (BlkR w) fp f.blocks) (hn:0<f.blocks.length) (hb:Below w.heap.size w w'):∃bb bo,fp=some ⟨bb,bo,none⟩∧∀i,i<f.blocks.length→V4 w' bb bo i ((Qh f).getD i []):=by
 rcases hF with h|⟨b,o,rfl,h⟩
 ·rw [h] at hn;simp at hn
 exact ⟨b,o,rfl,fun i hi=>Qw (.inr ⟨b,o,rfl,h⟩) hb i hi⟩

theorem J5 (f:FunL) (fp:Option Addr) (fc:Nat) (w:World) (hS:FunS f) (hF:SliceAt w 6 (BlkR w) fp f.blocks) :
  Calls Tryz.prog 53 #[.agg #[.string f.name,.int .i64 f.params,.int .i64 f.regs,.slice fp f.blocks.length fc]] w fun e w'=>(∃U,e = .returned (.slice (some ⟨U,0,none⟩) f.blocks.length f.blocks.length)∧w.heap.size≤U∧
   w'.rowIs U 3 f.blocks.length (fun c=>.int .i64 (km (Zt (insN f) (zq f.blocks)) 0 (-1) c)))∧Below w.heap.size w w':=by
 obtain ⟨bb,bo,rfl,_⟩:=Zq hF hS.n1 (zI _ _)
 have HF:=q7 hF
 have HS:=q7 hS
 have n1:=hS.n1
 have n40:=hS.n40
 obtain ⟨i1,k1,k2,k3,k4⟩:=info_parts K5
 have hmk:=run_make_row 41 3 i1 (.int .i64 0) ZK k1 k2 k3 rfl .i64 .i64 f.blocks.length (by rw [k4];omega) (by omega)
 clear hF hS
 go_enter Tryz.func53,Tryz.ntmps53
 have hhU:=HS.out.ord
 have hlen:=HS.out.ordLen
 obtain ⟨o,ho⟩:∃o,o=zq f.blocks:=⟨_,rfl⟩
 rw [←ho] at hhU hlen ⊢
 obtain ⟨ins,hi⟩:∃ins,ins=insN f:=⟨_,rfl⟩
 rw [←hi]
 have HI:=q7 hi
 have hl0:=hhU.pos
 have hdx:=q7 hhU
 clear hi ho hhU
 go_wp2_with fail
 refine (Qm f _ fc _ n1 (by omega) HS.out.two HS.out.tosB (jN HF.out bZ) HS.out.postLen).mono ?_
 rintro e w1 ⟨v,rfl,hO,hb1⟩
 rw [hdx.out.ints,yT] at hO
 obtain ⟨p,c,rfl⟩:=xW hO
 obtain ⟨g,rfl,hg1,hg2,_⟩:=jO hO hl0
 have hOc:∀i (h:i<o.length),w1.cell? ⟨g,i,none⟩=some (.int .i64 (o[i]:Nat)):=fun i h=>by
  obtain ⟨g',e1,_,_,hc⟩:=jO hO h
  cases e1
  rw [hc]
  simp [h]
 have hcap:o.length≤c:=by
  rcases hO.2 with ⟨h1,_⟩|⟨_,_,_,h1,_,_,h2,_⟩
  ·cases h1
  cases h1;exact h2
 have HOc:=q7 hOc
 have HB1:Hid (Below w.heap.size w w1):=yo bZ (hb1.mono (by simp))
 have hA:=qj hb1 (k:=w.heap.size) (by simp) (qn w _)
 obtain ⟨hcc,hcf⟩:=blk hA
 have z1:=q8 hA
 have hg0:w.heap.size+1≤g:=by simpa using hg1
 have HA:=q7 hA
 clear hb1 hO hOc hg1 hA
 go_wp2_with fail
 refine (QT (w1.heap.size+1) 0 1 (-1) f.blocks.length _ (by omega) (fun j hj=>by
  obtain rfl:j=0:=by omega
  exact (blk (qh (w:=w1.alloc (.cells (madeCells #[.int .i64 0] f.blocks.length) 3)) (o:=.cells #[.int .i64 (-1)] 3) (by simp))).1 0)).mono ?_
 rintro e w2 ⟨rfl,hU,hb2⟩
 have eU:((w1.alloc (.cells (madeCells #[.int .i64 0] f.blocks.length) 3)).alloc (.cells #[.int .i64 (-1)] 3)).heap.size=w1.heap.size+1+1:=by simp
 rw [eU] at hU hb2 ⊢
 have hhl:Below w1.heap.size w1 w2:=yo bZ (hb2.mono (by omega))
 have HB2:Hid (Below w.heap.size w w2):=HB1.out.trans (hhl.mono HB1.out.size)
 have hAt:w2.rowIs w1.heap.size 3 f.blocks.length (fun j=>.int .i64 (plK o 0 j:Nat)):=by
  refine (((World.rowIs_made w1 (.int .i64 0) f.blocks.length 3).alloc (.cells #[.int .i64 (-1)] 3)).of_block (hb2.block _ (by omega))).congr fun j _=>by rw [plK_zero];rfl
 have hkL:Hid (∀i (h:i<o.length),w2.cell? ⟨g,i,none⟩=some (.int .i64 (o[i]:Nat))):=q7 fun i h=>(hhl.cell (p:=⟨g,i,none⟩) hg2).trans (HOc.out i h)
 have HA2:=q7 (qj hhl (k:=w.heap.size) z1 HA.out)
 have HU:=q7 hU
 have HAt:=q7 hAt
 have hz2:w1.heap.size+1+1<w2.heap.size:=hU.lt
 have hi8:=q7 hhl
 clear hhl hb2 hU hAt HOc HA hcc hcf hmk
 go_wp2_with fail
 go_loopg [28] o.length (fun q i wr=>∃k:Nat,k≤o.length∧q=o.length - k∧i = .int .i64 k∧wr.rowIs w1.heap.size 3 f.blocks.length (fun j=>.int .i64 (plK o k j:Nat))∧Kept (fun b=>b=w1.heap.size) w2 wr)
 case atStart=>exact ⟨0,by omega,rfl,rfl,HAt.out,Kept.refl _ _⟩
 case round=>
  obtain ⟨k,hk,rfl,rfl,hR,hK⟩:=hrel
  have HR:=q7 hR
  have HK:=q7 hK
  clear hR hK
  by_cases hlt:k<o.length
  ·have c1:wr.cell? ⟨g,k,none⟩=some (.int .i64 (o[k]:Nat)):=(HK.out.cell (p:=⟨g,k,none⟩) (by show g<_;omega) (by show ¬ g=_;omega)).trans (hkL.out k hlt)
   have hin:o[k]<f.blocks.length:=hdx.out.inb _ (zP hlt)
   have c2:=HR.out.cell hin
   have c3:=HR.out.frozen o[k]
   have HSu:=q7 (plK_succ hdx.out.once hlt)
   generalize o[k]=ok at *
   go_wp2_with fail
   go_roundg (o.length - (k+1))
   case measure=>omega
   case rel=>exact ⟨k+1,by omega,rfl,by go_num,(HR.out.set ok (.int .i64 (k:Nat))).congr fun j _=>by
    rw [HSu.out j]
    split<;>rfl,HK.out.setCell rfl _⟩
  obtain rfl:k=o.length:=by omega
  clear HAt
  have hRn:wr.rowIs w1.heap.size 3 f.blocks.length (fun j=>.int .i64 (plN o j:Nat)):=HR.out.congr fun j _=>by rw [plK_full]
  have hU2:wr.rowIs (w1.heap.size+1+1) 3 f.blocks.length (fun _=>.int .i64 (-1)):=HU.out.of_block (HK.out.block _ (by omega) (by omega))
  have c0:=hU2.cell n1
  have c0f:=hU2.frozen 0
  have HA3:=q7 ((HK.out.block w.heap.size (by omega) (by omega)).trans HA2.out)
  obtain ⟨hcc,hcf⟩:=blk HA3.out
  have z3:w1.heap.size+1+1<wr.heap.size:=hU2.lt
  have z0:w.heap.size<wr.heap.size:=q8 HA3.out
  have zne:¬ (w1.heap.size+1+1=w.heap.size):=by omega
  have HRn:=q7 hRn
  have HU2:=q7 hU2
  clear hRn hU2 HR
  go_wp2_with fail
  obtain ⟨W3,hW3⟩:∃W3,W3=wr.setCell ⟨w1.heap.size+1+1,0,none⟩ (.int .i64 0):=⟨_,rfl⟩
  rw [←hW3]
  have hK3:Kept (fun b=>b=w1.heap.size∨b=w1.heap.size+1+1) w2 W3:=by
   rw [hW3]
   exact (HK.out.mono fun _ _ h=>.inl h).setCell (.inr rfl) _
  have hU3:W3.rowIs (w1.heap.size+1+1) 3 f.blocks.length (fun j=>.int .i64 (Zs j)):=by
   rw [hW3]
   refine (HU2.out.set 0 (.int .i64 0)).congr fun j _=>?_
   unfold Zs
   split<;>rfl
  have hA3:W3.rowIs w1.heap.size 3 f.blocks.length (fun j=>.int .i64 (plN o j:Nat)):=by
   rw [hW3]
   exact HRn.out.setOther (by show w1.heap.size≠w1.heap.size+1+1;omega) _
  have HB3:Hid (Below w.heap.size w W3):=q7 (HB2.out.trans (hK3.below (by omega) fun i hi=>by have:=HB1.out.size;omega))
  have hoP:Hid (∀i (h:i<o.length),W3.cell? ⟨g,i,none⟩=some (.int .i64 (o[i]:Nat))):=q7 fun i h=>(hK3.cell (p:=⟨g,i,none⟩) (by show g<_;omega) (by show ¬ (g=_∨g=_);omega)).trans (hkL.out i h)
  have z5:w1.heap.size+1+1<W3.heap.size:=hU3.lt
  have HU3:=q7 hU3
  have hoQ:=q7 hA3
  have zW:w.heap.size<W3.heap.size:=by omega
  clear hW3 hK3 hU3 hA3 HRn HU2 hkL HA2 HU hcc hcf c0 c0f HK HA3
  refine (j7 f.name f.params f.regs bb bo fc f.blocks.length (Qh f) W3 n40 (fun i hi=>Qw HF.out HB3.out i hi) HS.out.tosD).mono ?_
  rintro e w4 ⟨⟨tf,rfl,haa⟩,hb4⟩
  have hrw:∀c,c<f.blocks.length→∃q qc,w4.cell? ⟨W3.heap.size+1,c,none⟩=some (.slice q (ins c).length qc)∧∀j (h:j<(ins c).length),∃b,q=some ⟨b,0,none⟩∧w1.heap.size+1+1<b∧b<w4.heap.size∧w4.cell? ⟨b,j,none⟩=some (.int .i64 ((ins c)[j]:Nat)):=fun c hc=>by
   have h1:=haa.row c hc
   have h2:=haa.tab.cell hc
   have eI:qU (qQ (Qh f) f.blocks.length) c=ins c:=by rw [HI.out];rfl
   rw [eI] at h1
   obtain ⟨q,qc,hq⟩:=xW h1
   refine ⟨q,qc,by rw [h2,hq],fun j hj=>?_⟩
   rw [hq] at h1
   obtain ⟨b,e1,e2,e3,e4⟩:=jO h1 hj
   exact ⟨b,e1,by omega,e3,by rw [e4];simp [hj]⟩
  have hdO:Hid (∀W',Kept (fun b=>b=w1.heap.size+1+1) w4 W'→(∀i (h:i<o.length),W'.cell? ⟨g,i,none⟩=some (.int .i64 (o[i]:Nat)))∧W'.rowIs w1.heap.size 3 f.blocks.length (fun j=>.int .i64 (plN o j:Nat))∧
    (∀c,c<f.blocks.length→∃q qc,W'.cell? ⟨W3.heap.size+1,c,none⟩=some (.slice q (ins c).length qc)∧∀j (h:j<(ins c).length),∃b,q=some ⟨b,0,none⟩∧W'.cell? ⟨b,j,none⟩=some (.int .i64 ((ins c)[j]:Nat)))):=q7 fun W' hK'=>by
   have hvr:=hb4.size
   refine ⟨fun i h=>(hK'.cell (p:=⟨g,i,none⟩) (by show g<_;omega) (by show ¬ g=_;omega)).trans ((hb4.cell (p:=⟨g,i,none⟩) (by show g<_;omega)).trans (hoP.out i h)),hoQ.out.of_block ((hK'.block _ (by omega) (by omega)).trans (hb4.block _ (by omega))),fun c hc=>?_⟩
   obtain ⟨q,qc,h1,h2⟩:=hrw c hc
   have:=haa.tab.lt
   refine ⟨q,qc,(hK'.cell (p:=⟨W3.heap.size+1,c,none⟩) this (by show ¬ (W3.heap.size+1=_);omega)).trans h1,fun j hj=>?_⟩
   obtain ⟨b,e1,e2,e3,e4⟩:=h2 j hj
   exact ⟨b,e1,(hK'.cell (p:=⟨b,j,none⟩) e3 (by show ¬ b=_;omega)).trans e4⟩
  have HU4:=q7 (HU3.out.of_block (hb4.block _ z5))
  have HB4:Hid (Below w.heap.size w w4):=HB3.out.trans (hb4.mono (by omega))
  have z6:w1.heap.size+1+1<w4.heap.size:=by have:=hb4.size;omega
  clear haa hrw hb4 HU3 hoQ hoP HB3
  go_wp2_with fail
  have hstart:=TreeL.start hdx.out (ins:=ins) (fun b c hb h=>by rw [HI.out];exact Vl b c hb h) n1
  go_loopg [9] (kj (plN o) o.length o Zs+1) (fun q m wr=>∃(b:Bool) (u:Nat→Int),m = .bool b∧wr.rowIs (w1.heap.size+1+1) 3 f.blocks.length (fun j=>.int .i64 (u j))∧Kept (fun b=>b=w1.heap.size+1+1) w4 wr∧(b=true→TreeL f.blocks o ins u q)∧(b=false→u=Zt ins o∧q=0))
  case atStart=>exact ⟨true,Zs,rfl,HU4.out,Kept.refl _ _,fun _=>hstart,fun h=>by cases h⟩
  case round=>
   obtain ⟨b,u,rfl,hR,hK,ht,hf⟩:=hrel
   have HR:=q7 hR
   have HK:=q7 hK
   clear hR hK HU4 hstart
   cases b with
   | false=>
    obtain ⟨rfl,rfl⟩:=hf rfl
    have c0:=HR.out.cell n1
    have c0f:=HR.out.frozen 0
    clear ht hf
    go_wp2_with fail
    go_ret
    refine ⟨⟨w1.heap.size+1+1,rfl,by have:=HB1.out.size;omega,(HR.out.set 0 (.int .i64 (-1))).congr fun j _=>?_⟩,?_⟩
    ·unfold km
     split<;>rfl
    exact (HB4.out.trans (HK.out.below (by omega) fun i hi=>by have:=HB1.out.size;omega)).setCell (by show w.heap.size≤w1.heap.size+1+1;have:=HB1.out.size;omega) _
   | true=>
    obtain ⟨kr,rfl⟩:∃k,gk=k+1:=⟨gk - 1,by have:=(ht rfl).fuel;omega⟩
    have HL:=q7 (ht rfl)
    clear ht hf
    obtain ⟨p1,hp1,hsl⟩:=mI (g:=g) hl0 hcap
    have HP1:=q7 hp1
    clear hp1
    have hl1:((o.length - 1:Nat):Int)≤1000:=by omega
    go_wp2_with fail
    obtain ⟨wo,rfl⟩:∃wo:World,wo=wr:=⟨_,rfl⟩
    clear hsl
    go_loopg [46,9] (o.length - 1) (fun q s46 s9 wr=>∃i:Nat,i+1≤o.length∧q=o.length - 1 - i∧s46 = .int .i64 i∧s9 = .bool (kx (plN o) ins o u (i+1))∧wr.rowIs (w1.heap.size+1+1) 3 f.blocks.length (fun j=>.int .i64 (z7 (plN o) ins o u (i+1) j))∧Kept (fun b=>b=w1.heap.size+1+1) w4 wr)
    case atStart=>exact ⟨0,by omega,by omega,rfl,rfl,HR.out,HK.out⟩
    case round=>
     clear HR HK
     obtain ⟨i,hi,rfl,rfl,rfl,hR,hK⟩:=hrel
     have HK:=q7 hK
     clear hK
     by_cases hlt:i+1<o.length
     rotate_left
     ·have hil:i+1=o.length:=by omega
      rw [hil] at hR ⊢
      obtain ⟨mo,hmo⟩:∃mo,mo=kx (plN o) ins o u o.length:=⟨_,rfl⟩
      rw [←hmo]
      have HR:=q7 hR
      clear hR
      cases mo with
      | true=>
       have HN:=q7 (HL.out.next hdx.out hmo.symm)
       clear hmo
       go_wp2_with fail
       go_roundg kr
       case measure=>omega
       case rel=>exact ⟨true,_,rfl,HR.out,HK.out,fun _=>HN.out,fun h=>by cases h⟩
      | false=>
       have HN:=q7 (HL.out.last hdx.out hmo.symm)
       clear hmo
       go_wp2_with fail
       go_roundg 0
       case measure=>omega
       case rel=>exact ⟨false,_,rfl,HR.out,HK.out,(fun h=>by cases h),fun _=>⟨HN.out.1.trans HN.out.2.1,rfl⟩⟩
     obtain ⟨par,hJ0⟩:=HL.out.inv
     have hJ:=(hdx.out.round hJ0 i hi).1
     obtain ⟨hgd,hin,hpl,hne0,hcn⟩:=hdx.out.getD hlt
     have hms:=kR (plN o) ins o u i
     have hrs:=k6 (plN o) ins o u i
     rw [hgd] at hms hrs
     obtain ⟨hc1,_,hrw⟩:=hdO.out wr HK.out
     have c1:=hc1 (i+1) hlt
     obtain ⟨q0,q1,c2,c3⟩:=hrw o[i+1] hcn
     obtain ⟨v,hv⟩:∃v,v=z7 (plN o) ins o u (i+1):=⟨_,rfl⟩
     obtain ⟨mo,hmo⟩:∃mo,mo=kx (plN o) ins o u (i+1):=⟨_,rfl⟩
     rw [←hv] at hJ hms hrs hR
     rw [←hmo] at hms ⊢
     have HMS:=q7 hms
     have HRS:=q7 hrs
     have HJ:=q7 hJ
     have HR:=q7 hR
     have HX:=q7 (zh hin (zh hpl hne0))
     have HC3:=q7 c3
     have hp1:=HP1.out (by omega)
     subst hp1
     clear hms hrs hJ hR hgd hin hpl hne0 hrw hc1 hv hmo hJ0 c3
     generalize o[i+1]=b at *
     have hil:((ins b).length:Int)≤80:=by
      have:=ZA HS.out b
      rw [HI.out];omega
     generalize hrow:ins b=row at *
     have hda:=q7 hrow
     clear hrow
     have hcell:wr.cell? ⟨g,1+i,none⟩=some (.int .i64 (b:Nat)):=by rw [Nat.add_comm];exact c1
     clear c1
     go_wp2_with fail
     obtain ⟨wa,rfl⟩:∃wa:World,wa=wr:=⟨_,rfl⟩
     have zU:=HR.out.lt
     go_loopg [55,12] row.length (fun q s55 s12 wr=>∃(j:Nat) (bi:Int),j≤row.length∧q=row.length - j∧s55 = .int .i64 j∧s12 = .int .i64 bi∧bi=(row.take j).foldl (jq v (plN o)) (-1)∧-1≤bi∧(0≤bi→mkN v bi.toNat)∧Below wa.heap.size wa wr)
     case atStart=>exact ⟨0,-1,by omega,rfl,rfl,rfl,rfl,by omega,fun h=>by omega,zI _ _⟩
     case round=>
      clear hcell c2
      obtain ⟨j,bi,hj,rfl,rfl,rfl,hbi,hb1,hb2,hbl⟩:=hrel
      have HBl:=q7 hbl
      have HBi:=q7 hbi
      have hoR:=q7 hb2
      have HKr:Hid (Kept (fun b=>b=w1.heap.size+1+1) w4 wr):=q7 (HK.out.trans (Kept.of_below (S:=fun _=>False) hbl) (fun _ _ h=>h.elim))
      have hR:=HR.out.of_block (hbl.block _ zU)
      clear hbl hbi hb2
      by_cases hjl:j<row.length
      rotate_left
      ·obtain rfl:j=row.length:=by omega
       rw [yP] at HBi
       have hbe:vm v (plN o) row=bi:=HBi.out.symm
       have hms:=HMS.out
       have hrs:=HRS.out
       rw [hbe] at hms hrs
       have cu:=hR.cell hcn
       have cuf:=hR.frozen b
       have HR2:=q7 hR
       have hoS:=q7 hms
       have hoT:=q7 hrs
       clear hR hms hrs hbe
       by_cases hvb:v b=bi
       ·have HV:=q7 hvb
        clear hvb
        have hvb:v b=bi:=HV.out
        go_wp2_with fail
        go_roundg (o.length - 1 - (i+1))
        case measure=>omega
        case rel=>exact ⟨i+1,by omega,rfl,by go_num,by rw [hoS.out,HV.out];simp,HR2.out.congr fun c _=>by
         rw [hoT.out,←HV.out,X0],HKr.out⟩
       go_wp2_with fail
       go_roundg (o.length - 1 - (i+1))
       case measure=>omega
       case rel=>exact ⟨i+1,by omega,rfl,by go_num,by rw [hoS.out];simp [hvb],(HR2.out.set b (.int .i64 bi)).congr fun c _=>by
        rw [hoT.out]
        unfold km
        split<;>rfl,HKr.out.setCell rfl _⟩
      obtain ⟨b0,hq0,_⟩:=HC3.out j hjl
      subst hq0
      obtain ⟨_,hA,hrw⟩:=hdO.out wr HKr.out
      obtain ⟨b0',e1,cp⟩:=HC3.out j hjl
      cases e1
      have cp2:wr.cell? ⟨b0,j,none⟩=some (.int .i64 (row[j]:Nat)):=(HBl.out.cell (p:=⟨b0,j,none⟩) (qd cp)).trans cp
      have hpn:row[j]<f.blocks.length:=Vk (f:=f) (c:=b) ((congrArg (fun l=>row[j]∈l) (hda.out.symm.trans (congrFun HI.out b))).mp (zP hjl))
      have hbs:(row.take (j+1)).foldl (jq v (plN o)) (-1)=jq v (plN o) bi row[j]:=by
       rw [yA hjl,yh,HBi.out];rfl
      have HBS:=q7 hbs
      have cu:=hR.cell hpn
      have HT2:Hid (TreeW wr (w1.heap.size+1+1) w1.heap.size f.blocks.length 3 v (plN o)):=q7 ⟨hR,hA⟩
      clear hrw cp hbs hA hR
      generalize row[j]=pp at *
      have hst:=HJ.out.toDomI.step_mk (p:=pp) hb1 hoR.out
      obtain ⟨r,hr⟩:∃r,r=jq v (plN o) bi pp:=⟨_,rfl⟩
      rw [←hr] at hst
      have hkM:Hid ((row.take (j+1)).foldl (jq v (plN o)) (-1)=r):=q7 (HBS.out.trans hr.symm)
      have HST:=q7 hst
      clear HBS hst
      by_cases hv0:v pp<0
      ·have e:r=bi:=by rw [hr];unfold jq;rw [zZ hv0]
       subst e
       clear hr
       go_wp2_with fail
       go_roundg (row.length - (j+1))
       case measure=>omega
       case rel=>exact ⟨j+1,r,by omega,rfl,by go_num,rfl,hkM.out.symm,HST.out.1,HST.out.2,HBl.out⟩
      by_cases hoU:bi<0
      ·have e:r=(pp:Int):=by rw [hr];unfold jq;rw [zQ hv0,zZ hoU]
       subst e
       clear hr
       go_wp2_with fail
       go_roundg (row.length - (j+1))
       case measure=>omega
       case rel=>exact ⟨j+1,pp,by omega,rfl,by go_num,rfl,hkM.out.symm,HST.out.1,HST.out.2,HBl.out⟩
      obtain ⟨bn,rfl⟩:∃bn:Nat,bi=bn:=⟨bi.toNat,by omega⟩
      have e:r=((Q3 (upN v) (plN o) (plN o bn+plN o pp+1) bn pp:Nat):Int):=by
       rw [hr];unfold jq;rw [zQ hv0,zQ hoU];rfl
      have HE:=q7 e
      have hm1:mkN v bn:=by simpa using hoR.out (by omega)
      have hm2:mkN v pp:=by unfold mkN;omega
      have HM1:=q7 hm1
      have HM2:=q7 hm2
      clear hr e hm1 hm2
      go_wp2_with fail
      refine (meet_any HT2.out HJ.out.toDomI hdx.out.inb bn pp HM1.out HM2.out).mono ?_
      rintro e w5 ⟨rfl,hb5⟩
      rw [←HE.out]
      have HB5:Hid (Below wa.heap.size wa w5):=q7 (HBl.out.trans (hb5.mono HBl.out.size))
      clear hb5
      go_wp2_with fail
      go_roundg (row.length - (j+1))
      case measure=>omega
      case rel=>exact ⟨j+1,r,by omega,rfl,by go_num,rfl,hkM.out.symm,HST.out.1,HST.out.2,HB5.out⟩
end Go.Proofs.YtbnnhmcloecijaaGreatDoor
