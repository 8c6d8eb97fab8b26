/-
  The listed variable code.ways: what the row's condition gives the walks; the door's own he
-/
import Derived.Test.YtgjjhadbjmcnpaaGreatDoorJSamC
import Derived.LaidMore
import Derived.OpenShut
import Derived.Stop.Joined
import Derived.LaidHandle
set_option maxRecDepth 100000
set_option maxHeartbeats 16000000
namespace Go.Proofs.YtgjjhadbjmcnpaaGreatDoor
open Go.RowKit

def rdB (r:Int) (b:BlkL):Bool:=isV r (b.fin.onr,b.fin.onn) || (b.phis.any (tkP r) || b.list.any (tkI r))
theorem tkF_rd (r:Int) (f:FunL):tkF r f=f.blocks.any (rdB r):=by
 unfold tkF
 generalize f.blocks=l
 induction l with
 | nil=>rfl
 | cons b l ih=>
  simp only [List.any_cons]
  rw [←ih]
  unfold rdB tkB
  generalize b.list.any (tkI r)=a1
  generalize l.any _=a2
  generalize isV r _=a3
  generalize b.phis.any _=a4
  generalize l.any _=a5
  cases a1<;>cases a2<;>cases a3<;>cases a4<;>cases a5<;>rfl

theorem xX (r n:Int) (b:Bool) (w:World) :
  Calls Tryz.prog 41 #[.agg #[.bool b,.int .i64 n],.int .i64 r] w fun e w'=>e = .returned (.bool (isV r (b,n)))∧Below w.heap.size w w':=by
 cases b
 ·go_enter Tryz.func41,Tryz.ntmps41
  go_wp2
  go_ret
  exact ⟨rfl,by exact bZ⟩
 go_enter Tryz.func41,Tryz.ntmps41
 go_wp2
 go_ret
 exact ⟨rfl,by exact bZ⟩

theorem K0 (f:FunL) (r:Int) (bp:Option Addr) (bc:Nat) (w:World) (hl0:f.blocks.length*96≤140737488351232) (hB:SliceAt w 6 (BlkR w) bp f.blocks) :
  Calls Tryz.prog 16 #[.agg #[.string f.name,.int .i64 f.params,.int .i64 f.regs,.slice bp f.blocks.length bc],.int .i64 r] w fun e w'=>e = .returned (.bool (tkF r f))∧Below w.heap.size w w':=by
 have HT:Hid (∀k (hk:k<f.blocks.length),rdB r f.blocks[k]=true→tkF r f=true):=q8 fun k hk h=>by rw [tkF_rd];exact jn hk h
 have HN:Hid ((∀k (hk:k<f.blocks.length),rdB r f.blocks[k]=false)→tkF r f=false):=q8 fun h=>by rw [tkF_rd];exact xN h
 have HF:=q8 hB
 clear hB
 go_enter Tryz.func16,Tryz.ntmps16
 go_wp2_with fail
 obtain ⟨W0,hW0⟩:∃W0,W0=w.alloc (.cells #[.string f.name,.int .i64 f.params,.int .i64 f.regs,.slice bp f.blocks.length bc] 38):=⟨_,rfl⟩
 rw [←hW0]
 have hz0:W0.heap.size=w.heap.size+1:=by rw [hW0];simp
 have HB0:Hid (Below w.heap.size w W0):=q8 (by rw [hW0];exact bZ)
 have HA:Hid (W0.heap[w.heap.size]?=some (.cells #[.string f.name,.int .i64 f.params,.int .i64 f.regs,.slice bp f.blocks.length bc] 38 (0,0))):=q8 (by rw [hW0];exact qq rfl)
 clear hW0
 go_loopg [5] f.blocks.length (fun q s wr=>∃k:Nat,k≤f.blocks.length∧q=f.blocks.length - k∧s = .int .i64 k∧Below W0.heap.size W0 wr∧∀j (h:j<f.blocks.length),j<k→rdB r f.blocks[j]=false)
 case atStart=>exact ⟨0,by omega,rfl,rfl,Below.refl _ _,fun _ _ h=>absurd h (by omega)⟩
 case round=>
  obtain ⟨wo,hwo⟩:∃wo,wo=wr:=⟨_,rfl⟩
  subst hwo
  obtain ⟨k,hk,rfl,rfl,hb,hV⟩:=hrel
  have HV:=q8 hV
  have HBo:=q8 hb
  have hzo:=hb.size
  have HBw:Hid (Below w.heap.size w wo):=HB0.out.trans (hb.mono (by omega))
  have hA:=(hb.block w.heap.size (by omega)).trans HA.out
  have a3:wo.cell? ⟨w.heap.size,3,none⟩=some (.slice bp f.blocks.length bc):=(blk hA).1 3
  have za:=qd hA
  clear hb hV hA
  by_cases hlt:k<f.blocks.length
  rotate_left
  ·obtain rfl:k=f.blocks.length:=by omega
   have HR:Hid (tkF r f=false):=q8 (HN.out fun j hj=>HV.out j hj hj)
   go_wp2_with fail
   go_ret
   exact ⟨by rw [HR.out];rfl,HBw.out⟩
  obtain ⟨b2,o2,q1,c1,q2,c2,q3,c3,hp,e0,e1,e2,e3,e4,e5,_,_,t1,t2,_,hph,hli,_⟩:=jH HF.out HBw.out hlt
  subst hp
  obtain ⟨x,hx⟩:∃x,x=f.blocks[k]:=⟨_,rfl⟩
  have HX:=q8 hx
  rw [←hx] at e0 e1 e2 e3 e4 e5 t1 t2 hph hli
  have HPh:=q8 hph
  have HLi:=q8 hli
  have hz1:=q9 e0
  have g1:(0:Int)≤(k:Int):=by omega
  have g2:(k:Int)<f.blocks.length:=by omega
  have hk7:Hid (rdB r x=true→tkF r f=true):=q8 fun h=>HT.out k hlt (by rw [←HX.out];exact h)
  clear hx hph hli
  go_wp2_with fail
  obtain ⟨W1,hW1⟩:∃W1,W1=wo.alloc (.cells #[.slice q1 x.phis.length c1,.slice q2 x.list.length c2,.int .i64 x.fin.kind,.bool x.fin.onr,.int .i64 x.fin.onn,.slice q3 x.fin.to.length c3] 49):=⟨_,rfl⟩
  rw [←hW1]
  have hz2:W1.heap.size=wo.heap.size+1:=by rw [hW1];simp
  have HB1:Hid (Below wo.heap.size wo W1):=q8 (by rw [hW1];exact bZ)
  have HX1:Hid (W1.heap[wo.heap.size]?=some (.cells #[.slice q1 x.phis.length c1,.slice q2 x.list.length c2,.int .i64 x.fin.kind,.bool x.fin.onr,.int .i64 x.fin.onn,.slice q3 x.fin.to.length c3] 49 (0,0))):=q8 (by rw [hW1];exact qq rfl)
  clear hW1
  refine (xX r x.fin.onn x.fin.onr W1).mono ?_
  rintro e W2 ⟨rfl,hb2⟩
  have hsK:=hb2.size
  have HB2:Hid (Below wo.heap.size wo W2):=q8 (HB1.out.trans (hb2.mono (by omega)))
  have HX2:Hid (W2.heap[wo.heap.size]?=some (.cells #[.slice q1 x.phis.length c1,.slice q2 x.list.length c2,.int .i64 x.fin.kind,.bool x.fin.onr,.int .i64 x.fin.onn,.slice q3 x.fin.to.length c3] 49 (0,0))):=q8 ((hb2.block _ (by omega)).trans HX1.out)
  have hk8:Hid (Below w.heap.size w W2):=q8 (HBw.out.trans (HB2.out.mono (by have:=HBw.out.size;omega)))
  clear hb2 a3 e0 e1 e2 e3 e4 e5 hz1
  cases h1:isV r (x.fin.onr,x.fin.onn)
  rotate_left
  ·have hR:tkF r f=true:=hk7.out (by unfold rdB;rw [h1];rfl)
   have HR:=q8 hR
   clear h1 hR
   go_wp2_with fail
   go_ret
   exact ⟨by rw [HR.out];rfl,hk8.out⟩
  have H1:=q8 h1
  clear h1
  go_wp2_with fail
  go_loopg [7] x.phis.length (fun q s wr=>∃i:Nat,i≤x.phis.length∧q=x.phis.length - i∧s = .int .i64 i∧Below W2.heap.size W2 wr∧∀j (h:j<x.phis.length),j<i→tkP r x.phis[j]=false)
  case atStart=>exact ⟨0,by omega,rfl,rfl,Below.refl _ _,fun _ _ h=>absurd h (by omega)⟩
  case round=>
   obtain ⟨wp,hwp⟩:∃wp,wp=wr:=⟨_,rfl⟩
   subst hwp
   obtain ⟨i,hi,rfl,rfl,hb,hV⟩:=hrel
   have HV1:=q8 hV
   have hzp:=hb.size
   have HBp:Hid (Below wo.heap.size wo wp):=q8 (HB2.out.trans (hb.mono (by omega)))
   have hbo:Hid (Below w.heap.size w wp):=q8 (hk8.out.trans (hb.mono hk8.out.size))
   have hcM:=q8 hb
   have HXp:=q8 ((hb.block _ (by omega)).trans HX2.out)
   have x0:wp.cell? ⟨wo.heap.size,0,none⟩=some (.slice q1 x.phis.length c1):=(blk HXp.out).1 0
   have x1:wp.cell? ⟨wo.heap.size,1,none⟩=some (.slice q2 x.list.length c2):=(blk HXp.out).1 1
   have zx:=qd HXp.out
   clear hb hV
   by_cases hlt2:i<x.phis.length
   ·obtain ⟨bp,op,qs,cs,hp,p0,p1,_,_,hsr⟩:=phiGet HPh.out HBp.out hlt2
    subst hp
    have HSr:=q8 hsr
    have zp:=q9 p1
    have i1:(0:Int)≤(i:Int):=by omega
    have i2:(i:Int)<x.phis.length:=by omega
    clear hsr p0 x1
    go_wp2_with fail
    go_loopg [8] x.phis[i].src.length (fun q s wr=>∃l:Nat,l≤x.phis[i].src.length∧q=x.phis[i].src.length - l∧s = .int .i64 l∧Below wp.heap.size wp wr∧∀j (h:j<x.phis[i].src.length),j<l→isV r x.phis[i].src[j]=false)
    case atStart=>exact ⟨0,by omega,rfl,rfl,Below.refl _ _,fun _ _ h=>absurd h (by omega)⟩
    case round=>
     obtain ⟨wq,hwq⟩:∃wq,wq=wr:=⟨_,rfl⟩
     subst hwq
     obtain ⟨l,hl,rfl,rfl,hb,hV⟩:=hrel
     have HV2:=q8 hV
     have hzq:=hb.size
     have HBq:=q8 hb
     have hbZ:Hid (Below w.heap.size w wq):=q8 (hbo.out.trans (hb.mono hbo.out.size))
     have y0:wq.cell? ⟨wo.heap.size,0,none⟩=some (.slice (some ⟨bp,op,none⟩) x.phis.length c1):=(hb.cell (p:=⟨wo.heap.size,0,none⟩) zx).trans x0
     have r1:wq.cell? ⟨bp,op+i*2+1,none⟩=some (.slice qs x.phis[i].src.length cs):=(hb.cell (p:=⟨bp,op+i*2+1,none⟩) zp).trans p1
     have zy:=q9 y0
     have zr:=q9 r1
     clear hb hV
     by_cases hlt3:l<x.phis[i].src.length
     rotate_left
     ·obtain rfl:l=x.phis[i].src.length:=by omega
      have HP:Hid (tkP r x.phis[i]=false):=q8 (xN (t:=isV r) fun j hj=>HV2.out j hj hj)
      clear x0 p1
      go_wp2_with fail
      go_roundg (x.phis.length - (i+1))
      case measure=>omega
      case rel=>
       refine ⟨i+1,by omega,rfl,by go_num,hcM.out.trans (HBq.out.mono hcM.out.size),fun j hj h=>?_⟩
       by_cases e:j=i
       ·subst e;exact HP.out
       exact HV1.out j hj (by omega)
     obtain ⟨bs,os,hp,s0,s1,_⟩:=Ql HSr.out HBq.out hlt3
     subst hp
     have zs:=q9 s0
     have l1:(0:Int)≤(l:Int):=by omega
     have l2:(l:Int)<x.phis[i].src.length:=by omega
     go_wp2_with fail
     refine (xX r x.phis[i].src[l].2 x.phis[i].src[l].1 wq).mono ?_
     rintro e W3 ⟨rfl,hb3⟩
     have HB3:=q8 hb3
     clear hb3 y0 r1 s0 s1 x0 p1
     cases h2:isV r (x.phis[i].src[l].1,x.phis[i].src[l].2)
     rotate_left
     ·have hR:tkF r f=true:=hk7.out (by
       have h3:tkP r x.phis[i]=true:=jn (t:=isV r) hlt3 h2
       have h4:x.phis.any (tkP r)=true:=jn hlt2 h3
       unfold rdB
       rw [h4,Bool.true_or,Bool.or_true])
      have HR:=q8 hR
      clear h2 hR
      go_wp2_with fail
      go_ret
      exact ⟨by rw [HR.out];rfl,hbZ.out.trans (HB3.out.mono hbZ.out.size)⟩
     have H2:=q8 h2
     clear h2
     go_wp2_with fail
     go_roundg (x.phis[i].src.length - (l+1))
     case measure=>omega
     case rel=>
      refine ⟨l+1,by omega,rfl,by go_num,HBq.out.trans (HB3.out.mono HBq.out.size),fun j hj h=>?_⟩
      by_cases e:j=l
      ·subst e;exact H2.out
      exact HV2.out j hj (by omega)
   obtain rfl:i=x.phis.length:=by omega
   have HP:Hid (x.phis.any (tkP r)=false):=q8 (xN fun j hj=>HV1.out j hj hj)
   go_wp2_with fail
   clear x0 x1
   go_loopg [9] x.list.length (fun q s wr=>∃i:Nat,i≤x.list.length∧q=x.list.length - i∧s = .int .i64 i∧Below wp.heap.size wp wr∧∀j (h:j<x.list.length),j<i→tkI r x.list[j]=false)
   case atStart=>exact ⟨0,by omega,rfl,rfl,Below.refl _ _,fun _ _ h=>absurd h (by omega)⟩
   case round=>
    obtain ⟨wq,hwq⟩:∃wq,wq=wr:=⟨_,rfl⟩
    subst hwq
    obtain ⟨i,hi,rfl,rfl,hb,hV⟩:=hrel
    have HV2:=q8 hV
    have hzq:=hb.size
    have hnM:=q8 hb
    have HBq:Hid (Below wo.heap.size wo wq):=q8 (HBp.out.trans (hb.mono HBp.out.size))
    have hbZ:Hid (Below w.heap.size w wq):=q8 (hbo.out.trans (hb.mono hbo.out.size))
    have HXq:=q8 ((hb.block _ zx).trans HXp.out)
    have x1:wq.cell? ⟨wo.heap.size,1,none⟩=some (.slice q2 x.list.length c2):=(blk HXq.out).1 1
    have zy:=qd HXq.out
    clear hb hV
    by_cases hlt2:i<x.list.length
    rotate_left
    ·obtain rfl:i=x.list.length:=by omega
     have HRd:Hid (rdB r x=false):=q8 (by
      have h4:x.list.any (tkI r)=false:=xN fun j hj=>HV2.out j hj hj
      unfold rdB
      rw [H1.out,HP.out,h4]
      rfl)
     go_wp2_with fail
     go_roundg (f.blocks.length - (k+1))
     case measure=>omega
     case rel=>
      refine ⟨k+1,by omega,rfl,by go_num,HBo.out.trans (HBq.out.mono HBo.out.size),fun j hj h=>?_⟩
      by_cases e:j=k
      ·subst e;rw [←HX.out];exact HRd.out
      exact HV.out j hj (by omega)
    obtain ⟨bp,op,qs,cs,hp,_,_,n2,n3,n4,n5,_,n7,_,_,_,_,_,hal,hsr⟩:=Xa HLi.out HBq.out hlt2
    subst hp
    obtain ⟨Y,hY⟩:∃Y,Y=x.list[i]:=⟨_,rfl⟩
    have HHi:Hid (tkI r Y=true→tkF r f=true):=q8 fun h=>hk7.out (by
     have h4:x.list.any (tkI r)=true:=jn hlt2 (by rw [←hY];exact h)
     unfold rdB
     rw [h4,Bool.or_true,Bool.or_true])
    rw [←hY] at n2 n3 n4 n5 n7 hsr hal
    have HYe:=q8 hY
    have HSr:=q8 hsr
    have zp:=q9 n2
    have i1:(0:Int)≤(i:Int):=by omega
    have i2:(i:Int)<x.list.length:=by omega
    clear hsr hY
    cases h2:isV r (Y.ar,Y.an)
    ·cases h3:isV r (Y.br,Y.bn)
     ·have H2:=q8 h2
      have H3:=q8 h3
      have hca:=xX r Y.an Y.ar wq
      have hcb:=fun W=>xX r Y.bn Y.br W
      rw [h2] at hca
      rw [h3] at hcb
      have HCa:=q8 hca
      have HCb:=q8 hcb
      clear h2 h3 hca hcb
      go_wp2_with (first|(go_at_call 41;refine (HCb.out W3).mono ?_;rintro e W4 ⟨rfl,hb4⟩;have HB4:=q8 hb4;clear hb4)|(go_at_call 41;refine HCa.out.mono ?_;rintro e W3 ⟨rfl,hb3⟩;have HB3:=q8 hb3;have x3:W3.cell? ⟨wo.heap.size,1,none⟩=some (.slice (some ⟨bp,op,none⟩) x.list.length c2):=(hb3.cell (p:=⟨wo.heap.size,1,none⟩) zy).trans x1;have n23:W3.cell? ⟨bp,op+i*8+4,none⟩=some (.bool Y.br):=(hb3.cell (p:=⟨bp,op+i*8+4,none⟩) zp).trans n4;have n33:W3.cell? ⟨bp,op+i*8+5,none⟩=some (.int .i64 Y.bn):=(hb3.cell (p:=⟨bp,op+i*8+5,none⟩) zp).trans n5;clear hb3))
      have heM:Hid (Below wq.heap.size wq W4):=q8 (HB3.out.trans (HB4.out.mono HB3.out.size))
      have hz4:=heM.out.size
      have hnN:Hid (Below w.heap.size w W4):=q8 (hbZ.out.trans (heM.out.mono hbZ.out.size))
      have HX4:=q8 ((heM.out.block _ zy).trans HXq.out)
      have n74:W4.cell? ⟨bp,op+i*8+7,none⟩=some (.slice qs Y.args.length cs):=(heM.out.cell (p:=⟨bp,op+i*8+7,none⟩) zp).trans n7
      have x14:W4.cell? ⟨wo.heap.size,1,none⟩=some (.slice (some ⟨bp,op,none⟩) x.list.length c2):=(blk HX4.out).1 1
      have z74:=q9 n74
      have z14:=q9 x14
      clear n2 n3 n4 n5 n7 x1 x3 n23 n33
      go_loopg [10] Y.args.length (fun q s wr=>∃l:Nat,l≤Y.args.length∧q=Y.args.length - l∧s = .int .i64 l∧Below W4.heap.size W4 wr∧∀j (h:j<Y.args.length),j<l→isV r Y.args[j]=false)
      case atStart=>exact ⟨0,by omega,rfl,rfl,Below.refl _ _,fun _ _ h=>absurd h (by omega)⟩
      case round=>
       obtain ⟨wz,hwz⟩:∃wz,wz=wr:=⟨_,rfl⟩
       subst hwz
       obtain ⟨l,hl,rfl,rfl,hb,hV⟩:=hrel
       have HV3:=q8 hV
       have hzz:=hb.size
       have HBz:=q8 hb
       have hnO:Hid (Below wq.heap.size wq wz):=q8 (heM.out.trans (hb.mono heM.out.size))
       have hnP:Hid (Below w.heap.size w wz):=q8 (hnN.out.trans (hb.mono hnN.out.size))
       have y0:wz.cell? ⟨wo.heap.size,1,none⟩=some (.slice (some ⟨bp,op,none⟩) x.list.length c2):=(hb.cell (p:=⟨wo.heap.size,1,none⟩) z14).trans x14
       have r1:wz.cell? ⟨bp,op+i*8+7,none⟩=some (.slice qs Y.args.length cs):=(hb.cell (p:=⟨bp,op+i*8+7,none⟩) z74).trans n74
       have zy0:=q9 y0
       have zr:=q9 r1
       clear hb hV
       by_cases hlt3:l<Y.args.length
       ·obtain ⟨bs,os,hp,s0,s1,_⟩:=Ql HSr.out hnO.out hlt3
        subst hp
        have zs:=q9 s0
        have l1:(0:Int)≤(l:Int):=by omega
        have l2:(l:Int)<Y.args.length:=by omega
        go_wp2_with fail
        refine (xX r Y.args[l].2 Y.args[l].1 wz).mono ?_
        rintro e W5 ⟨rfl,hb5⟩
        have HB5:=q8 hb5
        clear hb5 y0 r1 s0 s1 x14 n74
        cases h2:isV r (Y.args[l].1,Y.args[l].2)
        rotate_left
        ·have hR:tkF r f=true:=HHi.out (by
          have h3:Y.args.any (isV r)=true:=jn (t:=isV r) hlt3 h2
          unfold tkI
          rw [h3,Bool.or_true,Bool.or_true])
         have HR:=q8 hR
         clear h2 hR
         go_wp2_with fail
         go_ret
         exact ⟨by rw [HR.out];rfl,hnP.out.trans (HB5.out.mono hnP.out.size)⟩
        have H4:=q8 h2
        clear h2
        go_wp2_with fail
        go_roundg (Y.args.length - (l+1))
        case measure=>omega
        case rel=>
         refine ⟨l+1,by omega,rfl,by go_num,HBz.out.trans (HB5.out.mono HBz.out.size),fun j hj h=>?_⟩
         by_cases e:j=l
         ·subst e;exact H4.out
         exact HV3.out j hj (by omega)
       obtain rfl:l=Y.args.length:=by omega
       have HIi:Hid (tkI r Y=false):=q8 (by
        have h4:Y.args.any (isV r)=false:=xN fun j hj=>HV3.out j hj hj
        unfold tkI
        rw [H2.out,H3.out,h4]
        rfl)
       clear x14 n74
       go_wp2_with fail
       go_roundg (x.list.length - (i+1))
       case measure=>omega
       case rel=>
        refine ⟨i+1,by omega,rfl,by go_num,hnM.out.trans (hnO.out.mono hnM.out.size),fun j hj h=>?_⟩
        by_cases e:j=i
        ·subst e;rw [←HYe.out];exact HIi.out
        exact HV2.out j hj (by omega)
     have hR:tkF r f=true:=HHi.out (by unfold tkI;rw [h3,Bool.true_or,Bool.or_true])
     have HR:=q8 hR
     have hca:=xX r Y.an Y.ar wq
     have hcb:=fun W=>xX r Y.bn Y.br W
     rw [h2] at hca
     rw [h3] at hcb
     have HCa:=q8 hca
     have HCb:=q8 hcb
     clear h2 h3 hca hcb hR
     go_wp2_with (first|(go_at_call 41;refine (HCb.out W3).mono ?_;rintro e W4 ⟨rfl,hb4⟩;have HB4:=q8 hb4;clear hb4)|(go_at_call 41;refine HCa.out.mono ?_;rintro e W3 ⟨rfl,hb3⟩;have HB3:=q8 hb3;have x3:W3.cell? ⟨wo.heap.size,1,none⟩=some (.slice (some ⟨bp,op,none⟩) x.list.length c2):=(hb3.cell (p:=⟨wo.heap.size,1,none⟩) zy).trans x1;have n23:W3.cell? ⟨bp,op+i*8+4,none⟩=some (.bool Y.br):=(hb3.cell (p:=⟨bp,op+i*8+4,none⟩) zp).trans n4;have n33:W3.cell? ⟨bp,op+i*8+5,none⟩=some (.int .i64 Y.bn):=(hb3.cell (p:=⟨bp,op+i*8+5,none⟩) zp).trans n5;clear hb3))
     go_ret
     have h34:=HB3.out.trans (HB4.out.mono HB3.out.size)
     exact ⟨by rw [HR.out];rfl,hbZ.out.trans (h34.mono hbZ.out.size)⟩
    have hR:tkF r f=true:=HHi.out (by unfold tkI;rw [h2,Bool.true_or])
    have HR:=q8 hR
    have hca:=xX r Y.an Y.ar wq
    rw [h2] at hca
    have HCa:=q8 hca
    clear h2 hca hR
    go_wp2_with (go_at_call 41;refine HCa.out.mono ?_;rintro e W3 ⟨rfl,hb3⟩;have HB3:=q8 hb3;clear hb3)
    go_ret
    exact ⟨by rw [HR.out];rfl,hbZ.out.trans (HB3.out.mono hbZ.out.size)⟩
end Go.Proofs.YtgjjhadbjmcnpaaGreatDoor
namespace Go.Proofs.YtgjjhadbjmcnpaaGreatDoor
open Go.RowKit Go.Shelf

theorem ata_all (u:UniL) (gp fp:Option Addr) (gc fc:Nat) (w:World) (hG:SlF w 3 48 (GloR w) (.slice gp u.globals.length gc) u.globals) (hF:SlF w 4 56 (FunR w) (.slice fp u.funcs.length fc) u.funcs) (hw0:Ways w) :
  Calls Tryz.prog 4 #[.agg #[.slice gp u.globals.length gc,.slice fp u.funcs.length fc]] w fun e w'=>e = .returned (.bool true)∧Below w.heap.size w w':=by
 have hF0:SliceAt w 4 (FunR w) fp u.funcs:=by
  obtain ⟨p,c,e,_,_,h⟩:=hF.outC
  cases e
  exact h
 have hgl:u.globals.length*48≤140737488351232:=hG.bdC
 have hfl:u.funcs.length*56≤140737488351232:=hF.bdC
 have HGs:=q8 hG
 have HFs:=q8 hF
 have HW:=q8 hw0
 have HF0:=q8 hF0
 clear hG hF hF0 hw0
 go_enter Tryz.func4,Tryz.ntmps4
 go_wp2_with fail
 obtain ⟨w1,hw1⟩:∃w1,w1=w.alloc (.cells #[.slice gp u.globals.length gc,.slice fp u.funcs.length fc] 25):=⟨_,rfl⟩
 rw [←hw1]
 have hb1:Below w.heap.size w w1:=by rw [hw1];exact bZ
 have hO1:w1.heap[w.heap.size]?=some (.cells #[.slice gp u.globals.length gc,.slice fp u.funcs.length fc] 25 (0,0)):=by rw [hw1];exact qq rfl
 have hz1:w1.heap.size=w.heap.size+1:=by rw [hw1];simp
 have hgm:=SlF.mono HGs.out hb1 (by omega) fun _ _ h=>h.below hb1
 have hfm:=SlF.mono HFs.out hb1 (by omega) fun _ _ h=>h.below hb1
 have HB1:=q8 hb1
 have HO1:=q8 hO1
 clear hw1 hb1 hO1
 refine (ado_any u gp fp gc fc w1 hgm hfm (HW.out.below HB1.out)).mono ?_
 rintro e w2 ⟨h,hb2⟩
 have HB2:=q8 (HB1.out.trans (hb2.mono HB1.out.size))
 have HO2:=q8 ((hb2.block _ (by omega)).trans HO1.out)
 have hz2:=hb2.size
 clear hgm hfm hb2
 rcases h with ⟨c,k,hne,rfl⟩|⟨hc,V,hV,p1,c1,p2,c2,rfl,hgr,hfr⟩
 ·go_wp2_with fail
  refine (XO _).mono ?_
  rintro e w3 ⟨rfl,hb3⟩
  have HB3:Hid (Below w.heap.size w w3):=q8 (HB2.out.trans (Below.trans bZ (hb3.mono (by simp;omega))))
  clear hb3
  go_wp2_with fail
  go_ret
  exact ⟨rfl,HB3.out⟩
 obtain ⟨m,hm,_⟩:=hc.main
 have hpos:0<u.funcs.length:=Nat.lt_of_le_of_lt (Nat.zero_le _) (QP hm)
 have hp0:((u.funcs.length:Int) == 0)=false:=beq_eq_false_iff_ne.2 (by omega)
 have hne:((u.funcs.length:Int) != u.funcs.length)=false:=by simp
 have hF2:SliceAt w2 4 (FunR w2) p2 V:=by
  obtain ⟨p,c,e,_,_,h⟩:=hfr.outC
  injection e with e1 e2 e3
  rw [e1]
  exact h
 have HF2:=q8 hF2
 have HC:=q8 hc
 have HV:=q8 hV
 have HGr:=q8 hgr
 have HFr:=q8 hfr
 clear hc hm hV hgr hfr hF2
 have oa0:w2.cell? ⟨w.heap.size,1,none⟩=some (.slice fp u.funcs.length fc):=(blk HO2.out).1 1
 have oz0:=qd HO2.out
 go_wp2_with fail
 obtain ⟨W3,hW3⟩:∃W3,W3=(w2.alloc (.cells #[.slice p1 u.globals.length c1,.slice p2 u.funcs.length c2] 25)).alloc (.cells #[.int .i64 0,.int .i64 0] 27):=⟨_,rfl⟩
 rw [←hW3]
 have hz3:W3.heap.size=w2.heap.size+1+1:=by rw [hW3];simp
 have hb3:Below w2.heap.size w2 W3:=by rw [hW3];exact bZ
 have hO3:W3.heap[w2.heap.size]?=some (.cells #[.slice p1 u.globals.length c1,.slice p2 u.funcs.length c2] 25 (0,0)):=by rw [hW3];exact qh (qq rfl)
 have HO4:=q8 ((hb3.block _ (by omega)).trans HO2.out)
 have HB3:=q8 hb3
 have HBw:=q8 (HB2.out.trans (hb3.mono HB2.out.size))
 have HO3:=q8 hO3
 clear hW3 hb3 hO3 oa0 oz0
 go_loopg [5] u.funcs.length (fun q s wr=>∃k:Nat,k≤u.funcs.length∧q=u.funcs.length - k∧s = .int .i64 k∧Below W3.heap.size W3 wr)
 case atStart=>exact ⟨0,by omega,rfl,rfl,Below.refl _ _⟩
 case round=>
  obtain ⟨wp,hwp⟩:∃wp,wp=wr:=⟨_,rfl⟩
  subst hwp
  obtain ⟨k,hk,rfl,rfl,hb⟩:=hrel
  have HBp:=q8 hb
  have hzp:=hb.size
  have HOp:=q8 ((hb.block _ (qd HO3.out)).trans HO3.out)
  have HOq:=q8 ((hb.block _ (qd HO4.out)).trans HO4.out)
  have o1:wp.cell? ⟨w2.heap.size,1,none⟩=some (.slice p2 u.funcs.length c2):=(blk HOp.out).1 1
  have q1:wp.cell? ⟨w.heap.size,1,none⟩=some (.slice fp u.funcs.length fc):=(blk HOq.out).1 1
  have oz1:=qd HOp.out
  have oy1:=qd HOq.out
  have hbo:Hid (Below w.heap.size w wp):=q8 (HBw.out.trans (HBp.out.mono HBw.out.size))
  have hcM:Hid (Below w2.heap.size w2 wp):=q8 (HB3.out.trans (HBp.out.mono (by omega)))
  clear hb
  by_cases hlt:k<u.funcs.length
  rotate_left
  ·obtain rfl:k=u.funcs.length:=by omega
   go_wp2_with fail
   go_ret
   exact ⟨rfl,hbo.out⟩
  have HlV:=q8 HV.out.len
  have hkV:k<V.length:=by have:=HlV.out;omega
  obtain ⟨f,hf⟩:∃f,f=V[k]:=⟨_,rfl⟩
  have HFe:=q8 hf
  obtain ⟨fb,fo,q,c,rfl,e0,e1,e2,e3,_,_,_,_,_⟩:=jI HF2.out hcM.out hkV
  obtain ⟨gb,go,q',c',rfl,f0,f1,_,_,_⟩:=jI HF0.out hbo.out hlt
  obtain ⟨n1,n2⟩:=HV.out.par k hkV hlt
  rw [n1] at e0
  have hle:decide (u.funcs[k].params<V[k].params)=false:=decide_eq_false (by omega)
  obtain ⟨P,hP⟩:∃P,P=V[k].params:=⟨_,rfl⟩
  have heL:P≤6∧0≤P:=by
   have:=HV.out.ok.callN.par V[k] (List.getElem_mem hkV)
   rw [hP];omega
  rw [←hP] at e1 hle
  have HP:=q8 hP
  have gz:=q9 e0
  have gy:=q9 f0
  have k0:(0:Int)≤(k:Int):=by omega
  have k1:(k:Int)<u.funcs.length:=by omega
  clear n1 n2 hP hf e2 e3
  go_wp2_with fail
  go_quiet (fail)
  go_wp2_with fail
  obtain ⟨W4,hW4⟩:∃W4,W4=wp:=⟨_,rfl⟩
  go_loopg [6] P.toNat (fun q s wr=>∃p:Nat,(p:Int)≤P∧q=P.toNat - p∧s = .int .i64 p∧Below wp.heap.size wp wr)
  case atStart=>exact ⟨0,by omega,rfl,rfl,by exact bZ⟩
  case round=>
   obtain ⟨wq,hwq⟩:∃wq,wq=wr:=⟨_,rfl⟩
   subst hwq
   obtain ⟨p,hp,rfl,rfl,hb⟩:=hrel
   have HBq:=q8 hb
   have HOq:=q8 ((hb.block _ oz1).trans HOp.out)
   have hhL:Hid (Below w2.heap.size w2 wq):=q8 (hcM.out.trans (hb.mono hcM.out.size))
   have hbZ:Hid (Below w.heap.size w wq):=q8 (hbo.out.trans (hb.mono hbo.out.size))
   have x1:wq.cell? ⟨w2.heap.size,1,none⟩=some (.slice (some ⟨fb,fo,none⟩) u.funcs.length c2):=(blk HOq.out).1 1
   have zx:=qd HOq.out
   obtain ⟨fb',fo',q,c,he,e0,e1,e2,e3,_,_,_,h96,hbl⟩:=jI HF2.out hhL.out hkV
   simp only [Option.some.injEq,Addr.mk.injEq,and_true] at he
   obtain ⟨rfl,rfl⟩:=he
   have hP2:=HP.out
   rw [←HFe.out] at e0 e1 e2 e3 hbl hP2 h96
   have HBl:=q8 hbl
   have gz2:=q9 e0
   have hP3:f.params=P:=hP2.symm
   rw [hP3] at e1
   clear hb hbl hP2 o1 q1 f0 f1
   by_cases hlt2:(p:Int)<P
   ·have hT:tkF p f=true:=by rw [HFe.out];exact HV.out.taken k hkV p (by have:=HP.out;omega) (.inl hkV)
    have hct:=K0 f p q c wq h96 HBl.out
    rw [hT,hP3] at hct
    have HCt:=q8 hct
    have HP3:=q8 hP3
    clear hT hct hP3
    go_wp2_with fail
    refine HCt.out.mono ?_
    rintro e W5 ⟨rfl,hb5⟩
    have HB5:=q8 (HBq.out.trans (hb5.mono HBq.out.size))
    clear hb5 x1 e0 e1 e2 e3
    go_wp2_with fail
    go_roundg (P.toNat - (p+1))
    case measure=>omega
    case rel=>exact ⟨p+1,by omega,rfl,by go_num,HB5.out⟩
   have hpe:(p:Int)=P:=by omega
   have hd:decide ((p:Int)<P)=false:=decide_eq_false hlt2
   have HPe:=q8 hpe
   clear hP3 hpe
   go_wp2_with fail
   go_roundg (u.funcs.length - (k+1))
   case measure=>omega
   case rel=>exact ⟨k+1,by omega,rfl,by go_num,HBp.out.trans (HBq.out.mono HBp.out.size)⟩
end Go.Proofs.YtgjjhadbjmcnpaaGreatDoor
namespace Go.Proofs.YtgjjhadbjmcnpaaGreatDoor
open Go.ChangeShapes Go.WideShapes Go.ChangeAt Go.RowKit

def jk:List (String×DataW Unit):=Rows.argsSaysRow.laid
def nameWays : String := (Rows.argsSaysRow.laid.map (·.1)).headD ""
theorem gWays:Tryz.prog.globalNamed nameWays=some 0:=by kernel_rfl
theorem tWays:(Tryz.prog.globals[0]?).map (·.type)=some 121:=by kernel_rfl
theorem own:ownKnob Tryz.prog.godebug=none:=by kernel_rfl
theorem laidOut:laidOutB Tryz.prog=true:=by kernel_rfl
theorem XP (os:Os) (args:Array Value):laidMetH Tryz.prog jk ((World.doorLaid Tryz.prog 400 os).forCall (fun _ _=>0) ⟨#[],args,[]⟩).memory:=
 laidMetH_of_parts3 (fuel:=8) (laidMet_of_run' 8 (by kernel_rfl) (by kernel_rfl)) (by kernel_rfl) (by kernel_rfl)

theorem Q1 {W:World} (h:laidMetH Tryz.prog jk W):Ways W:=by
 rw [MakeChecks.laidMetH_plain _ _ _ (by kernel_rfl)] at h
 obtain ⟨ps,⟨g1,t1,cs1,f1,p1,q1,hg1,ht1,hv1,hd1,_,_⟩,_,_⟩:=h
 obtain rfl:=Option.some.inj (gWays.symm.trans hg1)
 obtain rfl:=Option.some.inj (tWays.symm.trans ht1)
 obtain ⟨xs,m1,rfl,hx1,hlen,hn4,hel⟩:=DataW.trod_array Tryz.underlying121 hd1
 have c3:Tryz.prog.cellsOf 3=1:=by kernel_rfl
 have c4:Tryz.prog.cellsOf 121=4:=by kernel_rfl
 rw [c4] at hlen
 obtain ⟨l1⟩:=cs1
 obtain ⟨a0,a1,a2,a3,rfl⟩:=Vr (show l1.length=4 from hlen)
 obtain ⟨x0,x1,x2,x3,rfl⟩:=Vr hn4
 simp only [Rows.laid_turnery_code_ways,List.map_cons,List.map_nil,Prod.mk.injEq,DataW.agg.injEq,List.cons.injEq] at hx1
 rw [c3] at hel
 have hv:=World.var?_cell hg1 hv1
 have one:∀(i:Nat) (a:Value) (x:DataW Unit×List MemPlace) (n:Int),DataW.trod (fun _=>()) Tryz.prog W 0 (fun _=>true) false m1 3 [a]=some x→DataW.lit (.int .i64 n)=x.1→a = .int .i64 n:=fun i a x n h e=>by
  obtain ⟨k,e1,e2,_⟩:=DataW.trod_int Tryz.underlying3 (show DataW.trod _ Tryz.prog W 0 _ false m1 3 _=some x from h)
  rw [e2] at e
  simp at e e1
  rw [e1,e]
 obtain ⟨⟨e0,e1,e2,e3,_⟩,_⟩:=hx1
 obtain rfl:=one 0 a0 x0 0 (hel 0 (by decide)) e0
 obtain rfl:=one 1 a1 x1 0 (hel 1 (by decide)) e1
 obtain rfl:=one 2 a2 x2 1 (hel 2 (by decide)) e2
 obtain rfl:=one 3 a3 x3 2 (hel 3 (by decide)) e3
 exact ⟨by simpa using hv 0,by simpa using hv 1,by simpa using hv 2,by simpa using hv 3⟩
end Go.Proofs.YtgjjhadbjmcnpaaGreatDoor
