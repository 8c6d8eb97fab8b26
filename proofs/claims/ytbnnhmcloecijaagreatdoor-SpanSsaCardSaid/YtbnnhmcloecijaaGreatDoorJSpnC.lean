/-
  The contract of span.logic.
-/
import Derived.Shelf.Small.Bits
import Derived.Test.YtbnnhmcloecijaaGreatDoorJSpnA
set_option maxRecDepth 100000
set_option maxHeartbeats 16000000
namespace Go.Proofs
open Go.Shelf Go.RowKit Go.Lib
def Tryz.lays125_ren:Go.Shelf.Ren:=⟨fun|125=>145|128=>160|129=>161|n=>n,fun|3=>3|4=>4|5=>5|9=>9|46=>149|51=>193|53=>196|n=>n,fun|n=>n⟩
theorem Tryz.lays125:Go.Proofs.Lays.n125 Tryz.prog Tryz.lays125_ren:={
 mixed:=by kernel_rfl
 f125:=Tryz.func145.trans (congrArg some (by kernel_rfl))
 f128:=Tryz.func160.trans (congrArg some (by kernel_rfl))
 f129:=Tryz.func161.trans (congrArg some (by kernel_rfl))
 t3:=Tryz.underlying3
 a3:=Tryz.isAgg3
 z3:=Tryz.sizeOf3
 v3:=Tryz.zeroValue3
 t4:=Tryz.underlying4
 a4:=Tryz.isAgg4
 z4:=Tryz.sizeOf4
 v4:=Tryz.zeroValue4
 t5:=Tryz.underlying5
 a5:=Tryz.isAgg5
 z5:=Tryz.sizeOf5
 v5:=Tryz.zeroValue5
 t9:=Tryz.underlying9
 a9:=Tryz.isAgg9
 z9:=Tryz.sizeOf9
 v9:=Tryz.zeroValue9
 t46:=Tryz.underlying149
 a46:=Tryz.isAgg149
 z46:=Tryz.sizeOf149
 v46:=Tryz.zeroValue149
 t51:=Tryz.underlying193
 a51:=Tryz.isAgg193
 z51:=Tryz.sizeOf193
 v51:=Tryz.zeroValue193
 t53:=Tryz.underlying196
 a53:=Tryz.isAgg196
 z53:=Tryz.sizeOf196
 v53:=Tryz.zeroValue196 }
end Go.Proofs
namespace Go.Proofs.YtbnnhmcloecijaaGreatDoor
open Go.RowKit Go.Shelf Go.Lib

theorem Zo:∀(f x:Nat),x<2 ^ f→Lib.bitLenAux f x=if x=0 then 0 else x.log2+1
 | 0,x,h=>by
  have:x=0:=by simpa using h
  subst this;rfl
 | f+1,x,h=>by
  unfold Lib.bitLenAux
  by_cases h0:x=0
  ·rw [zZ h0,zZ h0]
  rw [zQ h0,zQ h0,Zo f (x / 2) (by rw [Nat.pow_succ] at h;omega)]
  by_cases h1:x / 2=0
  ·have:x=1:=by omega
   subst this
   rfl
  rw [zQ h1]
  have e:x.log2=(x / 2).log2+1:=by
   rw [Nat.log2_def x,zZ (by omega)]
  omega
theorem KG {n:Int} (h0:0≤n) (h1:n≤18446744073709551615):Lib.bitLen n.toNat=Q5 n:=by
 unfold Lib.bitLen
 have h64:(2:Nat) ^ 64=18446744073709551616:=by decide
 rw [Zo 64 n.toNat (by omega)]
 unfold Q5
 by_cases h:n=0
 ·subst h;rfl
 rw [zQ (by omega),zQ (by omega)]
theorem KH (x:Int) (w:World) (h0:0≤x) (h1:x≤9223372036854775807) :
  Calls Tryz.prog 145 #[.int .u64 x] w fun e w'=>e = .returned (.int .i64 (Q5 x:Nat))∧w'=w:=by
 rw [←KG h0 (by omega)]
 exact Any.bits_Len Tryz.lays125 x w h0 (by omega)
theorem lenB_le {n:Int} (h0:0≤n) (h1:n≤9223372036854775807):Q5 n≤63:=by
 unfold Q5
 split
 ·omega
 have hn:n.toNat≠0:=by omega
 have:=(Nat.log2_lt hn (k:=63)).2 (by omega)
 omega

theorem Zp (n:Int) (w:World) (h0:0≤n) (h1:n≤9223372036854775807) :
  Calls Tryz.prog 128 #[.int .i64 n] w fun e w'=>e = .returned (.int .i64 (Qo n))∧w'=w:=by
 have hl:=lenB_le h0 h1
 have hu:IntKind.u64.wrap n=n:=by rw [IntKind.wrap_u64];omega
 have hwr:∀n,IntKind.i64.wrap n=wrap64 n:=IntWalk.i64_left
 have hb:=KH n w h0 h1
 have HM:Hid (wrap64 (wrap64 (1*2 ^ Q5 n) - 1)=Qo n):=q7 (by
  unfold Qo
  have h2:(2:Nat) ^ Q5 n≤2 ^ 63:=Nat.pow_le_pow_right (by omega) hl
  have h3:0<(2:Nat) ^ Q5 n:=Nat.pow_pos (by omega)
  have e:((2:Int) ^ Q5 n)=((2 ^ Q5 n:Nat):Int):=by simp
  rw [e]
  generalize 2 ^ Q5 n=m at *
  unfold wrap64
  omega)
 have hsU:=fun k=>shift_shl .i64 k 1 (Q5 n:Nat) (by omega) (by show ((Q5 n:Nat):Int)≤((64:Nat):Int);omega)
 have HB:=q7 hb
 clear hb
 generalize Q5 n=L at *
 go_enter Tryz.func128,Tryz.ntmps128
 go_wp2_with fail
 refine HB.out.mono ?_
 rintro e w1 ⟨rfl,hw⟩
 rw [hw]
 clear hw
 go_wp2
 go_ret
 refine ⟨?_,rfl⟩
 rw [←HM.out]
 simp

theorem KI (op:Int) (x y:Spn) (w:World) (hop:op=5∨op=6) (hx:SpOk x) (hy:SpOk y) (hxh:x.has=true) (hyh:y.has=true) (hA:AllW w) :
  Calls Tryz.prog 87 #[.int .i64 op,.agg (spC x),.agg (spC y)] w fun e w'=>e = .returned (.agg (spC (Yt op x y)))∧Below w.heap.size w w':=by
 have xle:=hx.le hxh
 have yle:=hy.le hyh
 obtain ⟨x1,x2⟩:=hx.lo
 obtain ⟨x3,x4⟩:=hx.hi
 obtain ⟨y1,y2⟩:=hy.lo
 obtain ⟨y3,y4⟩:=hy.hi
 clear hx hy
 obtain ⟨a,b,s⟩:=x
 obtain ⟨c,d,s2⟩:=y
 simp only at hxh hyh xle yle x1 x2 x3 x4 y1 y2 y3 y4
 subst hxh hyh
 have ho:∀l,Ys ⟨l,l,true⟩=true:=fun l=>by simp [Ys]
 obtain ⟨g0,g1,g2⟩:=hA
 have zg:=qd g0
 by_cases h1:c<1
 ·have HD:=q7 (show Yt op ⟨a,b,true⟩ ⟨c,d,true⟩=jW from by unfold Yt;rw [zZ h1])
  simp only [spC]
  go_enter Tryz.func87,Tryz.ntmps87
  go_wp2
  refine zk ?_ rfl ⟨by rw [HD.out],?_⟩
  ·simp [results,Tryz.results87,go_sem,jW,vz,vi]
  exact bZ
 clear g0 g1 g2
 rcases hop with rfl|rfl
 rotate_left
 ·have w1:IntKind.i64.wrap (d - 1)=d - 1:=by rw [xI];omega
  have w2:IntKind.i64.wrap (1 - d)=1 - d:=by rw [xI];omega
  have HD:=q7 (show Yt 6 ⟨a,b,true⟩ ⟨c,d,true⟩=if 0≤a then ofS 0 (min b (d - 1)) else if b≤0 then ofS (max a (1 - d)) 0 else ofS (max a (1 - d)) (min b (d - 1)) from by unfold Yt;rw [zQ h1];simp)
  simp only [spC]
  by_cases h3:0≤a
  ·rw [zZ h3] at HD
   go_enter Tryz.func87,Tryz.ntmps87
   go_wp2_with (go_at_call 76;refine (qL _ _ _).mono ?_;rintro e w1 ⟨rfl,rfl⟩)
   all_goals
    refine zk ?_ rfl ⟨by rw [HD.out],?_⟩
    ·first
      | (simp [results,Tryz.results87,go_sem,ofS];done)
      | (simp [results,Tryz.results87,go_sem,spC,ofS];omega)
    exact bZ
  rw [zQ h3] at HD
  by_cases h4:b≤0
  ·rw [zZ h4] at HD
   go_enter Tryz.func87,Tryz.ntmps87
   go_wp2_with (go_at_call 76;refine (qL _ _ _).mono ?_;rintro e w1 ⟨rfl,rfl⟩)
   all_goals
    refine zk ?_ rfl ⟨by rw [HD.out],?_⟩
    ·first
      | (simp [results,Tryz.results87,go_sem,ofS];done)
      | (simp [results,Tryz.results87,go_sem,spC,ofS];omega)
    exact bZ
  rw [zQ h4] at HD
  go_enter Tryz.func87,Tryz.ntmps87
  go_wp2_with (go_at_call 76;refine (qL _ _ _).mono ?_;rintro e w1 ⟨rfl,rfl⟩)
  all_goals
   refine zk ?_ rfl ⟨by rw [HD.out],?_⟩
   ·first
     | (simp [results,Tryz.results87,go_sem,ofS];done)
     | (simp [results,Tryz.results87,go_sem,spC,ofS];omega)
   exact bZ
 by_cases h2:c=d
 ·subst h2
  have q1:=Z6 (a:=a) (b:=c) (m:=9223372036854775807) (by omega) (by omega) (by omega) (by omega)
  have q2:=Z6 (a:=b) (b:=c) (m:=9223372036854775807) (by omega) (by omega) (by omega) (by omega)
  have w1:IntKind.i64.wrap (a.tdiv c)=a.tdiv c:=by rw [xI];omega
  have w2:IntKind.i64.wrap (b.tdiv c)=b.tdiv c:=by rw [xI];omega
  have HD:=q7 (show Yt 5 ⟨a,b,true⟩ ⟨c,c,true⟩=ofS (a.tdiv c) (b.tdiv c) from by unfold Yt;rw [zQ h1,zZ ⟨rfl,rfl⟩])
  have hcn:¬ c=0:=by omega
  have hoc:=ho c
  simp only [spC]
  go_enter Tryz.func87,Tryz.ntmps87
  go_wp2_with (go_at_call 17;refine (qB ⟨c,c,true⟩ _).mono ?_;rintro e w1 ⟨rfl,rfl⟩)
  obtain ⟨W,hW⟩:∃W,W=((((w.alloc (.cells #[.int .i64 a,.int .i64 b,.bool true] 59)).alloc (.cells #[.int .i64 c,.int .i64 c,.bool true] 59)).alloc (.cells #[.int .i64 0,.int .i64 0,.bool false] 59)).alloc (.cells (spC ⟨c,c,true⟩) 59)):=⟨_,rfl⟩
  rw [←hW]
  have hb:Below w.heap.size w W:=by rw [hW];exact bZ
  have hX:W.heap[w.heap.size]?=some (.cells #[.int .i64 a,.int .i64 b,.bool true] 59 (0,0)):=by rw [hW];exact qg (qg (qg (qn w _)))
  have hY:W.heap[w.heap.size+1]?=some (.cells #[.int .i64 c,.int .i64 c,.bool true] 59 (0,0)):=by rw [hW];exact qg (qg (qh (by simp)))
  have hZ:W.heap[w.heap.size+1+1]?=some (.cells #[.int .i64 0,.int .i64 0,.bool false] 59 (0,0)):=by rw [hW];exact qg (qh (by simp))
  have haE:∀w',Below W.heap.size W w'→w'.cell? ⟨w.heap.size,0,none⟩=some (.int .i64 a)∧w'.cell? ⟨w.heap.size,1,none⟩=some (.int .i64 b)∧w'.cell? ⟨w.heap.size+1,0,none⟩=some (.int .i64 c)∧w'.cell? ⟨w.heap.size+1,1,none⟩=some (.int .i64 c):=fun w' h=>by
   have h1:=(h.block _ (q8 hX)).trans hX
   have h2:=(h.block _ (q8 hY)).trans hY
   exact ⟨(blk h1).1 0,(blk h1).1 1,(blk h2).1 0,(blk h2).1 1⟩
  have ha8:=q7 haE
  have HZ:=q7 hZ
  have HB:=q7 hb
  clear haE hX hY hZ hW hb
  refine qr (S:=fun w'=>Below W.heap.size W w') (by kernel_rfl) 11 ?_
  refine tkZ 0 19 (.pointer (some ⟨w.heap.size,0,none⟩)) rfl rfl (zI _ _).drew (fun w' h=>?_) ?_
  ·obtain ⟨h1,h2,h3,h4⟩:=ha8.out w' h
   go_simp
  refine tkZ 1 20 (.int .i64 a) rfl rfl (zI _ _).drew (fun w' h=>?_) ?_
  ·obtain ⟨h1,h2,h3,h4⟩:=ha8.out w' h
   go_simp
  refine tkZ 2 21 (.pointer (some ⟨w.heap.size+1,0,none⟩)) rfl rfl (zI _ _).drew (fun w' h=>?_) ?_
  ·obtain ⟨h1,h2,h3,h4⟩:=ha8.out w' h
   go_simp
  refine tkZ 3 22 (.int .i64 c) rfl rfl (zI _ _).drew (fun w' h=>?_) ?_
  ·obtain ⟨h1,h2,h3,h4⟩:=ha8.out w' h
   go_simp
  refine tkZ 4 23 (.int .i64 (a.tdiv c)) rfl rfl (zI _ _).drew (fun w' h=>?_) ?_
  ·obtain ⟨h1,h2,h3,h4⟩:=ha8.out w' h
   go_simp
  refine tkZ 5 24 (.pointer (some ⟨w.heap.size,1,none⟩)) rfl rfl (zI _ _).drew (fun w' h=>?_) ?_
  ·obtain ⟨h1,h2,h3,h4⟩:=ha8.out w' h
   go_simp
  refine tkZ 6 25 (.int .i64 b) rfl rfl (zI _ _).drew (fun w' h=>?_) ?_
  ·obtain ⟨h1,h2,h3,h4⟩:=ha8.out w' h
   go_simp
  refine tkZ 7 26 (.pointer (some ⟨w.heap.size+1,0,none⟩)) rfl rfl (zI _ _).drew (fun w' h=>?_) ?_
  ·obtain ⟨h1,h2,h3,h4⟩:=ha8.out w' h
   go_simp
  refine tkZ 8 27 (.int .i64 c) rfl rfl (zI _ _).drew (fun w' h=>?_) ?_
  ·obtain ⟨h1,h2,h3,h4⟩:=ha8.out w' h
   go_simp
  refine tkZ 9 28 (.int .i64 (b.tdiv c)) rfl rfl (zI _ _).drew (fun w' h=>?_) ?_
  ·obtain ⟨h1,h2,h3,h4⟩:=ha8.out w' h
   go_simp
  refine qk (i:=10) (by kernel_rfl) (qm 29 rfl rfl rfl (by go_simp) (qL (a.tdiv c) (b.tdiv c) _) ?_)
  rintro e w4 ⟨rfl,hw4⟩
  have hb4:Below W.heap.size W w4:=by rw [hw4];exact (zI _ W).drew.alloc (zK _) _
  clear hw4
  have hZ4:=(hb4.block _ (q8 HZ.out)).trans HZ.out
  refine ⟨_,rfl,hb4,?_⟩
  have z4:=q8 hZ4
  have c0:=(blk hZ4).1 0
  have c1:=(blk hZ4).1 1
  have c2:=(blk hZ4).1 2
  have cf:=(blk hZ4).2
  simp only [zE,zB,zD] at c0 c1 c2
  obtain ⟨W5,hW5⟩:∃W5,W5=((w4.setCell ⟨w.heap.size+1+1,0,none⟩ (.int .i64 (a.tdiv c))).setCell ⟨w.heap.size+1+1,1,none⟩ (.int .i64 (b.tdiv c))).setCell ⟨w.heap.size+1+1,2,none⟩ (.bool true):=⟨_,rfl⟩
  refine qk (i:=11) (by kernel_rfl) (qA W5 rfl rfl rfl (by rw [hW5];go_simp) (fun h=>absurd rfl h) (qx (by kernel_rfl) ?_ _))
  have hZ5:W5.heap[w.heap.size+1+1]?=some (.cells #[.int .i64 (a.tdiv c),.int .i64 (b.tdiv c),.bool true] 59 (0,0)):=by
   rw [hW5,qV (qV (qV hZ4 0 _) 1 _) 2 _]
   rfl
  have hb5:Below w.heap.size w W5:=by
   rw [hW5]
   exact (((HB.out.trans (hb4.mono HB.out.size)).setCell (by show w.heap.size≤w.heap.size+1+1;omega) _).setCell (by show w.heap.size≤w.heap.size+1+1;omega) _).setCell (by show w.heap.size≤w.heap.size+1+1;omega) _
  have e0:W5.cell? ⟨w.heap.size+1+1,0,none⟩=some (.int .i64 (a.tdiv c)):=(blk hZ5).1 0
  have e1:W5.cell? ⟨w.heap.size+1+1,1,none⟩=some (.int .i64 (b.tdiv c)):=(blk hZ5).1 1
  have e2:W5.cell? ⟨w.heap.size+1+1,2,none⟩=some (.bool true):=(blk hZ5).1 2
  have HB5:=q7 hb5
  clear hW5 hZ5 hb5 hb4 hZ4 c0 c1 c2 cf z4
  simp only [calm,Exit.then]
  go_simp
  go_wp2_with fail
  refine zk (v:=.agg #[.int .i64 (a.tdiv c),.int .i64 (b.tdiv c),.bool true]) ?_ rfl ⟨by rw [HD.out];rfl,HB5.out⟩
  simp [results,Tryz.results87,go_sem,e0,e1,e2]
 have hoc:Ys ⟨c,d,true⟩=false:=by simp [Ys,h2]
 have HD:=q7 (show Yt 5 ⟨a,b,true⟩ ⟨c,d,true⟩=ofS (min a 0) (max b 0) from by unfold Yt;rw [zQ h1,zQ (fun g=>h2 g.2),zZ rfl])
 simp only [spC]
 go_enter Tryz.func87,Tryz.ntmps87
 go_wp2_with (first|(go_at_call 17;refine (qB ⟨c,d,true⟩ _).mono ?_;rintro e w1 ⟨rfl,rfl⟩)|(go_at_call 76;refine (qL _ _ _).mono ?_;rintro e w1 ⟨rfl,rfl⟩))
 all_goals
  refine zk ?_ rfl ⟨by rw [HD.out],?_⟩
  ·first
    | (simp [results,Tryz.results87,go_sem,spC,ofS];done)
    | (simp [results,Tryz.results87,go_sem,spC,ofS];omega)
  exact bZ

theorem JE (a b:Int) (w:World):(Builtin.max_ #[3,3] 3 #[.int .i64 a,.int .i64 b]).run Tryz.prog w = .ok (.int .i64 (max a b)) w:=by
 simp [go_sem]
theorem JF (op:Int) (x y:Spn) (w:World) (hop:op=7∨op=8∨op=9) (hx:SpOk x) (hy:SpOk y) (hxh:x.has=true) (hyh:y.has=true) (hA:AllW w) :
  Calls Tryz.prog 88 #[.int .i64 op,.agg (spC x),.agg (spC y)] w fun e w'=>e = .returned (.agg (spC (Xt op x y)))∧Below w.heap.size w w':=by
 have xle:=hx.le hxh
 have yle:=hy.le hyh
 obtain ⟨x1,x2⟩:=hx.lo
 obtain ⟨x3,x4⟩:=hx.hi
 obtain ⟨y1,y2⟩:=hy.lo
 obtain ⟨y3,y4⟩:=hy.hi
 clear hx hy
 obtain ⟨a,b,s⟩:=x
 obtain ⟨c,d,s2⟩:=y
 simp only at hxh hyh xle yle x1 x2 x3 x4 y1 y2 y3 y4
 subst hxh hyh
 obtain ⟨g0,g1,g2⟩:=hA
 have zg:=qd g0
 rcases hop with rfl|hop
 ·by_cases ha:0≤a
  ·by_cases hc:0≤c
   ·have HD:=q7 (show Xt 7 ⟨a,b,true⟩ ⟨c,d,true⟩=ofS 0 (min b d) from by unfold Xt;simp [ha,hc])
    simp only [spC]
    go_enter Tryz.func88,Tryz.ntmps88
    go_wp2_with (go_at_call 76;refine (qL _ _ _).mono ?_;rintro e w1 ⟨rfl,rfl⟩)
    all_goals
     refine zk ?_ rfl ⟨by rw [HD.out],?_⟩
     ·first
       | (simp [results,Tryz.results88,go_sem,ofS];done)
       | (simp [results,Tryz.results88,go_sem,spC,ofS];omega)
     exact bZ
   have HD:=q7 (show Xt 7 ⟨a,b,true⟩ ⟨c,d,true⟩=ofS 0 b from by unfold Xt;simp [ha,hc])
   simp only [spC]
   go_enter Tryz.func88,Tryz.ntmps88
   go_wp2_with (go_at_call 76;refine (qL _ _ _).mono ?_;rintro e w1 ⟨rfl,rfl⟩)
   all_goals
    refine zk ?_ rfl ⟨by rw [HD.out],?_⟩
    ·first
      | (simp [results,Tryz.results88,go_sem,ofS];done)
      | (simp [results,Tryz.results88,go_sem,spC,ofS];omega)
    exact bZ
  by_cases hc:0≤c
  ·have HD:=q7 (show Xt 7 ⟨a,b,true⟩ ⟨c,d,true⟩=ofS 0 d from by unfold Xt;simp [ha,hc])
   simp only [spC]
   go_enter Tryz.func88,Tryz.ntmps88
   go_wp2_with (go_at_call 76;refine (qL _ _ _).mono ?_;rintro e w1 ⟨rfl,rfl⟩)
   all_goals
    refine zk ?_ rfl ⟨by rw [HD.out],?_⟩
    ·first
      | (simp [results,Tryz.results88,go_sem,ofS];done)
      | (simp [results,Tryz.results88,go_sem,spC,ofS];omega)
    exact bZ
  have HD:=q7 (show Xt 7 ⟨a,b,true⟩ ⟨c,d,true⟩=jW from by unfold Xt;simp [ha,hc])
  simp only [spC]
  go_enter Tryz.func88,Tryz.ntmps88
  go_wp2_with (go_at_call 76;refine (qL _ _ _).mono ?_;rintro e w1 ⟨rfl,rfl⟩)
  all_goals
   refine zk ?_ rfl ⟨by rw [HD.out],?_⟩
   ·first
     | (simp [results,Tryz.results88,go_sem,jW,vz,vi];done)
     | (simp [results,Tryz.results88,go_sem,spC,ofS];omega)
   exact bZ
 rcases hop with rfl|rfl
 rotate_left
 ·by_cases hn:a<0∨c<0
  ·have HD:=q7 (show Xt 9 ⟨a,b,true⟩ ⟨c,d,true⟩=jW from by unfold Xt;rw [zQ (by decide),zZ hn])
   simp only [spC]
   go_enter Tryz.func88,Tryz.ntmps88
   go_wp2_with fail
   all_goals
    refine zk ?_ rfl ⟨by rw [HD.out],?_⟩
    ·first
      | (simp [results,Tryz.results88,go_sem,jW,vz,vi];done)
      | (simp [results,Tryz.results88,go_sem,spC,ofS];omega)
    exact bZ
  have HD:=q7 (show Xt 9 ⟨a,b,true⟩ ⟨c,d,true⟩=ofS 0 (Qo (max b d)) from by unfold Xt;rw [zQ (by decide),zQ hn,zQ (by decide)])
  obtain ⟨M,hM⟩:∃M,M=max b d:=⟨_,rfl⟩
  rw [←hM] at HD
  have hM0:0≤M:=by omega
  have hM1:M≤9223372036854775807:=by omega
  have ha0:¬ a<0:=by omega
  have hc0:¬ c<0:=by omega
  have hsV:∀w,(Builtin.max_ #[3,3] 3 #[.int .i64 b,.int .i64 d]).run Tryz.prog w = .ok (.int .i64 M) w:=fun w=>by rw [hM];exact JE b d w
  clear hM g0 g1 g2 zg hn
  simp only [spC]
  go_enter Tryz.func88,Tryz.ntmps88
  go_wp2_with (first|(go_at_call 128;refine (Zp M _ hM0 hM1).mono ?_;rintro e w3 ⟨rfl,hw3⟩;rw [hw3];clear hw3)|(go_at_call 76;refine (qL _ _ _).mono ?_;rintro e w1 ⟨rfl,rfl⟩))
  all_goals
   refine zk ?_ rfl ⟨by rw [HD.out],?_⟩
   ·first
     | (simp [results,Tryz.results88,go_sem,ofS];done)
     | (simp [results,Tryz.results88,go_sem,spC,ofS];omega)
   exact bZ
 by_cases hn:a<0∨c<0
 ·have HD:=q7 (show Xt 8 ⟨a,b,true⟩ ⟨c,d,true⟩=jW from by unfold Xt;rw [zQ (by decide),zZ hn])
  simp only [spC]
  go_enter Tryz.func88,Tryz.ntmps88
  go_wp2_with fail
  all_goals
   refine zk ?_ rfl ⟨by rw [HD.out],?_⟩
   ·first
     | (simp [results,Tryz.results88,go_sem,jW,vz,vi];done)
     | (simp [results,Tryz.results88,go_sem,spC,ofS];omega)
   exact bZ
 have HD:=q7 (show Xt 8 ⟨a,b,true⟩ ⟨c,d,true⟩=ofS (max a c) (Qo (max b d)) from by unfold Xt;rw [zQ (by decide),zQ hn,zZ rfl])
 obtain ⟨M,hM⟩:∃M,M=max b d:=⟨_,rfl⟩
 obtain ⟨N,hN⟩:∃N,N=max a c:=⟨_,rfl⟩
 rw [←hM,←hN] at HD
 have hM0:0≤M:=by omega
 have hM1:M≤9223372036854775807:=by omega
 have ha0:¬ a<0:=by omega
 have hc0:¬ c<0:=by omega
 have hvh:∀w,(Builtin.max_ #[3,3] 3 #[.int .i64 a,.int .i64 c]).run Tryz.prog w = .ok (.int .i64 N) w:=fun w=>by rw [hN];exact JE a c w
 have hsV:∀w,(Builtin.max_ #[3,3] 3 #[.int .i64 b,.int .i64 d]).run Tryz.prog w = .ok (.int .i64 M) w:=fun w=>by rw [hM];exact JE b d w
 clear hM hN g0 g1 g2 zg hn
 simp only [spC]
 go_enter Tryz.func88,Tryz.ntmps88
 go_wp2_with fail
 obtain ⟨W,hW⟩:∃W,W=((w.alloc (.cells #[.int .i64 a,.int .i64 b,.bool true] 59)).alloc (.cells #[.int .i64 c,.int .i64 d,.bool true] 59)).alloc (.cells #[.int .i64 0,.int .i64 0,.bool false] 59):=⟨_,rfl⟩
 rw [←hW]
 have hb:Below w.heap.size w W:=by rw [hW];exact bZ
 have hX:W.heap[w.heap.size]?=some (.cells #[.int .i64 a,.int .i64 b,.bool true] 59 (0,0)):=by rw [hW];exact qg (qg (qn w _))
 have hY:W.heap[w.heap.size+1]?=some (.cells #[.int .i64 c,.int .i64 d,.bool true] 59 (0,0)):=by rw [hW];exact qg (qh (by simp))
 have hZ:W.heap[w.heap.size+1+1]?=some (.cells #[.int .i64 0,.int .i64 0,.bool false] 59 (0,0)):=by rw [hW];exact qh (by simp)
 have haE:∀w',Below W.heap.size W w'→w'.cell? ⟨w.heap.size,0,none⟩=some (.int .i64 a)∧w'.cell? ⟨w.heap.size,1,none⟩=some (.int .i64 b)∧w'.cell? ⟨w.heap.size+1,0,none⟩=some (.int .i64 c)∧w'.cell? ⟨w.heap.size+1,1,none⟩=some (.int .i64 d):=fun w' h=>by
  have h1:=(h.block _ (q8 hX)).trans hX
  have h2:=(h.block _ (q8 hY)).trans hY
  exact ⟨(blk h1).1 0,(blk h1).1 1,(blk h2).1 0,(blk h2).1 1⟩
 have ha8:=q7 haE
 have HZ:=q7 hZ
 have HB:=q7 hb
 clear haE hX hY hZ hW hb
 refine qr (S:=fun w'=>Below W.heap.size W w') (by kernel_rfl) 12 ?_
 refine tkZ 0 65 (.pointer (some ⟨w.heap.size,0,none⟩)) rfl rfl (zI _ _).drew (fun w' h=>?_) ?_
 ·obtain ⟨h1,h2,h3,h4⟩:=ha8.out w' h
  go_simp
 refine tkZ 1 66 (.int .i64 a) rfl rfl (zI _ _).drew (fun w' h=>?_) ?_
 ·obtain ⟨h1,h2,h3,h4⟩:=ha8.out w' h
  go_simp
 refine tkZ 2 67 (.pointer (some ⟨w.heap.size+1,0,none⟩)) rfl rfl (zI _ _).drew (fun w' h=>?_) ?_
 ·obtain ⟨h1,h2,h3,h4⟩:=ha8.out w' h
  go_simp
 refine tkZ 3 68 (.int .i64 c) rfl rfl (zI _ _).drew (fun w' h=>?_) ?_
 ·obtain ⟨h1,h2,h3,h4⟩:=ha8.out w' h
  go_simp
 refine tkZ 4 69 (.int .i64 N) rfl rfl (zI _ _).drew (fun w' h=>?_) ?_
 ·obtain ⟨h1,h2,h3,h4⟩:=ha8.out w' h
  go_simp
 refine tkZ 5 70 (.pointer (some ⟨w.heap.size,1,none⟩)) rfl rfl (zI _ _).drew (fun w' h=>?_) ?_
 ·obtain ⟨h1,h2,h3,h4⟩:=ha8.out w' h
  go_simp
 refine tkZ 6 71 (.int .i64 b) rfl rfl (zI _ _).drew (fun w' h=>?_) ?_
 ·obtain ⟨h1,h2,h3,h4⟩:=ha8.out w' h
  go_simp
 refine tkZ 7 72 (.pointer (some ⟨w.heap.size+1,1,none⟩)) rfl rfl (zI _ _).drew (fun w' h=>?_) ?_
 ·obtain ⟨h1,h2,h3,h4⟩:=ha8.out w' h
  go_simp
 refine tkZ 8 73 (.int .i64 d) rfl rfl (zI _ _).drew (fun w' h=>?_) ?_
 ·obtain ⟨h1,h2,h3,h4⟩:=ha8.out w' h
  go_simp
 refine tkZ 9 74 (.int .i64 M) rfl rfl (zI _ _).drew (fun w' h=>?_) ?_
 ·obtain ⟨h1,h2,h3,h4⟩:=ha8.out w' h
  go_simp
 refine qk (i:=10) (by kernel_rfl) (qm 75 rfl rfl rfl (by go_simp) (Zp M _ hM0 hM1) ?_)
 rintro e w3 ⟨rfl,hw3⟩
 rw [hw3]
 clear hw3
 refine ⟨_,rfl,(zI _ W).drew,?_⟩
 refine qk (i:=11) (by kernel_rfl) (qm 76 rfl rfl rfl (by go_simp) (qL N (Qo M) _) ?_)
 rintro e w4 ⟨rfl,hw4⟩
 have hb4:Below W.heap.size W w4:=by rw [hw4];exact (zI _ W).drew.alloc (zK _) _
 clear hw4
 refine ⟨_,rfl,hb4,?_⟩
 have hZ4:=(hb4.block _ (q8 HZ.out)).trans HZ.out
 have z4:=q8 hZ4
 have c0:=(blk hZ4).1 0
 have c1:=(blk hZ4).1 1
 have c2:=(blk hZ4).1 2
 have cf:=(blk hZ4).2
 simp only [zE,zB,zD] at c0 c1 c2
 obtain ⟨W5,hW5⟩:∃W5,W5=((w4.setCell ⟨w.heap.size+1+1,0,none⟩ (.int .i64 N)).setCell ⟨w.heap.size+1+1,1,none⟩ (.int .i64 (Qo M))).setCell ⟨w.heap.size+1+1,2,none⟩ (.bool true):=⟨_,rfl⟩
 refine qk (i:=12) (by kernel_rfl) (qA W5 rfl rfl rfl (by rw [hW5];go_simp) (fun h=>absurd rfl h) (qx (by kernel_rfl) ?_ _))
 have hZ5:W5.heap[w.heap.size+1+1]?=some (.cells #[.int .i64 N,.int .i64 (Qo M),.bool true] 59 (0,0)):=by
  rw [hW5,qV (qV (qV hZ4 0 _) 1 _) 2 _]
  rfl
 have hb5:Below w.heap.size w W5:=by
  rw [hW5]
  exact (((HB.out.trans (hb4.mono HB.out.size)).setCell (by show w.heap.size≤w.heap.size+1+1;omega) _).setCell (by show w.heap.size≤w.heap.size+1+1;omega) _).setCell (by show w.heap.size≤w.heap.size+1+1;omega) _
 have e0:W5.cell? ⟨w.heap.size+1+1,0,none⟩=some (.int .i64 N):=(blk hZ5).1 0
 have e1:W5.cell? ⟨w.heap.size+1+1,1,none⟩=some (.int .i64 (Qo M)):=(blk hZ5).1 1
 have e2:W5.cell? ⟨w.heap.size+1+1,2,none⟩=some (.bool true):=(blk hZ5).1 2
 have HB5:=q7 hb5
 clear hW5 hZ5 hb5 hb4 hZ4 c0 c1 c2 cf z4
 simp only [calm,Exit.then]
 go_simp
 go_wp2_with fail
 refine zk (v:=.agg #[.int .i64 N,.int .i64 (Qo M),.bool true]) ?_ rfl ⟨by rw [HD.out];rfl,HB5.out⟩
 simp [results,Tryz.results88,go_sem,e0,e1,e2]
end Go.Proofs.YtbnnhmcloecijaaGreatDoor
