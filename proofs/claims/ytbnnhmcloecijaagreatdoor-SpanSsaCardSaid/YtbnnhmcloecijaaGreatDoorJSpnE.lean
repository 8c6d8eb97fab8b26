/-
  The contract of span.product: a product, and does it fit?
-/
import Derived.Test.YtbnnhmcloecijaaGreatDoorJSpnC
set_option maxRecDepth 100000
set_option maxHeartbeats 16000000
namespace Go.Proofs.YtbnnhmcloecijaaGreatDoor
open Go.RowKit Go.Shelf Go.Lib

theorem JG (a c:Int):decide (a=c)=(a == c):=by rw [Bool.eq_iff_iff];simp
theorem jX (a b:Bool) (w:World) :
  Calls Tryz.prog 129 #[.bool a,.bool b] w fun e w'=>e = .returned (.agg #[.int .i64 (x8 a b).lo,.int .i64 (x8 a b).hi,.bool (x8 a b).has])∧w'=(w.alloc (.cells #[.int .i64 (x8 a b).lo,.int .i64 (x8 a b).hi,.bool (x8 a b).has] 59)).alloc (.cells #[.int .i64 (x8 a b).lo,.int .i64 (x8 a b).hi,.bool (x8 a b).has] 59):=VG a b w
theorem jA (a:Int):Ys ⟨a,a,true⟩=true:=by simp [Ys]
theorem Qp {a b:Int} (h:¬ a=b):Ys ⟨a,b,true⟩=false:=by simp [Ys,h]
theorem JH (op:Int) (x y:Spn) (w:World) (hop:op=10∨op=11) (hx:SpOk x) (hy:SpOk y) (hxh:x.has=true) (hyh:y.has=true) (hA:AllW w) :
  Calls Tryz.prog 89 #[.int .i64 op,.agg (spC x),.agg (spC y)] w fun e w'=>e = .returned (.agg (spC (K2 op x y)))∧Below w.heap.size w w':=by
 have xle:=hx.le hxh
 have yle:=hy.le hyh
 obtain ⟨x1,x2⟩:=hx.lo
 obtain ⟨x3,x4⟩:=hx.hi
 obtain ⟨y1,y2⟩:=hy.lo
 obtain ⟨y3,y4⟩:=hy.hi
 clear hx hy
 obtain ⟨a,b,s⟩:=x
 obtain ⟨c,d,s2⟩:=y
 simp only at hxh hyh xle yle x1 x2 x3 x4 y1 y2 y3 y4
 subst hxh hyh
 obtain ⟨g0,g1,g2⟩:=hA
 have zg:=qd g0
 have h63:=i64_and63 c
 have h64:(c % 64<0)=False:=by simp;omega
 have hwr:∀n,IntKind.i64.wrap n=wrap64 n:=IntWalk.i64_left
 have hwu:IntKind.u64.wrap (c % 64)=c % 64:=by rw [IntKind.wrap_u64];omega
 have hsg:IntKind.i64.signed=true:=rfl
 rcases hop with rfl|rfl
 ·by_cases hab:a=b
  ·by_cases hcd:c=d
   ·subst hab hcd
    have HD:=q7 (show K2 10 ⟨a,a,true⟩ ⟨c,c,true⟩=ofS (wrap64 (a*2 ^ (c % 64).toNat)) (wrap64 (a*2 ^ (c % 64).toNat)) from by unfold K2;simp;rfl)
    have hsU:=fun k=>shift_shl .i64 k a (c % 64) (by omega) (by show c % 64≤((64:Nat):Int);omega)
    have o1:=jA a
    have o2:=jA c
    have kn:=fun w=>qB ⟨a,a,true⟩ w
    simp only [spC,o1] at kn
    have HO1:=q7 kn
    clear kn o1
    have one2:=fun w=>qB ⟨c,c,true⟩ w
    simp only [spC,o2] at one2
    have HO2:=q7 one2
    clear one2 o2
    simp only [spC]
    go_enter Tryz.func89,Tryz.ntmps89
    go_wp2_with (first|(go_at_call 17;first|((with_reducible refine (HO1.out _).mono ?_);rintro e w1 ⟨rfl,rfl⟩)|((with_reducible refine (HO2.out _).mono ?_);rintro e w1 ⟨rfl,rfl⟩))|(go_at_call 18;refine (qP _ _).mono ?_;rintro e w1 ⟨rfl,rfl⟩))
    all_goals
     refine zk ?_ rfl ⟨by rw [HD.out],?_⟩
     ·first
       | (simp [results,Tryz.results89,go_sem,ofS];done)
       | (simp [results,Tryz.results89,go_sem,spC,ofS];omega)
     exact bZ
   subst hab
   have HD:=q7 (show K2 10 ⟨a,a,true⟩ ⟨c,d,true⟩=jW from by unfold K2;simp [hcd])
   have o1:=jA a
   have o2:=Qp hcd
   have kn:=fun w=>qB ⟨a,a,true⟩ w
   simp only [spC,o1] at kn
   have HO1:=q7 kn
   clear kn o1
   have one2:=fun w=>qB ⟨c,d,true⟩ w
   simp only [spC,o2] at one2
   have HO2:=q7 one2
   clear one2 o2
   simp only [spC]
   go_enter Tryz.func89,Tryz.ntmps89
   go_wp2_with (go_at_call 17;first|((with_reducible refine (HO1.out _).mono ?_);rintro e w1 ⟨rfl,rfl⟩)|((with_reducible refine (HO2.out _).mono ?_);rintro e w1 ⟨rfl,rfl⟩))
   all_goals
    refine zk ?_ rfl ⟨by rw [HD.out],?_⟩
    ·first
      | (simp [results,Tryz.results89,go_sem,jW,vz,vi];done)
      | (simp [results,Tryz.results89,go_sem,spC,ofS];omega)
    exact bZ
  have HD:=q7 (show K2 10 ⟨a,b,true⟩ ⟨c,d,true⟩=jW from by unfold K2;simp [hab])
  have o1:=Qp hab
  have kn:=fun w=>qB ⟨a,b,true⟩ w
  simp only [spC,o1] at kn
  have HO1:=q7 kn
  clear kn o1
  simp only [spC]
  go_enter Tryz.func89,Tryz.ntmps89
  go_wp2_with (go_at_call 17;first|((with_reducible refine (HO1.out _).mono ?_);rintro e w1 ⟨rfl,rfl⟩))
  all_goals
   refine zk ?_ rfl ⟨by rw [HD.out],?_⟩
   ·first
     | (simp [results,Tryz.results89,go_sem,jW,vz,vi];done)
     | (simp [results,Tryz.results89,go_sem,spC,ofS];omega)
   exact bZ
 by_cases hcd:c=d
 ·subst hcd
  have HD:=q7 (show K2 11 ⟨a,b,true⟩ ⟨c,c,true⟩=ofS (a / 2 ^ (c % 64).toNat) (b / 2 ^ (c % 64).toNat) from by unfold K2;simp;rfl)
  have hs1:=fun k=>shift_shr .i64 k a (c % 64) (by omega) (by show c % 64≤((64:Nat):Int);omega)
  have hs2:=fun k=>shift_shr .i64 k b (c % 64) (by omega) (by show c % 64≤((64:Nat):Int);omega)
  have o2:=jA c
  have one2:=fun w=>qB ⟨c,c,true⟩ w
  simp only [spC,o2] at one2
  have HO2:=q7 one2
  clear one2 o2
  simp only [spC]
  go_enter Tryz.func89,Tryz.ntmps89
  go_wp2_with (go_at_call 17;first|((with_reducible refine (HO2.out _).mono ?_);rintro e w1 ⟨rfl,rfl⟩))
  obtain ⟨W,hW⟩:∃W,W=(((w.alloc (.cells #[.int .i64 a,.int .i64 b,.bool true] 59)).alloc (.cells #[.int .i64 c,.int .i64 c,.bool true] 59)).alloc (.cells #[.int .i64 0,.int .i64 0,.bool false] 59)).alloc (.cells #[.int .i64 c,.int .i64 c,.bool true] 59):=⟨_,rfl⟩
  rw [←hW]
  have hb:Below w.heap.size w W:=by rw [hW];exact bZ
  have hX:W.heap[w.heap.size]?=some (.cells #[.int .i64 a,.int .i64 b,.bool true] 59 (0,0)):=by rw [hW];exact qg (qg (qg (qn w _)))
  have hY:W.heap[w.heap.size+1]?=some (.cells #[.int .i64 c,.int .i64 c,.bool true] 59 (0,0)):=by rw [hW];exact qg (qg (qh (by simp)))
  have hZ:W.heap[w.heap.size+1+1]?=some (.cells #[.int .i64 0,.int .i64 0,.bool false] 59 (0,0)):=by rw [hW];exact qg (qh (by simp))
  have haE:∀w',Below W.heap.size W w'→w'.cell? ⟨w.heap.size,0,none⟩=some (.int .i64 a)∧w'.cell? ⟨w.heap.size,1,none⟩=some (.int .i64 b)∧w'.cell? ⟨w.heap.size+1,0,none⟩=some (.int .i64 c)∧w'.cell? ⟨w.heap.size+1,1,none⟩=some (.int .i64 c):=fun w' h=>by
   have h1:=(h.block _ (q8 hX)).trans hX
   have h2:=(h.block _ (q8 hY)).trans hY
   exact ⟨(blk h1).1 0,(blk h1).1 1,(blk h2).1 0,(blk h2).1 1⟩
  have ha8:=q7 haE
  have HZ:=q7 hZ
  have HB:=q7 hb
  clear haE hX hY hZ hW hb
  refine qr (S:=fun w'=>Below W.heap.size W w') (by kernel_rfl) 13 ?_
  refine tkZ 0 32 (.pointer (some ⟨w.heap.size,0,none⟩)) rfl rfl (zI _ _).drew (fun w' h=>?_) ?_
  ·obtain ⟨h1,h2,h3,h4⟩:=ha8.out w' h
   go_simp
  refine tkZ 1 33 (.int .i64 a) rfl rfl (zI _ _).drew (fun w' h=>?_) ?_
  ·obtain ⟨h1,h2,h3,h4⟩:=ha8.out w' h
   go_simp
  refine tkZ 2 34 (.pointer (some ⟨w.heap.size+1,0,none⟩)) rfl rfl (zI _ _).drew (fun w' h=>?_) ?_
  ·obtain ⟨h1,h2,h3,h4⟩:=ha8.out w' h
   go_simp
  refine tkZ 3 35 (.int .i64 c) rfl rfl (zI _ _).drew (fun w' h=>?_) ?_
  ·obtain ⟨h1,h2,h3,h4⟩:=ha8.out w' h
   go_simp
  refine tkZ 4 36 (.int .i64 (c % 64)) rfl rfl (zI _ _).drew (fun w' h=>?_) ?_
  ·obtain ⟨h1,h2,h3,h4⟩:=ha8.out w' h
   go_simp
  refine tkZ 5 37 (.int .i64 (a / 2 ^ (c % 64).toNat)) rfl rfl (zI _ _).drew (fun w' h=>?_) ?_
  ·obtain ⟨h1,h2,h3,h4⟩:=ha8.out w' h
   go_simp
  refine tkZ 6 38 (.pointer (some ⟨w.heap.size,1,none⟩)) rfl rfl (zI _ _).drew (fun w' h=>?_) ?_
  ·obtain ⟨h1,h2,h3,h4⟩:=ha8.out w' h
   go_simp
  refine tkZ 7 39 (.int .i64 b) rfl rfl (zI _ _).drew (fun w' h=>?_) ?_
  ·obtain ⟨h1,h2,h3,h4⟩:=ha8.out w' h
   go_simp
  refine tkZ 8 40 (.pointer (some ⟨w.heap.size+1,0,none⟩)) rfl rfl (zI _ _).drew (fun w' h=>?_) ?_
  ·obtain ⟨h1,h2,h3,h4⟩:=ha8.out w' h
   go_simp
  refine tkZ 9 41 (.int .i64 c) rfl rfl (zI _ _).drew (fun w' h=>?_) ?_
  ·obtain ⟨h1,h2,h3,h4⟩:=ha8.out w' h
   go_simp
  refine tkZ 10 42 (.int .i64 (c % 64)) rfl rfl (zI _ _).drew (fun w' h=>?_) ?_
  ·obtain ⟨h1,h2,h3,h4⟩:=ha8.out w' h
   go_simp
  refine tkZ 11 43 (.int .i64 (b / 2 ^ (c % 64).toNat)) rfl rfl (zI _ _).drew (fun w' h=>?_) ?_
  ·obtain ⟨h1,h2,h3,h4⟩:=ha8.out w' h
   go_simp
  refine qk (i:=12) (by kernel_rfl) (qm 44 rfl rfl rfl (by go_simp) (qL (a / 2 ^ (c % 64).toNat) (b / 2 ^ (c % 64).toNat) _) ?_)
  rintro e w4 ⟨rfl,hw4⟩
  have hb4:Below W.heap.size W w4:=by rw [hw4];exact (zI _ W).drew.alloc (zK _) _
  clear hw4
  refine ⟨_,rfl,hb4,?_⟩
  have hZ4:=(hb4.block _ (q8 HZ.out)).trans HZ.out
  have z4:=q8 hZ4
  have c0:=(blk hZ4).1 0
  have c1:=(blk hZ4).1 1
  have c2:=(blk hZ4).1 2
  have cf:=(blk hZ4).2
  simp only [zE,zB,zD] at c0 c1 c2
  obtain ⟨W5,hW5⟩:∃W5,W5=((w4.setCell ⟨w.heap.size+1+1,0,none⟩ (.int .i64 (a / 2 ^ (c % 64).toNat))).setCell ⟨w.heap.size+1+1,1,none⟩ (.int .i64 (b / 2 ^ (c % 64).toNat))).setCell ⟨w.heap.size+1+1,2,none⟩ (.bool true):=⟨_,rfl⟩
  refine qk (i:=13) (by kernel_rfl) (qA W5 rfl rfl rfl (by rw [hW5];go_simp) (fun h=>absurd rfl h) (qx (by kernel_rfl) ?_ _))
  have hZ5:W5.heap[w.heap.size+1+1]?=some (.cells #[.int .i64 (a / 2 ^ (c % 64).toNat),.int .i64 (b / 2 ^ (c % 64).toNat),.bool true] 59 (0,0)):=by
   rw [hW5,qV (qV (qV hZ4 0 _) 1 _) 2 _]
   rfl
  have hb5:Below w.heap.size w W5:=by
   rw [hW5]
   exact (((HB.out.trans (hb4.mono HB.out.size)).setCell (by show w.heap.size≤w.heap.size+1+1;omega) _).setCell (by show w.heap.size≤w.heap.size+1+1;omega) _).setCell (by show w.heap.size≤w.heap.size+1+1;omega) _
  have e0:W5.cell? ⟨w.heap.size+1+1,0,none⟩=some (.int .i64 (a / 2 ^ (c % 64).toNat)):=(blk hZ5).1 0
  have e1:W5.cell? ⟨w.heap.size+1+1,1,none⟩=some (.int .i64 (b / 2 ^ (c % 64).toNat)):=(blk hZ5).1 1
  have e2:W5.cell? ⟨w.heap.size+1+1,2,none⟩=some (.bool true):=(blk hZ5).1 2
  have HB5:=q7 hb5
  clear hW5 hZ5 hb5 hb4 hZ4 c0 c1 c2 cf z4
  simp only [calm,Exit.then]
  go_simp
  go_wp2_with fail
  refine zk (v:=.agg #[.int .i64 (a / 2 ^ (c % 64).toNat),.int .i64 (b / 2 ^ (c % 64).toNat),.bool true]) ?_ rfl ⟨by rw [HD.out];rfl,HB5.out⟩
  simp [results,Tryz.results89,go_sem,e0,e1,e2]
 have HD:=q7 (show K2 11 ⟨a,b,true⟩ ⟨c,d,true⟩=ofS (min a 0) (max b (-1)) from by unfold K2;simp [hcd])
 have o2:=Qp hcd
 have one2:=fun w=>qB ⟨c,d,true⟩ w
 simp only [spC,o2] at one2
 have HO2:=q7 one2
 clear one2 o2
 simp only [spC]
 go_enter Tryz.func89,Tryz.ntmps89
 go_wp2_with (first|(go_at_call 17;first|((with_reducible refine (HO2.out _).mono ?_);rintro e w1 ⟨rfl,rfl⟩))|(go_at_call 76;refine (qL _ _ _).mono ?_;rintro e w1 ⟨rfl,rfl⟩))
 all_goals
  refine zk ?_ rfl ⟨by rw [HD.out],?_⟩
  ·first
    | (simp [results,Tryz.results89,go_sem,ofS];done)
    | (simp [results,Tryz.results89,go_sem,spC,ofS];omega)
  exact bZ

theorem VH (op:Int) (x y:Spn) (w:World) (hop:12≤op∧op≤15) (hxh:x.has=true) (hyh:y.has=true) :
  Calls Tryz.prog 90 #[.int .i64 op,.agg (spC x),.agg (spC y)] w fun e w'=>e = .returned (.agg (spC (jz op x y)))∧Below w.heap.size w w':=by
 obtain ⟨a,b,s⟩:=x
 obtain ⟨c,d,s2⟩:=y
 simp only at hxh hyh
 subst hxh hyh
 have ho:op=12∨op=13∨op=14∨op=15:=by omega
 clear hop
 have hs:∀p q r t:Bool,x8 p q=x8 p q:=fun _ _ _ _=>rfl
 clear hs
 simp only [spC]
 by_cases e1:b<c
 ·by_cases hab:a=b
  ·by_cases hcd:c=d
   ·subst hab hcd
    have D2:=q7 (show jz 12 ⟨a,a,true⟩ ⟨c,c,true⟩=x8 (a == c) true from by rw [←JG a c];unfold jz xx xw;simp [e1])
    have D3:=q7 (show jz 13 ⟨a,a,true⟩ ⟨c,c,true⟩=x8 true (a == c) from by rw [←JG a c];unfold jz xx xw;simp [e1])
    have D4:=q7 (show jz 14 ⟨a,a,true⟩ ⟨c,c,true⟩=x8 true (decide (c≤a)) from by unfold jz xx xw;simp [e1])
    have D5:=q7 (show jz 15 ⟨a,a,true⟩ ⟨c,c,true⟩=x8 (decide (a≤c)) (decide (c<a)) from by unfold jz xx xw;simp)
    have o1:=jA a
    have o2:=jA c
    have kn:=fun w=>qB ⟨a,a,true⟩ w
    simp only [spC,o1] at kn
    have HO1:=q7 kn
    clear kn o1
    have one2:=fun w=>qB ⟨c,c,true⟩ w
    simp only [spC,o2] at one2
    have HO2:=q7 one2
    clear one2 o2
    rcases ho with rfl|rfl|rfl|rfl
    all_goals
     go_enter Tryz.func90,Tryz.ntmps90
     go_wp2_with (first|(go_at_call 17;first|((with_reducible refine (HO1.out _).mono ?_);rintro e w1 ⟨rfl,rfl⟩)|((with_reducible refine (HO2.out _).mono ?_);rintro e w1 ⟨rfl,rfl⟩))|(go_at_call 129;refine (jX _ _ _).mono ?_;rintro e w1 ⟨rfl,rfl⟩))
     all_goals
      refine zk ?_ rfl ⟨by first|rw [D2.out]|rw [D3.out]|rw [D4.out]|rw [D5.out],?_⟩
      ·first|(simp [results,Tryz.results90,go_sem];done)
      exact bZ
   subst hab
   have D2:=q7 (show jz 12 ⟨a,a,true⟩ ⟨c,d,true⟩=x8 false true from by unfold jz xx xw;simp [e1,hcd])
   have D3:=q7 (show jz 13 ⟨a,a,true⟩ ⟨c,d,true⟩=x8 true false from by unfold jz xx xw;simp [e1,hcd])
   have D4:=q7 (show jz 14 ⟨a,a,true⟩ ⟨c,d,true⟩=x8 true (decide (d≤a)) from by unfold jz xx xw;simp [e1])
   have D5:=q7 (show jz 15 ⟨a,a,true⟩ ⟨c,d,true⟩=x8 (decide (a≤c)) (decide (d<a)) from by unfold jz xx xw;simp)
   have o1:=jA a
   have o2:=Qp hcd
   have kn:=fun w=>qB ⟨a,a,true⟩ w
   simp only [spC,o1] at kn
   have HO1:=q7 kn
   clear kn o1
   have one2:=fun w=>qB ⟨c,d,true⟩ w
   simp only [spC,o2] at one2
   have HO2:=q7 one2
   clear one2 o2
   rcases ho with rfl|rfl|rfl|rfl
   all_goals
    go_enter Tryz.func90,Tryz.ntmps90
    go_wp2_with (first|(go_at_call 17;first|((with_reducible refine (HO1.out _).mono ?_);rintro e w1 ⟨rfl,rfl⟩)|((with_reducible refine (HO2.out _).mono ?_);rintro e w1 ⟨rfl,rfl⟩))|(go_at_call 129;refine (jX _ _ _).mono ?_;rintro e w1 ⟨rfl,rfl⟩))
    all_goals
     refine zk ?_ rfl ⟨by first|rw [D2.out]|rw [D3.out]|rw [D4.out]|rw [D5.out],?_⟩
     ·first|(simp [results,Tryz.results90,go_sem];done)
     exact bZ
  have D2:=q7 (show jz 12 ⟨a,b,true⟩ ⟨c,d,true⟩=x8 false true from by unfold jz xx xw;simp [e1,hab])
  have D3:=q7 (show jz 13 ⟨a,b,true⟩ ⟨c,d,true⟩=x8 true false from by unfold jz xx xw;simp [e1,hab])
  have D4:=q7 (show jz 14 ⟨a,b,true⟩ ⟨c,d,true⟩=x8 true (decide (d≤a)) from by unfold jz xx xw;simp [e1])
  have D5:=q7 (show jz 15 ⟨a,b,true⟩ ⟨c,d,true⟩=x8 (decide (b≤c)) (decide (d<a)) from by unfold jz xx xw;simp)
  have o1:=Qp hab
  have kn:=fun w=>qB ⟨a,b,true⟩ w
  simp only [spC,o1] at kn
  have HO1:=q7 kn
  clear kn o1
  rcases ho with rfl|rfl|rfl|rfl
  all_goals
   go_enter Tryz.func90,Tryz.ntmps90
   go_wp2_with (first|(go_at_call 17;first|((with_reducible refine (HO1.out _).mono ?_);rintro e w1 ⟨rfl,rfl⟩))|(go_at_call 129;refine (jX _ _ _).mono ?_;rintro e w1 ⟨rfl,rfl⟩))
   all_goals
    refine zk ?_ rfl ⟨by first|rw [D2.out]|rw [D3.out]|rw [D4.out]|rw [D5.out],?_⟩
    ·first|(simp [results,Tryz.results90,go_sem];done)
    exact bZ
 by_cases hab:a=b
 ·by_cases hcd:c=d
  ·subst hab hcd
   have D2:=q7 (show jz 12 ⟨a,a,true⟩ ⟨c,c,true⟩=x8 (a == c) (decide (c<a)) from by rw [←JG a c];unfold jz xx xw;simp [e1])
   have D3:=q7 (show jz 13 ⟨a,a,true⟩ ⟨c,c,true⟩=x8 (decide (c<a)) (a == c) from by rw [←JG a c];unfold jz xx xw;simp [e1])
   have D4:=q7 (show jz 14 ⟨a,a,true⟩ ⟨c,c,true⟩=x8 false (decide (c≤a)) from by unfold jz xx xw;simp [e1])
   have D5:=q7 (show jz 15 ⟨a,a,true⟩ ⟨c,c,true⟩=x8 (decide (a≤c)) (decide (c<a)) from by unfold jz xx xw;simp)
   have o1:=jA a
   have o2:=jA c
   have kn:=fun w=>qB ⟨a,a,true⟩ w
   simp only [spC,o1] at kn
   have HO1:=q7 kn
   clear kn o1
   have one2:=fun w=>qB ⟨c,c,true⟩ w
   simp only [spC,o2] at one2
   have HO2:=q7 one2
   clear one2 o2
   rcases ho with rfl|rfl|rfl|rfl
   all_goals
    go_enter Tryz.func90,Tryz.ntmps90
    go_wp2_with (first|(go_at_call 17;first|((with_reducible refine (HO1.out _).mono ?_);rintro e w1 ⟨rfl,rfl⟩)|((with_reducible refine (HO2.out _).mono ?_);rintro e w1 ⟨rfl,rfl⟩))|(go_at_call 129;refine (jX _ _ _).mono ?_;rintro e w1 ⟨rfl,rfl⟩))
    all_goals
     refine zk ?_ rfl ⟨by first|rw [D2.out]|rw [D3.out]|rw [D4.out]|rw [D5.out],?_⟩
     ·first|(simp [results,Tryz.results90,go_sem];done)|((have hf:decide (a<c)=false:=by simp;omega);(have ht:decide (c≤a)=true:=by simp;omega);simp [results,Tryz.results90,go_sem,hf,ht])
     exact bZ
  subst hab
  have D2:=q7 (show jz 12 ⟨a,a,true⟩ ⟨c,d,true⟩=x8 false (decide (d<a)) from by unfold jz xx xw;simp [e1,hcd])
  have D3:=q7 (show jz 13 ⟨a,a,true⟩ ⟨c,d,true⟩=x8 (decide (d<a)) false from by unfold jz xx xw;simp [e1,hcd])
  have D4:=q7 (show jz 14 ⟨a,a,true⟩ ⟨c,d,true⟩=x8 false (decide (d≤a)) from by unfold jz xx xw;simp [e1])
  have D5:=q7 (show jz 15 ⟨a,a,true⟩ ⟨c,d,true⟩=x8 (decide (a≤c)) (decide (d<a)) from by unfold jz xx xw;simp)
  have o1:=jA a
  have o2:=Qp hcd
  have kn:=fun w=>qB ⟨a,a,true⟩ w
  simp only [spC,o1] at kn
  have HO1:=q7 kn
  clear kn o1
  have one2:=fun w=>qB ⟨c,d,true⟩ w
  simp only [spC,o2] at one2
  have HO2:=q7 one2
  clear one2 o2
  rcases ho with rfl|rfl|rfl|rfl
  all_goals
   go_enter Tryz.func90,Tryz.ntmps90
   go_wp2_with (first|(go_at_call 17;first|((with_reducible refine (HO1.out _).mono ?_);rintro e w1 ⟨rfl,rfl⟩)|((with_reducible refine (HO2.out _).mono ?_);rintro e w1 ⟨rfl,rfl⟩))|(go_at_call 129;refine (jX _ _ _).mono ?_;rintro e w1 ⟨rfl,rfl⟩))
   all_goals
    refine zk ?_ rfl ⟨by first|rw [D2.out]|rw [D3.out]|rw [D4.out]|rw [D5.out],?_⟩
    ·first|(simp [results,Tryz.results90,go_sem];done)|((have hf:decide (a<c)=false:=by simp;omega);simp [results,Tryz.results90,go_sem,hf])
    exact bZ
 have D2:=q7 (show jz 12 ⟨a,b,true⟩ ⟨c,d,true⟩=x8 false (decide (d<a)) from by unfold jz xx xw;simp [e1,hab])
 have D3:=q7 (show jz 13 ⟨a,b,true⟩ ⟨c,d,true⟩=x8 (decide (d<a)) false from by unfold jz xx xw;simp [e1,hab])
 have D4:=q7 (show jz 14 ⟨a,b,true⟩ ⟨c,d,true⟩=x8 false (decide (d≤a)) from by unfold jz xx xw;simp [e1])
 have D5:=q7 (show jz 15 ⟨a,b,true⟩ ⟨c,d,true⟩=x8 (decide (b≤c)) (decide (d<a)) from by unfold jz xx xw;simp)
 have o1:=Qp hab
 have kn:=fun w=>qB ⟨a,b,true⟩ w
 simp only [spC,o1] at kn
 have HO1:=q7 kn
 clear kn o1
 rcases ho with rfl|rfl|rfl|rfl
 all_goals
  go_enter Tryz.func90,Tryz.ntmps90
  go_wp2_with (first|(go_at_call 17;first|((with_reducible refine (HO1.out _).mono ?_);rintro e w1 ⟨rfl,rfl⟩))|(go_at_call 129;refine (jX _ _ _).mono ?_;rintro e w1 ⟨rfl,rfl⟩))
  all_goals
   refine zk ?_ rfl ⟨by first|rw [D2.out]|rw [D3.out]|rw [D4.out]|rw [D5.out],?_⟩
   ·first|(simp [results,Tryz.results90,go_sem];done)|((have hf:decide (b<c)=false:=by simp;omega);simp [results,Tryz.results90,go_sem,hf])
   exact bZ
end Go.Proofs.YtbnnhmcloecijaaGreatDoor
namespace Go.Proofs.YtbnnhmcloecijaaGreatDoor
open Go.RowKit

theorem fits_div {a b c:Int} (_ha:I64 a) (hb:I64 b) (h0:b≠0) (hc:c=wrap64 (a*b)) (hn:Qg (a*b)=false) (h2:wrap64 (c.tdiv b)=a):a = -9223372036854775808∧b = -1:=by
 have hno:¬ (-9223372036854775808≤a*b∧a*b≤9223372036854775807):=by
  intro h
  unfold Qg vz vi at hn
  simp only [xA] at hn
  exact hn h
 unfold I64 at _ha hb
 have hcw:-9223372036854775808≤c∧c≤9223372036854775807:=by rw [hc];unfold wrap64;omega
 have hck:∃k:Int,c=a*b+k*18446744073709551616:=by
  rw [hc]
  unfold wrap64
  generalize a*b=p
  exact ⟨-((p+9223372036854775808) / 18446744073709551616),by omega⟩
 have key:c.tdiv b=a→False:=fun h=>by
  have e:=Int.mul_tdiv_add_tmod c b
  rw [h] at e
  have hr:(c.tmod b).natAbs<b.natAbs:=by
   rw [Int.natAbs_tmod]
   exact Nat.mod_lt _ (Int.natAbs_pos.2 h0)
  obtain ⟨k,hk⟩:=hck
  have e2:b*a=a*b:=Int.mul_comm b a
  rw [e2] at e
  generalize a*b=p at *
  omega
 by_cases hs:c = -9223372036854775808∧b = -1
 ·obtain ⟨rfl,rfl⟩:=hs
  refine ⟨?_,rfl⟩
  rw [←h2,Int.tdiv_neg,Int.tdiv_one]
  unfold wrap64
  omega
 exfalso
 refine key ?_
 have hbd:-9223372036854775808≤c.tdiv b∧c.tdiv b≤9223372036854775807:=by
  rcases Int.lt_or_le b 1 with hb1|hb1
  ·by_cases e1:b = -1
   ·subst e1
    have:c.tdiv (-1) = -c:=by rw [Int.tdiv_neg,Int.tdiv_one]
    rw [this]
    have:c≠-9223372036854775808:=fun e=>hs ⟨e,rfl⟩
    omega
   have e2:c.tdiv b = -(c.tdiv (-b)):=by rw [Int.tdiv_neg,Int.neg_neg]
   have e3:=Z6 (a:=c) (b:=-b) (m:=9223372036854775807) (by omega) (by omega) (by omega) (by omega)
   have e4:(c.tdiv (-b)).natAbs≤c.natAbs / 2:=by
    rw [Int.natAbs_tdiv]
    exact Nat.div_le_div_left (by omega) (by omega)
   omega
  have:=Z6 (a:=c) (b:=b) (m:=9223372036854775807) hb1 (by omega) (by omega) (by omega)
  omega
 have:wrap64 (c.tdiv b)=c.tdiv b:=by unfold wrap64;omega
 rw [←this]
 exact h2
theorem fits_sign {a b:Int} (ha:a≠0) (hb:b≠0):(a*b<0↔((a<0∧¬ b<0)∨(¬ a<0∧b<0))):=by
 constructor
 ·intro h
  rcases Int.lt_or_le a 0 with h1|h1<;>rcases Int.lt_or_le b 0 with h2|h2
  ·have:=Int.mul_pos_of_neg_of_neg h1 h2;omega
  ·exact .inl ⟨h1,by omega⟩
  ·exact .inr ⟨by omega,h2⟩
  have:=Int.mul_nonneg h1 h2;omega
 rintro (⟨h1,h2⟩|⟨h1,h2⟩)
 ·exact Int.mul_neg_of_neg_of_pos h1 (by omega)
 exact Int.mul_neg_of_pos_of_neg (by omega) h2

theorem Xi (a b:Int) (w:World) (ha:I64 a) (hb:I64 b) :
  Calls Tryz.prog 86 #[.int .i64 a,.int .i64 b] w fun e w'=>e = .returned (.tuple #[.int .i64 (wrap64 (a*b)),.bool (Qg (a*b))])∧w=w':=by
 by_cases h0:a=0
 ·subst h0
  go_enter Tryz.func86,Tryz.ntmps86
  go_wp2
  refine zk (v:=.tuple #[.int .i64 0,.bool true]) (by simp [results,Tryz.results86]) rfl ⟨?_,rfl⟩
  simp [wrap64,Qg,vz,vi]
 by_cases h1:b=0
 ·subst h1
  go_enter Tryz.func86,Tryz.ntmps86
  go_wp2
  refine zk (v:=.tuple #[.int .i64 0,.bool true]) (by simp [results,Tryz.results86]) rfl ⟨?_,rfl⟩
  simp [wrap64,Qg,vz,vi]
 have hwr:∀n,IntKind.i64.wrap n=wrap64 n:=IntWalk.i64_left
 have hsg:=fits_sign h0 h1
 obtain ⟨c,hc⟩:∃c,c=wrap64 (a*b):=⟨_,rfl⟩
 obtain ⟨q,hq⟩:∃q,q=wrap64 (c.tdiv b):=⟨_,rfl⟩
 have hfd:=fits_div ha hb h1 hc
 rw [←hq] at hfd
 obtain ⟨r,hr⟩:∃r,r=Qg (a*b):=⟨_,rfl⟩
 rw [←hr] at hfd
 have hin:r=true→c=a*b∧q=a:=fun h=>by
  rw [h] at hr
  have h3:-9223372036854775808≤a*b∧a*b≤9223372036854775807:=by
   have:=hr.symm
   unfold Qg vz vi at this
   simpa using this
  have e:c=a*b:=by rw [hc];unfold wrap64;omega
  refine ⟨e,?_⟩
  rw [hq,e,Int.mul_tdiv_cancel a h1]
  unfold I64 at ha
  unfold wrap64
  omega
 have hmin:r=true→¬ (a = -9223372036854775808∧b = -1)∧¬ (b = -9223372036854775808∧a = -1):=fun h=>by
  rw [h] at hr
  have h3:-9223372036854775808≤a*b∧a*b≤9223372036854775807:=by
   have:=hr.symm
   unfold Qg vz vi at this
   simpa using this
  constructor
  ·rintro ⟨rfl,rfl⟩;omega
  rintro ⟨rfl,rfl⟩;omega
 rw [←hr]
 have HC:=q7 hc
 have HQ:=q7 hq
 rw [←hc]
 have hmul:IntKind.i64.wrap (a*b)=c:=by rw [hwr,hc]
 have hvi:IntKind.i64.wrap (c.tdiv b)=q:=by rw [hwr,hq]
 have hsW:wrap64 (a*b)=c:=hc.symm
 have hsX:wrap64 (c.tdiv b)=q:=hq.symm
 have hh0:(a == 0)=false:=by simpa using h0
 have hh1:(b == 0)=false:=by simpa using h1
 have hh2:¬ b=0:=h1
 have HFd:=q7 hfd
 have HIn:=q7 hin
 have hoC:=q7 hmin
 have HSg:=q7 hsg
 have HR:=q7 hr
 clear hfd hin hmin hsg hr hc hq h0 h1
 have fin:∀(t:Array Value) (v:Bool),t.getD 4 undef = .int .i64 c→t.getD 5 undef = .bool v→v=r→(results Tryz.f86 t).run Tryz.prog w = .ok (.tuple #[.int .i64 c,.bool r]) w:=fun t v e1 e2 e3=>by
  have e1':t[4]?.getD undef = .int .i64 c:=by simpa using e1
  have e2':t[5]?.getD undef = .bool v:=by simpa using e2
  simp [results,Tryz.results86,e1',e2',e3]
 have HFin:=q7 fin
 clear fin
 by_cases hf1:(decide (c<0) == !(decide (a<0) == decide (b<0)))=true
 rotate_left
 ·have HV:Hid (false=r):=q7 (by
   cases hr:r
   ·rfl
   exfalso
   apply hf1
   have h1:=(HIn.out hr).1
   have h2:=HSg.out
   rw [←h1] at h2
   by_cases x1:a<0<;>by_cases x2:b<0<;>by_cases x3:c<0<;>simp_all)
  have hf1:=Bool.eq_false_iff.2 hf1
  go_enter Tryz.func86,Tryz.ntmps86
  go_wp2
  exact zk (HFin.out _ _ rfl rfl HV.out) rfl ⟨rfl,rfl⟩
 by_cases hqa:q=a
 ·have hq2:(q == a)=true:=by simpa using hqa
  have hqF:=HFd.out
  have HQA:=q7 hqa
  clear hqa hqF
  have hA:∀(x y:Int),¬ x=y→(x == y)=false:=fun x y h=>by simpa using h
  have hoD:(a = -9223372036854775808∧b = -1)∨(b = -9223372036854775808∧a = -1)→false=r:=fun h=>by
   cases hr:r
   ·rfl
   rcases h with h|h
   ·exact absurd h (hoC.out hr).1
   exact absurd h (hoC.out hr).2
  have hOk:¬ (a = -9223372036854775808∧b = -1)→true=r:=fun h=>by
   cases hr:r
   ·exact absurd (HFd.out hr HQA.out) h
   rfl
  have HA:=q7 hA
  have HMn:=q7 hoD
  have HOk:=q7 hOk
  clear hA hoD hOk
  by_cases m1:a = -9223372036854775808
  ·by_cases m2:b = -1
   ·have HV:=q7 (HMn.out (.inl ⟨m1,m2⟩))
    have n1:(a == -9223372036854775808)=true:=by simpa using m1
    have n2:(b == -1)=true:=by simpa using m2
    clear m1 m2
    go_enter Tryz.func86,Tryz.ntmps86
    go_wp2
    exact zk (HFin.out _ _ rfl rfl HV.out) rfl ⟨rfl,rfl⟩
   have n1:(a == -9223372036854775808)=true:=by simpa using m1
   have n2:=HA.out _ _ m2
   have HF1:=q7 (show ¬ (a = -9223372036854775808∧b = -1) from fun h=>m2 h.2)
   clear m1 m2
   by_cases m3:b = -9223372036854775808
   ·by_cases m4:a = -1
    ·have HV:=q7 (HMn.out (.inr ⟨m3,m4⟩))
     have n3:(b == -9223372036854775808)=true:=by simpa using m3
     have n4:(a == -1)=true:=by simpa using m4
     clear m3 m4
     go_enter Tryz.func86,Tryz.ntmps86
     go_wp2
     exact zk (HFin.out _ _ rfl rfl HV.out) rfl ⟨rfl,rfl⟩
    have HV:=q7 (HOk.out HF1.out)
    have n3:(b == -9223372036854775808)=true:=by simpa using m3
    have n4:=HA.out _ _ m4
    clear m3 m4
    go_enter Tryz.func86,Tryz.ntmps86
    go_wp2
    exact zk (HFin.out _ _ rfl rfl HV.out) rfl ⟨rfl,rfl⟩
   have HV:=q7 (HOk.out HF1.out)
   have n3:=HA.out _ _ m3
   clear m3
   go_enter Tryz.func86,Tryz.ntmps86
   go_wp2
   exact zk (HFin.out _ _ rfl rfl HV.out) rfl ⟨rfl,rfl⟩
  have n1:=HA.out _ _ m1
  have HF1:=q7 (show ¬ (a = -9223372036854775808∧b = -1) from fun h=>m1 h.1)
  clear m1
  by_cases m3:b = -9223372036854775808
  ·by_cases m4:a = -1
   ·have HV:=q7 (HMn.out (.inr ⟨m3,m4⟩))
    have n3:(b == -9223372036854775808)=true:=by simpa using m3
    have n4:(a == -1)=true:=by simpa using m4
    clear m3 m4
    go_enter Tryz.func86,Tryz.ntmps86
    go_wp2
    exact zk (HFin.out _ _ rfl rfl HV.out) rfl ⟨rfl,rfl⟩
   have HV:=q7 (HOk.out HF1.out)
   have n3:(b == -9223372036854775808)=true:=by simpa using m3
   have n4:=HA.out _ _ m4
   clear m3 m4
   go_enter Tryz.func86,Tryz.ntmps86
   go_wp2
   exact zk (HFin.out _ _ rfl rfl HV.out) rfl ⟨rfl,rfl⟩
  have HV:=q7 (HOk.out HF1.out)
  have n3:=HA.out _ _ m3
  clear m3
  go_enter Tryz.func86,Tryz.ntmps86
  go_wp2
  exact zk (HFin.out _ _ rfl rfl HV.out) rfl ⟨rfl,rfl⟩
 have HV:Hid (false=r):=q7 (by
  cases hr:r
  ·rfl
  exact absurd (HIn.out hr).2 hqa)
 have hq2:(q == a)=false:=by simpa using hqa
 clear hqa
 go_enter Tryz.func86,Tryz.ntmps86
 go_wp2
 exact zk (HFin.out _ _ rfl rfl HV.out) rfl ⟨rfl,rfl⟩
end Go.Proofs.YtbnnhmcloecijaaGreatDoor
