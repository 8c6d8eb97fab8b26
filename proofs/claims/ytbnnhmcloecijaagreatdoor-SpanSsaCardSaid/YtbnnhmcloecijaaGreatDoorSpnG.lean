/-
  The contract of span.makes.
-/
import Derived.Test.YtbnnhmcloecijaaGreatDoorSpnF
set_option maxRecDepth 100000
set_option maxHeartbeats 16000000
namespace Go.Proofs.YtbnnhmcloecijaaGreatDoor
open Go.RowKit Go.Shelf

theorem xorM {a:Int} (h:-9223372036854775808≤a∧a≤9223372036854775807):bits .xor .i64 (-1) a = -1 - a:=by
 show IntKind.i64.wrap ((BitVec.ofInt 64 (-1) ^^^ BitVec.ofInt 64 a).toNat:Nat) = -1 - a
 have e:BitVec.ofInt 64 (-1)=BitVec.allOnes 64:=by decide
 rw [e,BitVec.xor_comm,BitVec.xor_allOnes,BitVec.toNat_not,BitVec.toNat_ofInt,xI]
 omega
theorem shp (op:Int) (h:1≤op∧op≤22) {b:Bool} (hb:shB op=b):∃D A:Bool,∀w,Calls Tryz.prog 77 #[.int .i64 op] w fun e w'=>e = .returned (.agg #[.bool D,.bool A,.bool b])∧w'=w.alloc (.cells #[.bool D,.bool A,.bool b] 133):=by
 subst hb
 exact ⟨_,_,fun w=>kN op w h⟩
theorem J3 (l h:Int) (w:World) :
  Calls Tryz.prog 76 #[.int .i64 l,.int .i64 h] w fun e w'=>e = .returned (.agg #[.int .i64 l,.int .i64 h,.bool true])∧w'=w.alloc (.cells #[.int .i64 l,.int .i64 h,.bool true] 59):=qL l h w
theorem mk_rest (op a b c d:Int) (s s2:Bool) (h:17<op∧op≤22) (w:World) (hA:AllW w) :
  Calls Tryz.prog 39 #[.int .i64 op,.agg #[.int .i64 a,.int .i64 b,.bool s],.agg #[.int .i64 c,.int .i64 d,.bool s2]] w fun e w'=>e = .returned (.agg (spC jW))∧Below w.heap.size w w':=by
 obtain ⟨g0,g1,g2⟩:=hA
 have zg:=qd g0
 obtain ⟨sb,hsb⟩:∃sb,sb=shB op:=⟨_,rfl⟩
 obtain ⟨D,A,hSh⟩:=shp op (by omega) (b:=sb) (hsb.symm)
 have HSh:=q7 hSh
 clear hSh
 clear hsb
 go_enter Tryz.func39,Tryz.ntmps39
 go_wp2_with (go_at_call 77;refine (HSh.out _).mono ?_;rintro e w1 ⟨rfl,rfl⟩)
 all_goals
  refine zk (v:=.agg (spC jW)) ?_ rfl ⟨rfl,?_⟩
  ·first
    | (simp [results,Tryz.results39,go_sem,spC,jW,vz,vi];done)
    | (simp [results,Tryz.results39,go_sem,spC,ofS,jW,vz,vi,vc];omega)
  exact bZ
theorem mk_no1 (op a b c d:Int) (s2:Bool) (h:1≤op∧op≤17) (w:World) (hA:AllW w) :
  Calls Tryz.prog 39 #[.int .i64 op,.agg #[.int .i64 a,.int .i64 b,.bool false],.agg #[.int .i64 c,.int .i64 d,.bool s2]] w fun e w'=>e = .returned (.agg (spC vc))∧Below w.heap.size w w':=by
 obtain ⟨g0,g1,g2⟩:=hA
 have zg:=qd g0
 obtain ⟨sb,hsb⟩:∃sb,sb=shB op:=⟨_,rfl⟩
 obtain ⟨D,A,hSh⟩:=shp op (by omega) (b:=sb) (hsb.symm)
 have HSh:=q7 hSh
 clear hSh
 clear hsb
 go_enter Tryz.func39,Tryz.ntmps39
 go_wp2_with (go_at_call 77;refine (HSh.out _).mono ?_;rintro e w1 ⟨rfl,rfl⟩)
 all_goals
  refine zk (v:=.agg (spC vc)) ?_ rfl ⟨rfl,?_⟩
  ·first
    | (simp [results,Tryz.results39,go_sem,spC,vc];done)
    | (simp [results,Tryz.results39,go_sem,spC,ofS,jW,vz,vi,vc];omega)
  exact bZ
theorem mk_no2 (op a b c d:Int) (h:2≤op∧op≤15) (w:World) (hA:AllW w) :
  Calls Tryz.prog 39 #[.int .i64 op,.agg #[.int .i64 a,.int .i64 b,.bool true],.agg #[.int .i64 c,.int .i64 d,.bool false]] w fun e w'=>e = .returned (.agg (spC vc))∧Below w.heap.size w w':=by
 obtain ⟨g0,g1,g2⟩:=hA
 have zg:=qd g0
 obtain ⟨D,A,hSh⟩:=shp op (by omega) (b:=true) (by simp [shB];omega)
 have HSh:=q7 hSh
 clear hSh
 go_enter Tryz.func39,Tryz.ntmps39
 go_wp2_with (go_at_call 77;refine (HSh.out _).mono ?_;rintro e w1 ⟨rfl,rfl⟩)
 all_goals
  refine zk (v:=.agg (spC vc)) ?_ rfl ⟨rfl,?_⟩
  ·first
    | (simp [results,Tryz.results39,go_sem,spC,vc];done)
    | (simp [results,Tryz.results39,go_sem,spC,ofS,jW,vz,vi,vc];omega)
  exact bZ
theorem mk_1 (a b c d:Int) (s2:Bool) (w:World) (hA:AllW w) :
  Calls Tryz.prog 39 #[.int .i64 1,.agg #[.int .i64 a,.int .i64 b,.bool true],.agg #[.int .i64 c,.int .i64 d,.bool s2]] w fun e w'=>e = .returned (.agg (spC (ofS a b)))∧Below w.heap.size w w':=by
 obtain ⟨g0,g1,g2⟩:=hA
 have zg:=qd g0
 obtain ⟨D,A,hSh⟩:=shp 1 (by omega) (b:=false) (by simp [shB])
 have HSh:=q7 hSh
 clear hSh
 go_enter Tryz.func39,Tryz.ntmps39
 go_wp2_with (go_at_call 77;refine (HSh.out _).mono ?_;rintro e w1 ⟨rfl,rfl⟩)
 all_goals
  refine zk (v:=.agg (spC (ofS a b))) ?_ rfl ⟨rfl,?_⟩
  ·first
    | (simp [results,Tryz.results39,go_sem,spC,ofS];done)
    | (simp [results,Tryz.results39,go_sem,spC,ofS,jW,vz,vi,vc];omega)
  exact bZ
theorem mk_16m (a b c d:Int) (s2:Bool) (hm:a = -9223372036854775808) (w:World) (hA:AllW w) :
  Calls Tryz.prog 39 #[.int .i64 16,.agg #[.int .i64 a,.int .i64 b,.bool true],.agg #[.int .i64 c,.int .i64 d,.bool s2]] w fun e w'=>e = .returned (.agg (spC jW))∧Below w.heap.size w w':=by
 obtain ⟨g0,g1,g2⟩:=hA
 have zg:=qd g0
 obtain ⟨D,A,hSh⟩:=shp 16 (by omega) (b:=false) (by simp [shB])
 have HSh:=q7 hSh
 clear hSh
 subst hm
 go_enter Tryz.func39,Tryz.ntmps39
 go_wp2_with (go_at_call 77;refine (HSh.out _).mono ?_;rintro e w1 ⟨rfl,rfl⟩)
 all_goals
  refine zk (v:=.agg (spC jW)) ?_ rfl ⟨rfl,?_⟩
  ·first
    | (simp [results,Tryz.results39,go_sem,spC,jW,vz,vi];done)
    | (simp [results,Tryz.results39,go_sem,spC,ofS,jW,vz,vi,vc];omega)
  exact bZ
theorem mk_16 (a b c d:Int) (s2:Bool) (hm:¬ a = -9223372036854775808) (ha:-9223372036854775808≤a∧a≤9223372036854775807) (hb:-9223372036854775808≤b∧b≤9223372036854775807) (hab:a≤b) (w:World) (hA:AllW w) :
  Calls Tryz.prog 39 #[.int .i64 16,.agg #[.int .i64 a,.int .i64 b,.bool true],.agg #[.int .i64 c,.int .i64 d,.bool s2]] w fun e w'=>e = .returned (.agg (spC (ofS (-b) (-a))))∧Below w.heap.size w w':=by
 obtain ⟨g0,g1,g2⟩:=hA
 have zg:=qd g0
 obtain ⟨D,A,hSh⟩:=shp 16 (by omega) (b:=false) (by simp [shB])
 have HSh:=q7 hSh
 clear hSh
 have hw1:wrap64 (-b) = -b:=by unfold wrap64;omega
 have hw2:wrap64 (-a) = -a:=by unfold wrap64;omega
 have hwr:∀n,IntKind.i64.wrap n=wrap64 n:=IntWalk.i64_left
 go_enter Tryz.func39,Tryz.ntmps39
 go_wp2_with (first|(go_at_call 77;refine (HSh.out _).mono ?_;rintro e w1 ⟨rfl,rfl⟩)|(go_at_call 76;refine (J3 _ _ _).mono ?_;rintro e w1 ⟨rfl,rfl⟩))
 all_goals
  refine zk (v:=.agg (spC (ofS (-b) (-a)))) ?_ rfl ⟨rfl,?_⟩
  ·first
    | (simp [results,Tryz.results39,go_sem,spC,ofS];done)
    | (simp [results,Tryz.results39,go_sem,spC,ofS,jW,vz,vi,vc];omega)
  exact bZ
theorem mk_17 (a b c d:Int) (s2:Bool) (ha:-9223372036854775808≤a∧a≤9223372036854775807) (hb:-9223372036854775808≤b∧b≤9223372036854775807) (w:World) (hA:AllW w) :
  Calls Tryz.prog 39 #[.int .i64 17,.agg #[.int .i64 a,.int .i64 b,.bool true],.agg #[.int .i64 c,.int .i64 d,.bool s2]] w fun e w'=>e = .returned (.agg (spC (ofS (-1 - b) (-1 - a))))∧Below w.heap.size w w':=by
 obtain ⟨g0,g1,g2⟩:=hA
 have zg:=qd g0
 obtain ⟨D,A,hSh⟩:=shp 17 (by omega) (b:=false) (by simp [shB])
 have HSh:=q7 hSh
 clear hSh
 have hx1:=xorM ha
 have hx2:=xorM hb
 go_enter Tryz.func39,Tryz.ntmps39
 go_wp2_with (first|(go_at_call 77;refine (HSh.out _).mono ?_;rintro e w1 ⟨rfl,rfl⟩)|(go_at_call 76;refine (J3 _ _ _).mono ?_;rintro e w1 ⟨rfl,rfl⟩))
 all_goals
  refine zk (v:=.agg (spC (ofS (-1 - b) (-1 - a)))) ?_ rfl ⟨rfl,?_⟩
  ·first
    | (simp [results,Tryz.results39,go_sem,spC,ofS];done)
    | (simp [results,Tryz.results39,go_sem,spC,ofS,jW,vz,vi,vc];omega)
  exact bZ
theorem mk_div (op a b c d:Int) (ho:op=5∨op=6) (hx:SpOk ⟨a,b,true⟩) (hy:SpOk ⟨c,d,true⟩) (w:World) (hA:AllW w) :
  Calls Tryz.prog 39 #[.int .i64 op,.agg #[.int .i64 a,.int .i64 b,.bool true],.agg #[.int .i64 c,.int .i64 d,.bool true]] w fun e w'=>e = .returned (.agg (spC (Yt op ⟨a,b,true⟩ ⟨c,d,true⟩)))∧Below w.heap.size w w':=by
 have HC:=q7 (fun (w:World) (h:AllW w)=>KI op ⟨a,b,true⟩ ⟨c,d,true⟩ w (by omega) hx hy rfl rfl h)
 simp only [spC] at HC
 clear hx hy
 obtain ⟨D,A,hSh⟩:=shp op (by omega) (b:=true) (by rcases ho with rfl|rfl<;>simp [shB])
 have HSh:=q7 hSh
 clear hSh
 have HA:=q7 hA
 obtain ⟨V,hV⟩:∃V,V=(Yt op ⟨a,b,true⟩ ⟨c,d,true⟩):=⟨_,rfl⟩
 rw [←hV] at HC ⊢
 clear hV
 obtain ⟨g0,g1,g2⟩:=hA
 have zg:=qd g0
 rcases ho with rfl|rfl
 all_goals
  go_enter Tryz.func39,Tryz.ntmps39
  go_wp2_with (go_at_call 77;refine (HSh.out _).mono ?_;rintro e w1 ⟨rfl,rfl⟩)
  obtain ⟨W,hW⟩:∃W,W=(((((w.alloc (.cells #[.int .i64 a,.int .i64 b,.bool true] 59)).alloc (.cells #[.int .i64 c,.int .i64 d,.bool true] 59)).alloc (.cells #[.int .i64 0,.int .i64 0,.bool false] 59)).alloc (.cells #[.bool D,.bool A,.bool true] 133)).alloc (.cells #[.bool D,.bool A,.bool true] 133)):=⟨_,rfl⟩
  rw [←hW]
  have HB:=q7 (show Below w.heap.size w W by rw [hW];exact bZ)
  have HX:=q7 (show W.heap[w.heap.size]?=some (.cells #[.int .i64 a,.int .i64 b,.bool true] 59 (0,0)) by rw [hW];exact qg (qg (qg (qg (qn w _)))))
  have HY:=q7 (show W.heap[w.heap.size+1]?=some (.cells #[.int .i64 c,.int .i64 d,.bool true] 59 (0,0)) by rw [hW];exact qg (qg (qg (qh (by simp)))))
  have HZ:=q7 (show W.heap[w.heap.size+1+1]?=some (.cells #[.int .i64 0,.int .i64 0,.bool false] 59 (0,0)) by rw [hW];exact qg (qg (qh (by simp))))
  clear hW
  refine (HC.out _ (HA.out.below HB.out)).mono ?_
  rintro e w4 ⟨rfl,hb4⟩
  have hZ4:=(hb4.block _ (q8 HZ.out)).trans HZ.out
  have z4:=q8 hZ4
  have c0:=(blk hZ4).1 0
  have c1:=(blk hZ4).1 1
  have c2:=(blk hZ4).1 2
  have cf:=(blk hZ4).2
  simp only [zE,zB,zD] at c0 c1 c2
  have HB4:=q7 (HB.out.trans (hb4.mono HB.out.size))
  clear hb4 hZ4
  go_wp2_with fail
  refine zk (v:=.agg (spC V)) ?_ rfl ⟨rfl,?_⟩
  ·simp [results,Tryz.results39,go_sem,spC,c0,c1,c2]
  exact ((HB4.out.setCell (by show w.heap.size≤w.heap.size+1+1;omega) _).setCell (by show w.heap.size≤w.heap.size+1+1;omega) _).setCell (by show w.heap.size≤w.heap.size+1+1;omega) _
theorem mk_log (op a b c d:Int) (ho:op=7∨op=8∨op=9) (hx:SpOk ⟨a,b,true⟩) (hy:SpOk ⟨c,d,true⟩) (w:World) (hA:AllW w) :
  Calls Tryz.prog 39 #[.int .i64 op,.agg #[.int .i64 a,.int .i64 b,.bool true],.agg #[.int .i64 c,.int .i64 d,.bool true]] w fun e w'=>e = .returned (.agg (spC (Xt op ⟨a,b,true⟩ ⟨c,d,true⟩)))∧Below w.heap.size w w':=by
 have HC:=q7 (fun (w:World) (h:AllW w)=>JF op ⟨a,b,true⟩ ⟨c,d,true⟩ w (by omega) hx hy rfl rfl h)
 simp only [spC] at HC
 clear hx hy
 obtain ⟨D,A,hSh⟩:=shp op (by omega) (b:=true) (by rcases ho with rfl|rfl|rfl<;>simp [shB])
 have HSh:=q7 hSh
 clear hSh
 have HA:=q7 hA
 obtain ⟨V,hV⟩:∃V,V=(Xt op ⟨a,b,true⟩ ⟨c,d,true⟩):=⟨_,rfl⟩
 rw [←hV] at HC ⊢
 clear hV
 obtain ⟨g0,g1,g2⟩:=hA
 have zg:=qd g0
 rcases ho with rfl|rfl|rfl
 all_goals
  go_enter Tryz.func39,Tryz.ntmps39
  go_wp2_with (go_at_call 77;refine (HSh.out _).mono ?_;rintro e w1 ⟨rfl,rfl⟩)
  obtain ⟨W,hW⟩:∃W,W=(((((w.alloc (.cells #[.int .i64 a,.int .i64 b,.bool true] 59)).alloc (.cells #[.int .i64 c,.int .i64 d,.bool true] 59)).alloc (.cells #[.int .i64 0,.int .i64 0,.bool false] 59)).alloc (.cells #[.bool D,.bool A,.bool true] 133)).alloc (.cells #[.bool D,.bool A,.bool true] 133)):=⟨_,rfl⟩
  rw [←hW]
  have HB:=q7 (show Below w.heap.size w W by rw [hW];exact bZ)
  have HX:=q7 (show W.heap[w.heap.size]?=some (.cells #[.int .i64 a,.int .i64 b,.bool true] 59 (0,0)) by rw [hW];exact qg (qg (qg (qg (qn w _)))))
  have HY:=q7 (show W.heap[w.heap.size+1]?=some (.cells #[.int .i64 c,.int .i64 d,.bool true] 59 (0,0)) by rw [hW];exact qg (qg (qg (qh (by simp)))))
  have HZ:=q7 (show W.heap[w.heap.size+1+1]?=some (.cells #[.int .i64 0,.int .i64 0,.bool false] 59 (0,0)) by rw [hW];exact qg (qg (qh (by simp))))
  clear hW
  refine (HC.out _ (HA.out.below HB.out)).mono ?_
  rintro e w4 ⟨rfl,hb4⟩
  have hZ4:=(hb4.block _ (q8 HZ.out)).trans HZ.out
  have z4:=q8 hZ4
  have c0:=(blk hZ4).1 0
  have c1:=(blk hZ4).1 1
  have c2:=(blk hZ4).1 2
  have cf:=(blk hZ4).2
  simp only [zE,zB,zD] at c0 c1 c2
  have HB4:=q7 (HB.out.trans (hb4.mono HB.out.size))
  clear hb4 hZ4
  go_wp2_with fail
  refine zk (v:=.agg (spC V)) ?_ rfl ⟨rfl,?_⟩
  ·simp [results,Tryz.results39,go_sem,spC,c0,c1,c2]
  exact ((HB4.out.setCell (by show w.heap.size≤w.heap.size+1+1;omega) _).setCell (by show w.heap.size≤w.heap.size+1+1;omega) _).setCell (by show w.heap.size≤w.heap.size+1+1;omega) _
theorem mk_shf (op a b c d:Int) (ho:op=10∨op=11) (hx:SpOk ⟨a,b,true⟩) (hy:SpOk ⟨c,d,true⟩) (w:World) (hA:AllW w) :
  Calls Tryz.prog 39 #[.int .i64 op,.agg #[.int .i64 a,.int .i64 b,.bool true],.agg #[.int .i64 c,.int .i64 d,.bool true]] w fun e w'=>e = .returned (.agg (spC (K2 op ⟨a,b,true⟩ ⟨c,d,true⟩)))∧Below w.heap.size w w':=by
 have HC:=q7 (fun (w:World) (h:AllW w)=>JH op ⟨a,b,true⟩ ⟨c,d,true⟩ w (by omega) hx hy rfl rfl h)
 simp only [spC] at HC
 clear hx hy
 obtain ⟨D,A,hSh⟩:=shp op (by omega) (b:=true) (by rcases ho with rfl|rfl<;>simp [shB])
 have HSh:=q7 hSh
 clear hSh
 have HA:=q7 hA
 obtain ⟨V,hV⟩:∃V,V=(K2 op ⟨a,b,true⟩ ⟨c,d,true⟩):=⟨_,rfl⟩
 rw [←hV] at HC ⊢
 clear hV
 obtain ⟨g0,g1,g2⟩:=hA
 have zg:=qd g0
 rcases ho with rfl|rfl
 all_goals
  go_enter Tryz.func39,Tryz.ntmps39
  go_wp2_with (go_at_call 77;refine (HSh.out _).mono ?_;rintro e w1 ⟨rfl,rfl⟩)
  obtain ⟨W,hW⟩:∃W,W=(((((w.alloc (.cells #[.int .i64 a,.int .i64 b,.bool true] 59)).alloc (.cells #[.int .i64 c,.int .i64 d,.bool true] 59)).alloc (.cells #[.int .i64 0,.int .i64 0,.bool false] 59)).alloc (.cells #[.bool D,.bool A,.bool true] 133)).alloc (.cells #[.bool D,.bool A,.bool true] 133)):=⟨_,rfl⟩
  rw [←hW]
  have HB:=q7 (show Below w.heap.size w W by rw [hW];exact bZ)
  have HX:=q7 (show W.heap[w.heap.size]?=some (.cells #[.int .i64 a,.int .i64 b,.bool true] 59 (0,0)) by rw [hW];exact qg (qg (qg (qg (qn w _)))))
  have HY:=q7 (show W.heap[w.heap.size+1]?=some (.cells #[.int .i64 c,.int .i64 d,.bool true] 59 (0,0)) by rw [hW];exact qg (qg (qg (qh (by simp)))))
  have HZ:=q7 (show W.heap[w.heap.size+1+1]?=some (.cells #[.int .i64 0,.int .i64 0,.bool false] 59 (0,0)) by rw [hW];exact qg (qg (qh (by simp))))
  clear hW
  refine (HC.out _ (HA.out.below HB.out)).mono ?_
  rintro e w4 ⟨rfl,hb4⟩
  have hZ4:=(hb4.block _ (q8 HZ.out)).trans HZ.out
  have z4:=q8 hZ4
  have c0:=(blk hZ4).1 0
  have c1:=(blk hZ4).1 1
  have c2:=(blk hZ4).1 2
  have cf:=(blk hZ4).2
  simp only [zE,zB,zD] at c0 c1 c2
  have HB4:=q7 (HB.out.trans (hb4.mono HB.out.size))
  clear hb4 hZ4
  go_wp2_with fail
  refine zk (v:=.agg (spC V)) ?_ rfl ⟨rfl,?_⟩
  ·simp [results,Tryz.results39,go_sem,spC,c0,c1,c2]
  exact ((HB4.out.setCell (by show w.heap.size≤w.heap.size+1+1;omega) _).setCell (by show w.heap.size≤w.heap.size+1+1;omega) _).setCell (by show w.heap.size≤w.heap.size+1+1;omega) _
theorem mk_tst (op a b c d:Int) (ho:op=12∨op=13∨op=14∨op=15) (_hx:SpOk ⟨a,b,true⟩) (_hy:SpOk ⟨c,d,true⟩) (w:World) (hA:AllW w) :
  Calls Tryz.prog 39 #[.int .i64 op,.agg #[.int .i64 a,.int .i64 b,.bool true],.agg #[.int .i64 c,.int .i64 d,.bool true]] w fun e w'=>e = .returned (.agg (spC (jz op ⟨a,b,true⟩ ⟨c,d,true⟩)))∧Below w.heap.size w w':=by
 have HC:=q7 (fun (w:World) (h:AllW w)=>VH op ⟨a,b,true⟩ ⟨c,d,true⟩ w (by omega) rfl rfl)
 simp only [spC] at HC
 clear _hx _hy
 obtain ⟨D,A,hSh⟩:=shp op (by omega) (b:=true) (by rcases ho with rfl|rfl|rfl|rfl<;>simp [shB])
 have HSh:=q7 hSh
 clear hSh
 have HA:=q7 hA
 obtain ⟨V,hV⟩:∃V,V=(jz op ⟨a,b,true⟩ ⟨c,d,true⟩):=⟨_,rfl⟩
 rw [←hV] at HC ⊢
 clear hV
 obtain ⟨g0,g1,g2⟩:=hA
 have zg:=qd g0
 rcases ho with rfl|rfl|rfl|rfl
 all_goals
  go_enter Tryz.func39,Tryz.ntmps39
  go_wp2_with (go_at_call 77;refine (HSh.out _).mono ?_;rintro e w1 ⟨rfl,rfl⟩)
  obtain ⟨W,hW⟩:∃W,W=(((((w.alloc (.cells #[.int .i64 a,.int .i64 b,.bool true] 59)).alloc (.cells #[.int .i64 c,.int .i64 d,.bool true] 59)).alloc (.cells #[.int .i64 0,.int .i64 0,.bool false] 59)).alloc (.cells #[.bool D,.bool A,.bool true] 133)).alloc (.cells #[.bool D,.bool A,.bool true] 133)):=⟨_,rfl⟩
  rw [←hW]
  have HB:=q7 (show Below w.heap.size w W by rw [hW];exact bZ)
  have HX:=q7 (show W.heap[w.heap.size]?=some (.cells #[.int .i64 a,.int .i64 b,.bool true] 59 (0,0)) by rw [hW];exact qg (qg (qg (qg (qn w _)))))
  have HY:=q7 (show W.heap[w.heap.size+1]?=some (.cells #[.int .i64 c,.int .i64 d,.bool true] 59 (0,0)) by rw [hW];exact qg (qg (qg (qh (by simp)))))
  have HZ:=q7 (show W.heap[w.heap.size+1+1]?=some (.cells #[.int .i64 0,.int .i64 0,.bool false] 59 (0,0)) by rw [hW];exact qg (qg (qh (by simp))))
  clear hW
  refine (HC.out _ (HA.out.below HB.out)).mono ?_
  rintro e w4 ⟨rfl,hb4⟩
  have hZ4:=(hb4.block _ (q8 HZ.out)).trans HZ.out
  have z4:=q8 hZ4
  have c0:=(blk hZ4).1 0
  have c1:=(blk hZ4).1 1
  have c2:=(blk hZ4).1 2
  have cf:=(blk hZ4).2
  simp only [zE,zB,zD] at c0 c1 c2
  have HB4:=q7 (HB.out.trans (hb4.mono HB.out.size))
  clear hb4 hZ4
  go_wp2_with fail
  refine zk (v:=.agg (spC V)) ?_ rfl ⟨rfl,?_⟩
  ·simp [results,Tryz.results39,go_sem,spC,c0,c1,c2]
  exact ((HB4.out.setCell (by show w.heap.size≤w.heap.size+1+1;omega) _).setCell (by show w.heap.size≤w.heap.size+1+1;omega) _).setCell (by show w.heap.size≤w.heap.size+1+1;omega) _
theorem mk_add (a b c d:Int) (hx:SpOk ⟨a,b,true⟩) (hy:SpOk ⟨c,d,true⟩) (w:World) (hA:AllW w) :
  Calls Tryz.prog 39 #[.int .i64 2,.agg #[.int .i64 a,.int .i64 b,.bool true],.agg #[.int .i64 c,.int .i64 d,.bool true]] w fun e w'=>e = .returned (.agg (spC (jo [a+c,b+d] vc)))∧Below w.heap.size w w':=by
 have ha:I64 a:=hx.lo
 have hb:I64 b:=hx.hi
 have hc:I64 c:=hy.lo
 have hd:I64 d:=hy.hi
 clear hx hy
 obtain ⟨V,hV⟩:∃V,V=jo [a+c,b+d] vc:=⟨_,rfl⟩
 have HV:=q7 hV
 rw [←hV]
 clear hV
 have HA:=q7 hA
 obtain ⟨g0,g1,g2⟩:=hA
 have zg:=qd g0
 obtain ⟨D,A,hSh⟩:=shp 2 (by omega) (b:=true) (by simp [shB])
 have HSh:=q7 hSh
 clear hSh
 go_enter Tryz.func39,Tryz.ntmps39
 go_wp2_with (go_at_call 77;refine (HSh.out _).mono ?_;rintro e w1 ⟨rfl,rfl⟩)
 obtain ⟨W,hW⟩:∃W,W=((((((w.alloc (.cells #[.int .i64 a,.int .i64 b,.bool true] 59)).alloc (.cells #[.int .i64 c,.int .i64 d,.bool true] 59)).alloc (.cells #[.int .i64 0,.int .i64 0,.bool false] 59)).alloc (.cells #[.bool D,.bool A,.bool true] 133)).alloc (.cells #[.bool D,.bool A,.bool true] 133)).alloc (.cells #[.func (.func 79) #[] #[.pointer (some ⟨w.heap.size,0,none⟩),.pointer (some ⟨w.heap.size+1,0,none⟩)],.func (.func 81) #[] #[.pointer (some ⟨w.heap.size,0,none⟩),.pointer (some ⟨w.heap.size+1,0,none⟩)]] 138)):=⟨_,rfl⟩
 rw [←hW]
 have HB:=q7 (show Below w.heap.size w W by rw [hW];exact bZ)
 have HX:=q7 (show W.heap[w.heap.size]?=some (.cells #[.int .i64 a,.int .i64 b,.bool true] 59 (0,0)) by rw [hW];exact qg (qg (qg (qg (qg (qn w _))))))
 have HY:=q7 (show W.heap[w.heap.size+1]?=some (.cells #[.int .i64 c,.int .i64 d,.bool true] 59 (0,0)) by rw [hW];exact qg (qg (qg (qg (qh (by simp))))))
 have HZ:=q7 (show W.heap[w.heap.size+1+1]?=some (.cells #[.int .i64 0,.int .i64 0,.bool false] 59 (0,0)) by rw [hW];exact qg (qg (qg (qh (by simp)))))
 have HS:=q7 (show W.heap[w.heap.size+1+1+1+1+1]?=some (.cells #[.func (.func 79) #[] #[.pointer (some ⟨w.heap.size,0,none⟩),.pointer (some ⟨w.heap.size+1,0,none⟩)],.func (.func 81) #[] #[.pointer (some ⟨w.heap.size,0,none⟩),.pointer (some ⟨w.heap.size+1,0,none⟩)]] 138 (0,0)) by rw [hW];exact qh (by simp))
 clear hW
 have hcon:=ends_add (w.heap.size+1+1+1+1+1) #[.pointer (some ⟨w.heap.size,0,none⟩),.pointer (some ⟨w.heap.size+1,0,none⟩)] (a+c) #[.pointer (some ⟨w.heap.size,0,none⟩),.pointer (some ⟨w.heap.size+1,0,none⟩)] (b+d) W (HA.out.below HB.out) ((blk HS.out).1 0)
  (fun W2 h2=>mC _ _ a c W2 ha hc ((blk ((h2.block _ (q8 HX.out)).trans HX.out)).1 0) ((blk ((h2.block _ (q8 HY.out)).trans HY.out)).1 0)) ((blk HS.out).1 1)
  (fun W2 h2=>mD _ _ b d W2 hb hd ((blk ((h2.block _ (q8 HX.out)).trans HX.out)).1 1) ((blk ((h2.block _ (q8 HY.out)).trans HY.out)).1 1))
 rw [←HV.out] at hcon
 refine hcon.mono ?_
 rintro e w4 ⟨rfl,hb4⟩
 clear hcon
 simp only [spC]
 have hZ4:=(hb4.block _ (q8 HZ.out)).trans HZ.out
 have z4:=q8 hZ4
 have c0:=(blk hZ4).1 0
 have c1:=(blk hZ4).1 1
 have c2:=(blk hZ4).1 2
 have cf:=(blk hZ4).2
 simp only [zE,zB,zD] at c0 c1 c2
 have HB4:=q7 (HB.out.trans (hb4.mono HB.out.size))
 clear hb4 hZ4
 go_wp2_with fail
 refine zk (v:=.agg (spC V)) ?_ rfl ⟨rfl,?_⟩
 ·simp [results,Tryz.results39,go_sem,spC,c0,c1,c2]
 exact ((HB4.out.setCell (by show w.heap.size≤w.heap.size+1+1;omega) _).setCell (by show w.heap.size≤w.heap.size+1+1;omega) _).setCell (by show w.heap.size≤w.heap.size+1+1;omega) _
theorem mk_sub (a b c d:Int) (hx:SpOk ⟨a,b,true⟩) (hy:SpOk ⟨c,d,true⟩) (w:World) (hA:AllW w) :
  Calls Tryz.prog 39 #[.int .i64 3,.agg #[.int .i64 a,.int .i64 b,.bool true],.agg #[.int .i64 c,.int .i64 d,.bool true]] w fun e w'=>e = .returned (.agg (spC (jo [a - d,b - c] vc)))∧Below w.heap.size w w':=by
 have ha:I64 a:=hx.lo
 have hb:I64 b:=hx.hi
 have hc:I64 c:=hy.lo
 have hd:I64 d:=hy.hi
 clear hx hy
 obtain ⟨V,hV⟩:∃V,V=(jo [a - d,b - c] vc):=⟨_,rfl⟩
 have HV:=q7 hV
 rw [←hV]
 clear hV
 have HA:=q7 hA
 obtain ⟨g0,g1,g2⟩:=hA
 have zg:=qd g0
 obtain ⟨D,A,hSh⟩:=shp 3 (by omega) (b:=true) (by simp [shB])
 have HSh:=q7 hSh
 clear hSh
 go_enter Tryz.func39,Tryz.ntmps39
 go_wp2_with (go_at_call 77;refine (HSh.out _).mono ?_;rintro e w1 ⟨rfl,rfl⟩)
 obtain ⟨W,hW⟩:∃W,W=(((((w.alloc (.cells #[.int .i64 a,.int .i64 b,.bool true] 59)).alloc (.cells #[.int .i64 c,.int .i64 d,.bool true] 59)).alloc (.cells #[.int .i64 0,.int .i64 0,.bool false] 59)).alloc (.cells #[.bool D,.bool A,.bool true] 133)).alloc (.cells #[.bool D,.bool A,.bool true] 133)):=⟨_,rfl⟩
 rw [←hW]
 have HB:=q7 (show Below w.heap.size w W by rw [hW];exact bZ)
 have HX:=q7 (show W.heap[w.heap.size]?=some (.cells #[.int .i64 a,.int .i64 b,.bool true] 59 (0,0)) by rw [hW];exact qg (qg (qg (qg (qn w _)))))
 have HY:=q7 (show W.heap[w.heap.size+1]?=some (.cells #[.int .i64 c,.int .i64 d,.bool true] 59 (0,0)) by rw [hW];exact qg (qg (qg (qh (by simp)))))
 have HZ:=q7 (show W.heap[w.heap.size+1+1]?=some (.cells #[.int .i64 0,.int .i64 0,.bool false] 59 (0,0)) by rw [hW];exact qg (qg (qh (by simp))))
 clear hW
 have haE:∀w',Below W.heap.size W w'→w'.cell? ⟨w.heap.size,0,none⟩=some (.int .i64 a)∧w'.cell? ⟨w.heap.size,1,none⟩=some (.int .i64 b)∧w'.cell? ⟨w.heap.size+1,0,none⟩=some (.int .i64 c)∧w'.cell? ⟨w.heap.size+1,1,none⟩=some (.int .i64 d):=fun w' h=>by
  have h1:=(h.block _ (q8 HX.out)).trans HX.out
  have h2:=(h.block _ (q8 HY.out)).trans HY.out
  exact ⟨(blk h1).1 0,(blk h1).1 1,(blk h2).1 0,(blk h2).1 1⟩
 have ha8:=q7 haE
 clear haE
 refine qr (S:=fun w'=>Below W.heap.size W w') (by kernel_rfl) 14 ?_
 obtain ⟨w0,hw0⟩:∃w0,w0=W.drew:=⟨_,rfl⟩
 have hb0:Below W.heap.size W w0:=by rw [hw0];exact (zI _ _).drew
 rw [←hw0]
 clear hw0
 refine tkZ 0 42 (.func (.func 82) #[] #[]) rfl rfl hb0 (fun w' h=>?_) ?_
 ·obtain ⟨h1,h2,h3,h4⟩:=ha8.out w' h
  go_simp
 refine tkZ 1 43 (.pointer (some ⟨w.heap.size,0,none⟩)) rfl rfl hb0 (fun w' h=>?_) ?_
 ·obtain ⟨h1,h2,h3,h4⟩:=ha8.out w' h
  go_simp
 refine tkZ 2 44 (.int .i64 a) rfl rfl hb0 (fun w' h=>?_) ?_
 ·obtain ⟨h1,h2,h3,h4⟩:=ha8.out w' h
  go_simp
 refine tkZ 3 45 (.pointer (some ⟨w.heap.size+1,1,none⟩)) rfl rfl hb0 (fun w' h=>?_) ?_
 ·obtain ⟨h1,h2,h3,h4⟩:=ha8.out w' h
  go_simp
 refine tkZ 4 46 (.int .i64 d) rfl rfl hb0 (fun w' h=>?_) ?_
 ·obtain ⟨h1,h2,h3,h4⟩:=ha8.out w' h
  go_simp
 refine tkZ 6 48 (.func (.func 82) #[] #[]) rfl rfl hb0 (fun w' h=>?_) ?_
 ·obtain ⟨h1,h2,h3,h4⟩:=ha8.out w' h
  go_simp
 refine tkZ 7 49 (.pointer (some ⟨w.heap.size,1,none⟩)) rfl rfl hb0 (fun w' h=>?_) ?_
 ·obtain ⟨h1,h2,h3,h4⟩:=ha8.out w' h
  go_simp
 refine tkZ 8 50 (.int .i64 b) rfl rfl hb0 (fun w' h=>?_) ?_
 ·obtain ⟨h1,h2,h3,h4⟩:=ha8.out w' h
  go_simp
 refine tkZ 9 51 (.pointer (some ⟨w.heap.size+1,0,none⟩)) rfl rfl hb0 (fun w' h=>?_) ?_
 ·obtain ⟨h1,h2,h3,h4⟩:=ha8.out w' h
  go_simp
 refine tkZ 10 52 (.int .i64 c) rfl rfl hb0 (fun w' h=>?_) ?_
 ·obtain ⟨h1,h2,h3,h4⟩:=ha8.out w' h
  go_simp
 refine qk (i:=5) (by kernel_rfl) (qm 47 rfl rfl rfl (by go_simp) (J2 a d w0) ?_)
 rintro e w1 ⟨rfl,hw1⟩
 have hb1:Below W.heap.size W w1:=by rw [hw1];exact (hb0.alloc hb0.size _).alloc (yv hb0.size (by simp)) _
 have s0:Below w0.heap.size w0 w1:=by rw [hw1];exact bZ
 have PA0:=q7 (show w1.heap[w0.heap.size]?=some (.cells #[.int .i64 a] 3 (0,0)) by rw [hw1];exact qg (qn w0 _))
 have PB0:=q7 (show w1.heap[w0.heap.size+1]?=some (.cells #[.int .i64 d] 3 (0,0)) by rw [hw1];exact qh (by simp))
 clear hw1
 refine ⟨_,rfl,hb1,?_⟩
 refine qk (i:=11) (by kernel_rfl) (qm 53 rfl rfl rfl (by go_simp) (J2 b c w1) ?_)
 rintro e w2 ⟨rfl,hw2⟩
 have hb2:Below W.heap.size W w2:=by rw [hw2];exact (hb1.alloc hb1.size _).alloc (yv hb1.size (by simp)) _
 have s1:Below w1.heap.size w1 w2:=by rw [hw2];exact bZ
 have PA1:=q7 (show w2.heap[w1.heap.size]?=some (.cells #[.int .i64 b] 3 (0,0)) by rw [hw2];exact qg (qn w1 _))
 have PB1:=q7 (show w2.heap[w1.heap.size+1]?=some (.cells #[.int .i64 c] 3 (0,0)) by rw [hw2];exact qh (by simp))
 clear hw2
 refine ⟨_,rfl,hb2,?_⟩
 obtain ⟨wb,hwb⟩:∃wb,wb=w2.alloc (.cells #[.func (.func 83) #[] #[.pointer (some ⟨w0.heap.size,0,none⟩),.pointer (some ⟨w0.heap.size+1,0,none⟩)],.func (.func 83) #[] #[.pointer (some ⟨w1.heap.size,0,none⟩),.pointer (some ⟨w1.heap.size+1,0,none⟩)]] 138):=⟨_,rfl⟩
 have hbb:Below W.heap.size W wb:=by rw [hwb];exact hb2.alloc hb2.size _
 have sb:Below w2.heap.size w2 wb:=by rw [hwb];exact bZ
 refine qk (i:=12) (by kernel_rfl) (qz 54 (.slice (some ⟨w2.heap.size,0,none⟩) 2 2) wb rfl rfl rfl (by rw [hwb];go_simp) hbb ?_)
 have HS:=q7 (show wb.heap[w2.heap.size]?=some (.cells #[.func (.func 83) #[] #[.pointer (some ⟨w0.heap.size,0,none⟩),.pointer (some ⟨w0.heap.size+1,0,none⟩)],.func (.func 83) #[] #[.pointer (some ⟨w1.heap.size,0,none⟩),.pointer (some ⟨w1.heap.size+1,0,none⟩)]] 138 (0,0)) by rw [hwb];exact qn w2 _)
 clear hwb
 have PAW0:=q7 (show wb.heap[w0.heap.size]?=some (.cells #[.int .i64 a] 3 (0,0)) by
  have l1:=PA0.out
  have l2:=(s1.block _ (q8 l1)).trans l1
  exact (sb.block _ (q8 l2)).trans l2)
 have PBW0:=q7 (show wb.heap[w0.heap.size+1]?=some (.cells #[.int .i64 d] 3 (0,0)) by
  have l1:=PB0.out
  have l2:=(s1.block _ (q8 l1)).trans l1
  exact (sb.block _ (q8 l2)).trans l2)
 have PAW1:=q7 (show wb.heap[w1.heap.size]?=some (.cells #[.int .i64 b] 3 (0,0)) by
  have l2:=PA1.out
  exact (sb.block _ (q8 l2)).trans l2)
 have PBW1:=q7 (show wb.heap[w1.heap.size+1]?=some (.cells #[.int .i64 c] 3 (0,0)) by
  have l2:=PB1.out
  exact (sb.block _ (q8 l2)).trans l2)
 have hcon:=ends_sub w2.heap.size #[.pointer (some ⟨w0.heap.size,0,none⟩),.pointer (some ⟨w0.heap.size+1,0,none⟩)] (a - d) #[.pointer (some ⟨w1.heap.size,0,none⟩),.pointer (some ⟨w1.heap.size+1,0,none⟩)] (b - c) wb (HA.out.below (HB.out.trans (hbb.mono HB.out.size)))
  ((blk HS.out).1 0) (fun W2 h2=>Xj _ _ a d W2 ha hd ((blk ((h2.block _ (q8 PAW0.out)).trans PAW0.out)).1 0) ((blk ((h2.block _ (q8 PBW0.out)).trans PBW0.out)).1 0))
  ((blk HS.out).1 1) (fun W2 h2=>Xj _ _ b c W2 hb hc ((blk ((h2.block _ (q8 PAW1.out)).trans PAW1.out)).1 0) ((blk ((h2.block _ (q8 PBW1.out)).trans PBW1.out)).1 0))
 rw [←HV.out] at hcon
 have HC:=q7 hcon
 clear hcon
 refine qk (i:=13) (by kernel_rfl) (qm 55 rfl rfl rfl (by go_simp) HC.out ?_)
 rintro e w8 ⟨rfl,hb8⟩
 have hb4:Below W.heap.size W w8:=hbb.trans (hb8.mono hbb.size)
 clear hb8 hbb
 refine ⟨_,rfl,hb4,?_⟩
 simp only [spC]
 have hZ4:=(hb4.block _ (q8 HZ.out)).trans HZ.out
 have z4:=q8 hZ4
 have c0:=(blk hZ4).1 0
 have c1:=(blk hZ4).1 1
 have c2:=(blk hZ4).1 2
 have cf:=(blk hZ4).2
 simp only [zE,zB,zD] at c0 c1 c2
 obtain ⟨W5,hW5⟩:∃W5,W5=((w8.setCell ⟨w.heap.size+1+1,0,none⟩ (.int .i64 V.lo)).setCell ⟨w.heap.size+1+1,1,none⟩ (.int .i64 V.hi)).setCell ⟨w.heap.size+1+1,2,none⟩ (.bool V.has):=⟨_,rfl⟩
 refine qk (i:=14) (by kernel_rfl) (qA W5 rfl rfl rfl (by rw [hW5];go_simp) (fun h=>absurd rfl h) (qx (by kernel_rfl) ?_ _))
 have hZ5:W5.heap[w.heap.size+1+1]?=some (.cells #[.int .i64 V.lo,.int .i64 V.hi,.bool V.has] 59 (0,0)):=by
  rw [hW5,qV (qV (qV hZ4 0 _) 1 _) 2 _]
  rfl
 have hb5:Below w.heap.size w W5:=by
  rw [hW5]
  exact (((HB.out.trans (hb4.mono HB.out.size)).setCell (by show w.heap.size≤w.heap.size+1+1;omega) _).setCell (by show w.heap.size≤w.heap.size+1+1;omega) _).setCell (by show w.heap.size≤w.heap.size+1+1;omega) _
 have e0:W5.cell? ⟨w.heap.size+1+1,0,none⟩=some (.int .i64 V.lo):=(blk hZ5).1 0
 have e1:W5.cell? ⟨w.heap.size+1+1,1,none⟩=some (.int .i64 V.hi):=(blk hZ5).1 1
 have e2:W5.cell? ⟨w.heap.size+1+1,2,none⟩=some (.bool V.has):=(blk hZ5).1 2
 have HB5:=q7 hb5
 clear hW5 hZ5 hb5 hb4 hZ4 c0 c1 c2 cf z4
 simp only [calm,Exit.then]
 go_simp
 go_wp2_with fail
 refine zk (v:=.agg #[.int .i64 V.lo,.int .i64 V.hi,.bool V.has]) ?_ rfl ⟨rfl,HB5.out⟩
 simp [results,Tryz.results39,go_sem,e0,e1,e2]
theorem mk_mul (a b c d:Int) (hx:SpOk ⟨a,b,true⟩) (hy:SpOk ⟨c,d,true⟩) (w:World) (hA:AllW w) :
  Calls Tryz.prog 39 #[.int .i64 4,.agg #[.int .i64 a,.int .i64 b,.bool true],.agg #[.int .i64 c,.int .i64 d,.bool true]] w fun e w'=>e = .returned (.agg (spC (jo [a*c,a*d,b*c,b*d] vc)))∧Below w.heap.size w w':=by
 have ha:I64 a:=hx.lo
 have hb:I64 b:=hx.hi
 have hc:I64 c:=hy.lo
 have hd:I64 d:=hy.hi
 clear hx hy
 obtain ⟨V,hV⟩:∃V,V=(jo [a*c,a*d,b*c,b*d] vc):=⟨_,rfl⟩
 have HV:=q7 hV
 rw [←hV]
 clear hV
 have HA:=q7 hA
 obtain ⟨g0,g1,g2⟩:=hA
 have zg:=qd g0
 obtain ⟨D,A,hSh⟩:=shp 4 (by omega) (b:=true) (by simp [shB])
 have HSh:=q7 hSh
 clear hSh
 go_enter Tryz.func39,Tryz.ntmps39
 go_wp2_with (go_at_call 77;refine (HSh.out _).mono ?_;rintro e w1 ⟨rfl,rfl⟩)
 obtain ⟨W,hW⟩:∃W,W=(((((w.alloc (.cells #[.int .i64 a,.int .i64 b,.bool true] 59)).alloc (.cells #[.int .i64 c,.int .i64 d,.bool true] 59)).alloc (.cells #[.int .i64 0,.int .i64 0,.bool false] 59)).alloc (.cells #[.bool D,.bool A,.bool true] 133)).alloc (.cells #[.bool D,.bool A,.bool true] 133)):=⟨_,rfl⟩
 rw [←hW]
 have HB:=q7 (show Below w.heap.size w W by rw [hW];exact bZ)
 have HX:=q7 (show W.heap[w.heap.size]?=some (.cells #[.int .i64 a,.int .i64 b,.bool true] 59 (0,0)) by rw [hW];exact qg (qg (qg (qg (qn w _)))))
 have HY:=q7 (show W.heap[w.heap.size+1]?=some (.cells #[.int .i64 c,.int .i64 d,.bool true] 59 (0,0)) by rw [hW];exact qg (qg (qg (qh (by simp)))))
 have HZ:=q7 (show W.heap[w.heap.size+1+1]?=some (.cells #[.int .i64 0,.int .i64 0,.bool false] 59 (0,0)) by rw [hW];exact qg (qg (qh (by simp))))
 clear hW
 have haE:∀w',Below W.heap.size W w'→w'.cell? ⟨w.heap.size,0,none⟩=some (.int .i64 a)∧w'.cell? ⟨w.heap.size,1,none⟩=some (.int .i64 b)∧w'.cell? ⟨w.heap.size+1,0,none⟩=some (.int .i64 c)∧w'.cell? ⟨w.heap.size+1,1,none⟩=some (.int .i64 d):=fun w' h=>by
  have h1:=(h.block _ (q8 HX.out)).trans HX.out
  have h2:=(h.block _ (q8 HY.out)).trans HY.out
  exact ⟨(blk h1).1 0,(blk h1).1 1,(blk h2).1 0,(blk h2).1 1⟩
 have ha8:=q7 haE
 clear haE
 refine qr (S:=fun w'=>Below W.heap.size W w') (by kernel_rfl) 26 ?_
 obtain ⟨w0,hw0⟩:∃w0,w0=W.drew:=⟨_,rfl⟩
 have hb0:Below W.heap.size W w0:=by rw [hw0];exact (zI _ _).drew
 rw [←hw0]
 clear hw0
 refine tkZ 0 58 (.func (.func 84) #[] #[]) rfl rfl hb0 (fun w' h=>?_) ?_
 ·obtain ⟨h1,h2,h3,h4⟩:=ha8.out w' h
  go_simp
 refine tkZ 1 59 (.pointer (some ⟨w.heap.size,0,none⟩)) rfl rfl hb0 (fun w' h=>?_) ?_
 ·obtain ⟨h1,h2,h3,h4⟩:=ha8.out w' h
  go_simp
 refine tkZ 2 60 (.int .i64 a) rfl rfl hb0 (fun w' h=>?_) ?_
 ·obtain ⟨h1,h2,h3,h4⟩:=ha8.out w' h
  go_simp
 refine tkZ 3 61 (.pointer (some ⟨w.heap.size+1,0,none⟩)) rfl rfl hb0 (fun w' h=>?_) ?_
 ·obtain ⟨h1,h2,h3,h4⟩:=ha8.out w' h
  go_simp
 refine tkZ 4 62 (.int .i64 c) rfl rfl hb0 (fun w' h=>?_) ?_
 ·obtain ⟨h1,h2,h3,h4⟩:=ha8.out w' h
  go_simp
 refine tkZ 6 64 (.func (.func 84) #[] #[]) rfl rfl hb0 (fun w' h=>?_) ?_
 ·obtain ⟨h1,h2,h3,h4⟩:=ha8.out w' h
  go_simp
 refine tkZ 7 65 (.pointer (some ⟨w.heap.size,0,none⟩)) rfl rfl hb0 (fun w' h=>?_) ?_
 ·obtain ⟨h1,h2,h3,h4⟩:=ha8.out w' h
  go_simp
 refine tkZ 8 66 (.int .i64 a) rfl rfl hb0 (fun w' h=>?_) ?_
 ·obtain ⟨h1,h2,h3,h4⟩:=ha8.out w' h
  go_simp
 refine tkZ 9 67 (.pointer (some ⟨w.heap.size+1,1,none⟩)) rfl rfl hb0 (fun w' h=>?_) ?_
 ·obtain ⟨h1,h2,h3,h4⟩:=ha8.out w' h
  go_simp
 refine tkZ 10 68 (.int .i64 d) rfl rfl hb0 (fun w' h=>?_) ?_
 ·obtain ⟨h1,h2,h3,h4⟩:=ha8.out w' h
  go_simp
 refine tkZ 12 70 (.func (.func 84) #[] #[]) rfl rfl hb0 (fun w' h=>?_) ?_
 ·obtain ⟨h1,h2,h3,h4⟩:=ha8.out w' h
  go_simp
 refine tkZ 13 71 (.pointer (some ⟨w.heap.size,1,none⟩)) rfl rfl hb0 (fun w' h=>?_) ?_
 ·obtain ⟨h1,h2,h3,h4⟩:=ha8.out w' h
  go_simp
 refine tkZ 14 72 (.int .i64 b) rfl rfl hb0 (fun w' h=>?_) ?_
 ·obtain ⟨h1,h2,h3,h4⟩:=ha8.out w' h
  go_simp
 refine tkZ 15 73 (.pointer (some ⟨w.heap.size+1,0,none⟩)) rfl rfl hb0 (fun w' h=>?_) ?_
 ·obtain ⟨h1,h2,h3,h4⟩:=ha8.out w' h
  go_simp
 refine tkZ 16 74 (.int .i64 c) rfl rfl hb0 (fun w' h=>?_) ?_
 ·obtain ⟨h1,h2,h3,h4⟩:=ha8.out w' h
  go_simp
 refine tkZ 18 76 (.func (.func 84) #[] #[]) rfl rfl hb0 (fun w' h=>?_) ?_
 ·obtain ⟨h1,h2,h3,h4⟩:=ha8.out w' h
  go_simp
 refine tkZ 19 77 (.pointer (some ⟨w.heap.size,1,none⟩)) rfl rfl hb0 (fun w' h=>?_) ?_
 ·obtain ⟨h1,h2,h3,h4⟩:=ha8.out w' h
  go_simp
 refine tkZ 20 78 (.int .i64 b) rfl rfl hb0 (fun w' h=>?_) ?_
 ·obtain ⟨h1,h2,h3,h4⟩:=ha8.out w' h
  go_simp
 refine tkZ 21 79 (.pointer (some ⟨w.heap.size+1,1,none⟩)) rfl rfl hb0 (fun w' h=>?_) ?_
 ·obtain ⟨h1,h2,h3,h4⟩:=ha8.out w' h
  go_simp
 refine tkZ 22 80 (.int .i64 d) rfl rfl hb0 (fun w' h=>?_) ?_
 ·obtain ⟨h1,h2,h3,h4⟩:=ha8.out w' h
  go_simp
 refine qk (i:=5) (by kernel_rfl) (qm 63 rfl rfl rfl (by go_simp) (kY a c w0) ?_)
 rintro e w1 ⟨rfl,hw1⟩
 have hb1:Below W.heap.size W w1:=by rw [hw1];exact (hb0.alloc hb0.size _).alloc (yv hb0.size (by simp)) _
 have s0:Below w0.heap.size w0 w1:=by rw [hw1];exact bZ
 have PA0:=q7 (show w1.heap[w0.heap.size]?=some (.cells #[.int .i64 a] 3 (0,0)) by rw [hw1];exact qg (qn w0 _))
 have PB0:=q7 (show w1.heap[w0.heap.size+1]?=some (.cells #[.int .i64 c] 3 (0,0)) by rw [hw1];exact qh (by simp))
 clear hw1
 refine ⟨_,rfl,hb1,?_⟩
 refine qk (i:=11) (by kernel_rfl) (qm 69 rfl rfl rfl (by go_simp) (kY a d w1) ?_)
 rintro e w2 ⟨rfl,hw2⟩
 have hb2:Below W.heap.size W w2:=by rw [hw2];exact (hb1.alloc hb1.size _).alloc (yv hb1.size (by simp)) _
 have s1:Below w1.heap.size w1 w2:=by rw [hw2];exact bZ
 have PA1:=q7 (show w2.heap[w1.heap.size]?=some (.cells #[.int .i64 a] 3 (0,0)) by rw [hw2];exact qg (qn w1 _))
 have PB1:=q7 (show w2.heap[w1.heap.size+1]?=some (.cells #[.int .i64 d] 3 (0,0)) by rw [hw2];exact qh (by simp))
 clear hw2
 refine ⟨_,rfl,hb2,?_⟩
 refine qk (i:=17) (by kernel_rfl) (qm 75 rfl rfl rfl (by go_simp) (kY b c w2) ?_)
 rintro e w3 ⟨rfl,hw3⟩
 have hb3:Below W.heap.size W w3:=by rw [hw3];exact (hb2.alloc hb2.size _).alloc (yv hb2.size (by simp)) _
 have s2:Below w2.heap.size w2 w3:=by rw [hw3];exact bZ
 have PA2:=q7 (show w3.heap[w2.heap.size]?=some (.cells #[.int .i64 b] 3 (0,0)) by rw [hw3];exact qg (qn w2 _))
 have PB2:=q7 (show w3.heap[w2.heap.size+1]?=some (.cells #[.int .i64 c] 3 (0,0)) by rw [hw3];exact qh (by simp))
 clear hw3
 refine ⟨_,rfl,hb3,?_⟩
 refine qk (i:=23) (by kernel_rfl) (qm 81 rfl rfl rfl (by go_simp) (kY b d w3) ?_)
 rintro e w4 ⟨rfl,hw4⟩
 have hb4:Below W.heap.size W w4:=by rw [hw4];exact (hb3.alloc hb3.size _).alloc (yv hb3.size (by simp)) _
 have s3:Below w3.heap.size w3 w4:=by rw [hw4];exact bZ
 have PA3:=q7 (show w4.heap[w3.heap.size]?=some (.cells #[.int .i64 b] 3 (0,0)) by rw [hw4];exact qg (qn w3 _))
 have PB3:=q7 (show w4.heap[w3.heap.size+1]?=some (.cells #[.int .i64 d] 3 (0,0)) by rw [hw4];exact qh (by simp))
 clear hw4
 refine ⟨_,rfl,hb4,?_⟩
 obtain ⟨wb,hwb⟩:∃wb,wb=w4.alloc (.cells #[.func (.func 85) #[] #[.pointer (some ⟨w0.heap.size,0,none⟩),.pointer (some ⟨w0.heap.size+1,0,none⟩)],.func (.func 85) #[] #[.pointer (some ⟨w1.heap.size,0,none⟩),.pointer (some ⟨w1.heap.size+1,0,none⟩)],.func (.func 85) #[] #[.pointer (some ⟨w2.heap.size,0,none⟩),.pointer (some ⟨w2.heap.size+1,0,none⟩)],.func (.func 85) #[] #[.pointer (some ⟨w3.heap.size,0,none⟩),.pointer (some ⟨w3.heap.size+1,0,none⟩)]] 138):=⟨_,rfl⟩
 have hbb:Below W.heap.size W wb:=by rw [hwb];exact hb4.alloc hb4.size _
 have sb:Below w4.heap.size w4 wb:=by rw [hwb];exact bZ
 refine qk (i:=24) (by kernel_rfl) (qz 82 (.slice (some ⟨w4.heap.size,0,none⟩) 4 4) wb rfl rfl rfl (by rw [hwb];go_simp) hbb ?_)
 have HS:=q7 (show wb.heap[w4.heap.size]?=some (.cells #[.func (.func 85) #[] #[.pointer (some ⟨w0.heap.size,0,none⟩),.pointer (some ⟨w0.heap.size+1,0,none⟩)],.func (.func 85) #[] #[.pointer (some ⟨w1.heap.size,0,none⟩),.pointer (some ⟨w1.heap.size+1,0,none⟩)],.func (.func 85) #[] #[.pointer (some ⟨w2.heap.size,0,none⟩),.pointer (some ⟨w2.heap.size+1,0,none⟩)],.func (.func 85) #[] #[.pointer (some ⟨w3.heap.size,0,none⟩),.pointer (some ⟨w3.heap.size+1,0,none⟩)]] 138 (0,0)) by rw [hwb];exact qn w4 _)
 clear hwb
 have PAW0:=q7 (show wb.heap[w0.heap.size]?=some (.cells #[.int .i64 a] 3 (0,0)) by
  have l1:=PA0.out
  have l2:=(s1.block _ (q8 l1)).trans l1
  have l3:=(s2.block _ (q8 l2)).trans l2
  have l4:=(s3.block _ (q8 l3)).trans l3
  exact (sb.block _ (q8 l4)).trans l4)
 have PBW0:=q7 (show wb.heap[w0.heap.size+1]?=some (.cells #[.int .i64 c] 3 (0,0)) by
  have l1:=PB0.out
  have l2:=(s1.block _ (q8 l1)).trans l1
  have l3:=(s2.block _ (q8 l2)).trans l2
  have l4:=(s3.block _ (q8 l3)).trans l3
  exact (sb.block _ (q8 l4)).trans l4)
 have PAW1:=q7 (show wb.heap[w1.heap.size]?=some (.cells #[.int .i64 a] 3 (0,0)) by
  have l2:=PA1.out
  have l3:=(s2.block _ (q8 l2)).trans l2
  have l4:=(s3.block _ (q8 l3)).trans l3
  exact (sb.block _ (q8 l4)).trans l4)
 have PBW1:=q7 (show wb.heap[w1.heap.size+1]?=some (.cells #[.int .i64 d] 3 (0,0)) by
  have l2:=PB1.out
  have l3:=(s2.block _ (q8 l2)).trans l2
  have l4:=(s3.block _ (q8 l3)).trans l3
  exact (sb.block _ (q8 l4)).trans l4)
 have PAW2:=q7 (show wb.heap[w2.heap.size]?=some (.cells #[.int .i64 b] 3 (0,0)) by
  have l3:=PA2.out
  have l4:=(s3.block _ (q8 l3)).trans l3
  exact (sb.block _ (q8 l4)).trans l4)
 have PBW2:=q7 (show wb.heap[w2.heap.size+1]?=some (.cells #[.int .i64 c] 3 (0,0)) by
  have l3:=PB2.out
  have l4:=(s3.block _ (q8 l3)).trans l3
  exact (sb.block _ (q8 l4)).trans l4)
 have PAW3:=q7 (show wb.heap[w3.heap.size]?=some (.cells #[.int .i64 b] 3 (0,0)) by
  have l4:=PA3.out
  exact (sb.block _ (q8 l4)).trans l4)
 have PBW3:=q7 (show wb.heap[w3.heap.size+1]?=some (.cells #[.int .i64 d] 3 (0,0)) by
  have l4:=PB3.out
  exact (sb.block _ (q8 l4)).trans l4)
 have hcon:=ends_mul w4.heap.size #[.pointer (some ⟨w0.heap.size,0,none⟩),.pointer (some ⟨w0.heap.size+1,0,none⟩)] (a*c) #[.pointer (some ⟨w1.heap.size,0,none⟩),.pointer (some ⟨w1.heap.size+1,0,none⟩)] (a*d) #[.pointer (some ⟨w2.heap.size,0,none⟩),.pointer (some ⟨w2.heap.size+1,0,none⟩)] (b*c) #[.pointer (some ⟨w3.heap.size,0,none⟩),.pointer (some ⟨w3.heap.size+1,0,none⟩)] (b*d) wb (HA.out.below (HB.out.trans (hbb.mono HB.out.size)))
  ((blk HS.out).1 0) (fun W2 h2=>kb _ _ a c W2 ha hc ((blk ((h2.block _ (q8 PAW0.out)).trans PAW0.out)).1 0) ((blk ((h2.block _ (q8 PBW0.out)).trans PBW0.out)).1 0))
  ((blk HS.out).1 1) (fun W2 h2=>kb _ _ a d W2 ha hd ((blk ((h2.block _ (q8 PAW1.out)).trans PAW1.out)).1 0) ((blk ((h2.block _ (q8 PBW1.out)).trans PBW1.out)).1 0))
  ((blk HS.out).1 2) (fun W2 h2=>kb _ _ b c W2 hb hc ((blk ((h2.block _ (q8 PAW2.out)).trans PAW2.out)).1 0) ((blk ((h2.block _ (q8 PBW2.out)).trans PBW2.out)).1 0))
  ((blk HS.out).1 3) (fun W2 h2=>kb _ _ b d W2 hb hd ((blk ((h2.block _ (q8 PAW3.out)).trans PAW3.out)).1 0) ((blk ((h2.block _ (q8 PBW3.out)).trans PBW3.out)).1 0))
 rw [←HV.out] at hcon
 have HC:=q7 hcon
 clear hcon
 refine qk (i:=25) (by kernel_rfl) (qm 83 rfl rfl rfl (by go_simp) HC.out ?_)
 rintro e w8 ⟨rfl,hb8⟩
 have hb4:Below W.heap.size W w8:=hbb.trans (hb8.mono hbb.size)
 clear hb8 hbb
 refine ⟨_,rfl,hb4,?_⟩
 simp only [spC]
 have hZ4:=(hb4.block _ (q8 HZ.out)).trans HZ.out
 have z4:=q8 hZ4
 have c0:=(blk hZ4).1 0
 have c1:=(blk hZ4).1 1
 have c2:=(blk hZ4).1 2
 have cf:=(blk hZ4).2
 simp only [zE,zB,zD] at c0 c1 c2
 obtain ⟨W5,hW5⟩:∃W5,W5=((w8.setCell ⟨w.heap.size+1+1,0,none⟩ (.int .i64 V.lo)).setCell ⟨w.heap.size+1+1,1,none⟩ (.int .i64 V.hi)).setCell ⟨w.heap.size+1+1,2,none⟩ (.bool V.has):=⟨_,rfl⟩
 refine qk (i:=26) (by kernel_rfl) (qA W5 rfl rfl rfl (by rw [hW5];go_simp) (fun h=>absurd rfl h) (qx (by kernel_rfl) ?_ _))
 have hZ5:W5.heap[w.heap.size+1+1]?=some (.cells #[.int .i64 V.lo,.int .i64 V.hi,.bool V.has] 59 (0,0)):=by
  rw [hW5,qV (qV (qV hZ4 0 _) 1 _) 2 _]
  rfl
 have hb5:Below w.heap.size w W5:=by
  rw [hW5]
  exact (((HB.out.trans (hb4.mono HB.out.size)).setCell (by show w.heap.size≤w.heap.size+1+1;omega) _).setCell (by show w.heap.size≤w.heap.size+1+1;omega) _).setCell (by show w.heap.size≤w.heap.size+1+1;omega) _
 have e0:W5.cell? ⟨w.heap.size+1+1,0,none⟩=some (.int .i64 V.lo):=(blk hZ5).1 0
 have e1:W5.cell? ⟨w.heap.size+1+1,1,none⟩=some (.int .i64 V.hi):=(blk hZ5).1 1
 have e2:W5.cell? ⟨w.heap.size+1+1,2,none⟩=some (.bool V.has):=(blk hZ5).1 2
 have HB5:=q7 hb5
 clear hW5 hZ5 hb5 hb4 hZ4 c0 c1 c2 cf z4
 simp only [calm,Exit.then]
 go_simp
 go_wp2_with fail
 refine zk (v:=.agg #[.int .i64 V.lo,.int .i64 V.hi,.bool V.has]) ?_ rfl ⟨rfl,HB5.out⟩
 simp [results,Tryz.results39,go_sem,e0,e1,e2]
theorem JJ (op:Int) (x y:Spn) (w:World) (hop:1≤op∧op≤22) (hx:SpOk x) (hy:SpOk y) (hA:AllW w) :
  Calls Tryz.prog 39 #[.int .i64 op,.agg (spC x),.agg (spC y)] w fun e w'=>e = .returned (.agg (spC (Xu op x y)))∧Below w.heap.size w w':=by
 obtain ⟨a,b,s⟩:=x
 obtain ⟨c,d,s2⟩:=y
 by_cases h17:17<op
 ·rw [show Xu op ⟨a,b,s⟩ ⟨c,d,s2⟩=jW from zZ h17]
  exact mk_rest op a b c d s s2 ⟨h17,hop.2⟩ w hA
 cases s
 ·rw [show Xu op ⟨a,b,false⟩ ⟨c,d,s2⟩=vc from (zQ h17).trans (zZ (xH rfl))]
  exact mk_no1 op a b c d s2 (by omega) w hA
 by_cases hB:2≤op∧op≤15
 ·cases s2
  ·rw [show Xu op ⟨a,b,true⟩ ⟨c,d,false⟩=vc from (zQ h17).trans (zZ (Or.inr ⟨hB,rfl⟩))]
   exact mk_no2 op a b c d hB w hA
  have hgo:¬ ((true:Bool)=false∨(2≤op∧op≤15)∧(true:Bool)=false):=by simp
  have h1:¬ op=1:=by omega
  have e:Xu op ⟨a,b,true⟩ ⟨c,d,true⟩=if op=2 then jo [a+c,b+d] vc else if op=3 then jo [a - d,b - c] vc else if op=4 then jo [a*c,a*d,b*c,b*d] vc else if op=5∨op=6 then Yt op ⟨a,b,true⟩ ⟨c,d,true⟩ else if op=7∨op=8∨op=9 then Xt op ⟨a,b,true⟩ ⟨c,d,true⟩ else if op=10∨op=11 then K2 op ⟨a,b,true⟩ ⟨c,d,true⟩ else jz op ⟨a,b,true⟩ ⟨c,d,true⟩:=by
   unfold Xu
   rw [zQ h17,zQ hgo,zQ h1,zQ (show ¬ op=16 by omega),zQ (show ¬ op=17 by omega)]
  rw [e]
  by_cases c2:op=2
  ·subst c2;exact mk_add a b c d hx hy w hA
  by_cases c3:op=3
  ·subst c3;exact mk_sub a b c d hx hy w hA
  by_cases c4:op=4
  ·subst c4;exact mk_mul a b c d hx hy w hA
  rw [zQ c2,zQ c3,zQ c4]
  by_cases c5:op=5∨op=6
  ·rw [zZ c5];exact mk_div op a b c d c5 hx hy w hA
  rw [zQ c5]
  by_cases c7:op=7∨op=8∨op=9
  ·rw [zZ c7];exact mk_log op a b c d c7 hx hy w hA
  rw [zQ c7]
  by_cases c10:op=10∨op=11
  ·rw [zZ c10];exact mk_shf op a b c d c10 hx hy w hA
  rw [zQ c10]
  exact mk_tst op a b c d (by omega) hx hy w hA
 have ho:op=1∨op=16∨op=17:=by omega
 have hle:=hx.le rfl
 have hlo:=hx.lo
 have hhi:=hx.hi
 unfold I64 at hlo hhi
 rcases ho with rfl|rfl|rfl
 ·rw [show Xu 1 ⟨a,b,true⟩ ⟨c,d,s2⟩=ofS a b from by unfold Xu;simp [ofS]]
  exact mk_1 a b c d s2 w hA
 ·by_cases hm:a = -9223372036854775808
  ·rw [show Xu 16 ⟨a,b,true⟩ ⟨c,d,s2⟩=jW from by unfold Xu vz;simp [hm]]
   exact mk_16m a b c d s2 hm w hA
  rw [show Xu 16 ⟨a,b,true⟩ ⟨c,d,s2⟩=ofS (-b) (-a) from by unfold Xu vz;simp [hm]]
  exact mk_16 a b c d s2 hm hlo hhi hle w hA
 rw [show Xu 17 ⟨a,b,true⟩ ⟨c,d,s2⟩=ofS (-1 - b) (-1 - a) from by unfold Xu;simp]
 exact mk_17 a b c d s2 hlo hhi w hA
end Go.Proofs.YtbnnhmcloecijaaGreatDoor
