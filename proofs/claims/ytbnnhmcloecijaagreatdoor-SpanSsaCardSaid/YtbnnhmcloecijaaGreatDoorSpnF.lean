/-
  The contracts of the closures in span.makes, and of span.ends.
-/
import Derived.Test.YtbnnhmcloecijaaGreatDoorJSpnE
set_option maxRecDepth 100000
set_option maxHeartbeats 16000000
namespace Go.Proofs.YtbnnhmcloecijaaGreatDoor
open Go.RowKit Go.Shelf

theorem YB {a b:Int} (ha:I64 a) (hb:I64 b):(decide (a<wrap64 (a+b)) == decide (0<b))=Qg (a+b):=by
 unfold I64 at ha hb
 have e:Qg (a+b)=decide (-9223372036854775808≤a+b∧a+b≤9223372036854775807):=rfl
 rw [e,Bool.eq_iff_iff]
 simp only [beq_iff_eq,decide_eq_decide,yY]
 unfold wrap64
 omega
theorem sub_fits {a b:Int} (ha:I64 a) (hb:I64 b):(decide (wrap64 (a - b)<a) == decide (0<b))=Qg (a - b):=by
 unfold I64 at ha hb
 have e:Qg (a - b)=decide (-9223372036854775808≤a - b∧a - b≤9223372036854775807):=rfl
 rw [e,Bool.eq_iff_iff]
 simp only [beq_iff_eq,decide_eq_decide,yY]
 unfold wrap64
 omega
theorem mC (X Y:Nat) (a b:Int) (w:World) (ha:I64 a) (hb:I64 b) (h1:w.cell? ⟨X,0,none⟩=some (.int .i64 a)) (h2:w.cell? ⟨Y,0,none⟩=some (.int .i64 b)) :
  Calls Tryz.prog 79 #[.pointer (some ⟨X,0,none⟩),.pointer (some ⟨Y,0,none⟩)] w fun e w'=>e = .returned (.tuple #[.int .i64 (wrap64 (a+b)),.bool (Qg (a+b))])∧Below w.heap.size w w':=by
 have HS:=q7 (YB ha hb)
 clear ha hb
 go_enter Tryz.func79,Tryz.ntmps79
 go_wp2_with (go_at_call 80;refine (Xh _ _ _).mono ?_;rintro e w1 ⟨rfl,rfl⟩)
 refine zk (v:=.tuple #[.int .i64 (wrap64 (a+b)),.bool (decide (a<wrap64 (a+b)) == decide (0<b))]) (by simp [results,Tryz.results79]) rfl ⟨by rw [HS.out],zI _ _⟩
theorem mD (X Y:Nat) (a b:Int) (w:World) (ha:I64 a) (hb:I64 b) (h1:w.cell? ⟨X,1,none⟩=some (.int .i64 a)) (h2:w.cell? ⟨Y,1,none⟩=some (.int .i64 b)) :
  Calls Tryz.prog 81 #[.pointer (some ⟨X,0,none⟩),.pointer (some ⟨Y,0,none⟩)] w fun e w'=>e = .returned (.tuple #[.int .i64 (wrap64 (a+b)),.bool (Qg (a+b))])∧Below w.heap.size w w':=by
 have HS:=q7 (YB ha hb)
 clear ha hb
 go_enter Tryz.func81,Tryz.ntmps81
 go_wp2_with (go_at_call 80;refine (Xh _ _ _).mono ?_;rintro e w1 ⟨rfl,rfl⟩)
 refine zk (v:=.tuple #[.int .i64 (wrap64 (a+b)),.bool (decide (a<wrap64 (a+b)) == decide (0<b))]) (by simp [results,Tryz.results81]) rfl ⟨by rw [HS.out],zI _ _⟩
theorem J2 (a b:Int) (w:World) :
  Calls Tryz.prog 82 #[.int .i64 a,.int .i64 b] w fun e w'=>e = .returned (.func (.func 83) #[] #[.pointer (some ⟨w.heap.size,0,none⟩),.pointer (some ⟨w.heap.size+1,0,none⟩)])∧w'=(w.alloc (.cells #[.int .i64 a] 3)).alloc (.cells #[.int .i64 b] 3):=by
 go_enter Tryz.func82,Tryz.ntmps82
 go_wp2
 go_ret
 exact ⟨rfl,rfl⟩
theorem kY (a b:Int) (w:World) :
  Calls Tryz.prog 84 #[.int .i64 a,.int .i64 b] w fun e w'=>e = .returned (.func (.func 85) #[] #[.pointer (some ⟨w.heap.size,0,none⟩),.pointer (some ⟨w.heap.size+1,0,none⟩)])∧w'=(w.alloc (.cells #[.int .i64 a] 3)).alloc (.cells #[.int .i64 b] 3):=by
 go_enter Tryz.func84,Tryz.ntmps84
 go_wp2
 go_ret
 exact ⟨rfl,rfl⟩
theorem Xj (X Y:Nat) (a b:Int) (w:World) (ha:I64 a) (hb:I64 b) (h1:w.cell? ⟨X,0,none⟩=some (.int .i64 a)) (h2:w.cell? ⟨Y,0,none⟩=some (.int .i64 b)) :
  Calls Tryz.prog 83 #[.pointer (some ⟨X,0,none⟩),.pointer (some ⟨Y,0,none⟩)] w fun e w'=>e = .returned (.tuple #[.int .i64 (wrap64 (a - b)),.bool (Qg (a - b))])∧Below w.heap.size w w':=by
 have HS:=q7 (sub_fits ha hb)
 have hwr:IntKind.i64.wrap (a - b)=wrap64 (a - b):=IntWalk.i64_left _
 clear ha hb
 have hX:=qd h1
 have hY:=qd h2
 go_enter Tryz.func83,Tryz.ntmps83
 go_wp2_with fail
 go_quiet (fail)
 go_wp2
 refine zk (v:=.tuple #[.int .i64 (wrap64 (a - b)),.bool (decide (wrap64 (a - b)<a) == decide (0<b))]) (by simp [results,Tryz.results83]) rfl ⟨by rw [HS.out],?_⟩
 exact bZ
theorem kb (X Y:Nat) (a b:Int) (w:World) (ha:I64 a) (hb:I64 b) (h1:w.cell? ⟨X,0,none⟩=some (.int .i64 a)) (h2:w.cell? ⟨Y,0,none⟩=some (.int .i64 b)) :
  Calls Tryz.prog 85 #[.pointer (some ⟨X,0,none⟩),.pointer (some ⟨Y,0,none⟩)] w fun e w'=>e = .returned (.tuple #[.int .i64 (wrap64 (a*b)),.bool (Qg (a*b))])∧Below w.heap.size w w':=by
 have HA:=q7 ha
 have HB:=q7 hb
 clear ha hb
 go_enter Tryz.func85,Tryz.ntmps85
 go_wp2_with (go_at_call 86;refine (Xi _ _ _ HA.out HB.out).mono ?_;rintro e w1 ⟨rfl,rfl⟩)
 refine zk (v:=.tuple #[.int .i64 (wrap64 (a*b)),.bool (Qg (a*b))]) (by simp [results,Tryz.results85]) rfl ⟨rfl,zI _ _⟩
theorem mE (l h:Int) (b:Bool) (v:Int) (w:World) :
  Calls Tryz.prog 38 #[.agg #[.int .i64 l,.int .i64 h,.bool b],.agg #[.int .i64 v,.int .i64 v,.bool true]] w fun e w'=>e = .returned (.agg (spC (zR ⟨l,h,b⟩ (ofS v v))))∧Below w.heap.size w w':=kI ⟨l,h,b⟩ (ofS v v) w
theorem mF (n:Int) (l:List Int) (s:Spn):jo (n::l) s=if Qg n=true then jo l (zR s (ofS n n)) else jW:=rfl
theorem jd {P : Program} {f : FuncId} {fn : Func} (hf : P.funcs[f]? = some fn) (h1 : (fn.name == "runtime.NumGoroutine") = false) (h2 : fn.body.isNone = false) (args : Array Value) (w : World) : (callFunc f args).run P w = .ok (.enter f args) w := by
 have n1 : ¬ fn.name = "runtime.NumGoroutine" := by simpa using h1
 have n2:¬ fn.body=none:=fun e=>by rw [e] at h2;cases h2
 unfold callFunc
 simp [go_sem,hf,n1,n2]
theorem JI (b:Nat) (fs:List (Nat×Array Value×Int)) (w:World) (hA:AllW w) (hbz:b<w.heap.size) (hn:fs.length≤4) (hcf:∀k (h:k<fs.length),∀W,(callFunc fs[k].1 fs[k].2.1).run Tryz.prog W = .ok (.enter fs[k].1 fs[k].2.1) W) (hc0:∀k (h:k<fs.length),w.cell? ⟨b,k,none⟩=some (.func (.func fs[k].1) #[] fs[k].2.1)) (hf0:∀k (h:k<fs.length),∀W,Below w.heap.size w W→Calls Tryz.prog fs[k].1 fs[k].2.1 W fun e w'=>e = .returned (.tuple #[.int .i64 (wrap64 fs[k].2.2),.bool (Qg fs[k].2.2)])∧Below W.heap.size W w') :
  Calls Tryz.prog 78 #[.slice (some ⟨b,0,none⟩) fs.length fs.length] w fun e w'=>e = .returned (.agg (spC (jo (fs.map (·.2.2)) vc)))∧Below w.heap.size w w':=by
 have HF0:=q7 hf0
 have HC0:=q7 hc0
 have HCF:=q7 hcf
 have HA:=q7 hA
 clear hf0 hc0 hA hcf
 obtain ⟨VS,hVS⟩:∃VS:List Int,VS=fs.map (·.2.2):=⟨_,rfl⟩
 have HV:=q7 hVS
 rw [←hVS]
 have hl:VS.length=fs.length:=by rw [hVS];simp
 clear hVS
 go_enter Tryz.func78,Tryz.ntmps78
 go_wp2_with fail
 go_loopg [10] fs.length (fun q s10 wr=>∃(k:Nat) (s:Spn),k≤fs.length∧q=fs.length - k∧s10 = .int .i64 k∧jo (VS.drop k) s=jo VS vc∧wr.heap[w.heap.size]?=some (.cells #[.int .i64 0,.int .i64 0,.bool false] 59 (0,0))∧wr.heap[w.heap.size+1]?=some (.cells (spC s) 59 (0,0))∧Below w.heap.size w wr)
 case atStart=>exact ⟨0,vc,by omega,rfl,rfl,rfl,qg (qn w _),qh (by simp),by exact bZ⟩
 case round=>
  obtain ⟨k,s,hk,rfl,rfl,hs,hX,hY,hb⟩:=hrel
  have HS:=q7 hs
  have HX:=q7 hX
  have HY:=q7 hY
  have HB:=q7 hb
  have zX:=q8 hX
  have zY:=q8 hY
  have hAr:=HA.out.below hb
  obtain ⟨g0,g1,g2⟩:=hAr
  clear hs hX hY hb
  by_cases hlt:k<fs.length
  rotate_left
  ·obtain rfl:k=fs.length:=by omega
   rw [List.drop_of_length_le (by omega)] at HS
   have he:s=jo VS vc:=HS.out
   have y0:=(blk HY.out).1 0
   have y1:=(blk HY.out).1 1
   have y2:=(blk HY.out).1 2
   have x0:=(blk HX.out).1 0
   have x1:=(blk HX.out).1 1
   have x2:=(blk HX.out).1 2
   have xf:=(blk HX.out).2
   simp only [spC,zE,zB,zD] at y0 y1 y2 x0 x1 x2
   have HE:=q7 he
   clear he
   go_wp2_with fail
   refine zk (v:=.agg (spC s)) ?_ rfl ⟨by rw [HE.out],?_⟩
   ·simp [results,Tryz.results78,go_sem,spC,x0,x1,x2]
   exact ((HB.out.setCell (by show w.heap.size≤w.heap.size;omega) _).setCell (by show w.heap.size≤w.heap.size;omega) _).setCell (by show w.heap.size≤w.heap.size;omega) _
  have hcl:wr.cell? ⟨b,k,none⟩=some (.func (.func fs[k].1) #[] fs[k].2.1):=(HB.out.cell (p:=⟨b,k,none⟩) hbz).trans (HC0.out k hlt)
  have hkv:k<VS.length:=by omega
  have hvk:VS[k]=fs[k].2.2:=by simp only [HV.out,xE]
  have hsv:jo (VS.drop k) s=if Qg VS[k]=true then jo (VS.drop (k+1)) (zR s (ofS VS[k] VS[k])) else jW:=by rw [List.drop_eq_getElem_cons hkv,mF]
  rw [HS.out,hvk] at hsv
  have HSV:=q7 hsv
  have HFk:=q7 (HF0.out k hlt _ HB.out)
  have hcf:=HCF.out k hlt
  have gk0:(0:Int)≤(k:Int):=by omega
  have gk1:(k:Int)<fs.length:=by omega
  clear hsv hvk
  obtain ⟨v,hv⟩:∃v,v=fs[k].2.2:=⟨_,rfl⟩
  rw [←hv] at HSV HFk
  clear hv
  cases hf:Qg v with
  | false=>
   rw [hf] at HSV HFk
   have HE:=q7 (show jo VS vc=jW from by rw [HSV.out];rfl)
   clear hf
   go_wp2_with fail
   refine HFk.out.mono ?_
   rintro e w4 ⟨rfl,hb4⟩
   have hX4:=(hb4.block _ zX).trans HX.out
   obtain ⟨a0,a1,a2⟩:=HA.out.below (HB.out.trans (hb4.mono HB.out.size))
   have x0:=(blk hX4).1 0
   have x1:=(blk hX4).1 1
   have x2:=(blk hX4).1 2
   have xf:=(blk hX4).2
   simp only [zE,zB,zD] at x0 x1 x2
   have HB4:=q7 (HB.out.trans (hb4.mono HB.out.size))
   have z4:=q8 hX4
   clear hb4 hX4 g0 g1 g2
   go_wp2_with fail
   refine zk (v:=.agg (spC jW)) ?_ rfl ⟨by rw [HE.out],?_⟩
   ·simp [results,Tryz.results78,go_sem,spC,jW,vz,vi,x0,x1,x2]
   exact ((HB4.out.setCell (by show w.heap.size≤w.heap.size;omega) _).setCell (by show w.heap.size≤w.heap.size;omega) _).setCell (by show w.heap.size≤w.heap.size;omega) _
  | true=>
   have hw:wrap64 v=v:=by
    have h3:-9223372036854775808≤v∧v≤9223372036854775807:=by
     have:=hf
     unfold Qg vz vi at this
     simpa using this
    unfold wrap64
    omega
   rw [hf,hw] at HFk
   rw [hf] at HSV
   have HE:=q7 (show jo (VS.drop (k+1)) (zR s (ofS v v))=jo VS vc from by rw [HSV.out];rfl)
   clear hf hw
   go_wp2_with fail
   refine HFk.out.mono ?_
   rintro e w4 ⟨rfl,hb4⟩
   have HX4:=q7 ((hb4.block _ zX).trans HX.out)
   have HY4:=q7 ((hb4.block _ zY).trans HY.out)
   have HB4:=q7 (HB.out.trans (hb4.mono HB.out.size))
   have ha8:=q7 (show ∀w',Below w4.heap.size w4 w'→w'.cell? ⟨w.heap.size+1,0,none⟩=some (.int .i64 s.lo)∧w'.cell? ⟨w.heap.size+1,1,none⟩=some (.int .i64 s.hi)∧w'.cell? ⟨w.heap.size+1,2,none⟩=some (.bool s.has) from fun w' h=>by
    have h2:=(h.block _ (q8 HY4.out)).trans HY4.out
    exact ⟨(blk h2).1 0,(blk h2).1 1,(blk h2).1 2⟩)
   clear hb4 g0 g1 g2
   go_wp2_with fail
   refine qr (S:=fun w'=>Below w4.heap.size w4 w') (by kernel_rfl) 4 ?_
   refine tkZ 0 22 (.agg #[.int .i64 s.lo,.int .i64 s.hi,.bool s.has]) rfl rfl (zI _ _).drew (fun w' h=>?_) ?_
   ·obtain ⟨h1,h2,h3⟩:=ha8.out w' h
    go_simp
   refine tkZ 1 23 (.int .i64 v) rfl rfl (zI _ _).drew (fun w' h=>?_) ?_
   ·go_simp
   refine qk (i:=2) (by kernel_rfl) (qm 24 rfl rfl rfl (by go_simp) (qP v _) ?_)
   rintro e w5 ⟨rfl,hw5⟩
   have hb5:Below w4.heap.size w4 w5:=by rw [hw5];exact (zI _ w4).drew.alloc (zK _) _
   clear hw5
   refine ⟨_,rfl,hb5,?_⟩
   refine qk (i:=3) (by kernel_rfl) (qm 25 rfl rfl rfl (by go_simp) (mE s.lo s.hi s.has v w5) ?_)
   rintro e w6 ⟨rfl,hd8⟩
   have hb6:Below w4.heap.size w4 w6:=hb5.trans (hd8.mono hb5.size)
   clear hd8 hb5
   refine ⟨_,rfl,hb6,?_⟩
   obtain ⟨s2,hs2⟩:∃s2,s2=zR s (ofS v v):=⟨_,rfl⟩
   rw [←hs2] at HE ⊢
   clear hs2
   have hY6:=(hb6.block _ (q8 HY4.out)).trans HY4.out
   have hX6:=(hb6.block _ (q8 HX4.out)).trans HX4.out
   have y0:=(blk hY6).1 0
   have y1:=(blk hY6).1 1
   have y2:=(blk hY6).1 2
   have yf:=(blk hY6).2
   have zy6:=q8 hY6
   simp only [spC,zE,zB,zD] at y0 y1 y2
   obtain ⟨W5,hW5⟩:∃W5,W5=((w6.setCell ⟨w.heap.size+1,0,none⟩ (.int .i64 s2.lo)).setCell ⟨w.heap.size+1,1,none⟩ (.int .i64 s2.hi)).setCell ⟨w.heap.size+1,2,none⟩ (.bool s2.has):=⟨_,rfl⟩
   simp only [spC]
   refine qk (i:=4) (by kernel_rfl) (qA W5 rfl rfl rfl (by rw [hW5];go_simp) (fun h=>absurd rfl h) (qx (by kernel_rfl) ?_ _))
   have hY7:W5.heap[w.heap.size+1]?=some (.cells (spC s2) 59 (0,0)):=by
    rw [hW5,qV (qV (qV hY6 0 _) 1 _) 2 _]
    rfl
   have hX7:W5.heap[w.heap.size]?=some (.cells #[.int .i64 0,.int .i64 0,.bool false] 59 (0,0)):=by
    rw [hW5]
    exact (zJ _ _ _ _ (by show w.heap.size≠w.heap.size+1;omega)).trans ((zJ _ _ _ _ (by show w.heap.size≠w.heap.size+1;omega)).trans ((zJ _ _ _ _ (by show w.heap.size≠w.heap.size+1;omega)).trans hX6))
   have hb7:Below w.heap.size w W5:=by
    rw [hW5]
    exact (((HB4.out.trans (hb6.mono HB4.out.size)).setCell (by show w.heap.size≤w.heap.size+1;omega) _).setCell (by show w.heap.size≤w.heap.size+1;omega) _).setCell (by show w.heap.size≤w.heap.size+1;omega) _
   have HY7:=q7 hY7
   have HX7:=q7 hX7
   have HB7:=q7 hb7
   clear hW5 hb6 hY6 hX6 y0 y1 y2 yf hY7 hX7 hb7
   simp only [calm]
   go_simp
   go_wp2_with fail
   go_roundg (fs.length - (k+1))
   case measure=>omega
   case rel=>exact ⟨k+1,s2,by omega,rfl,by go_num,HE.out,HX7.out,HY7.out,HB7.out⟩
theorem ends_add (b:Nat) (c0:Array Value) (v0:Int) (c1:Array Value) (v1:Int) (w:World) (hA:AllW w) (hc0:w.cell? ⟨b,0,none⟩=some (.func (.func 79) #[] c0)) (hf0:∀W,Below w.heap.size w W→Calls Tryz.prog 79 c0 W fun e w'=>e = .returned (.tuple #[.int .i64 (wrap64 v0),.bool (Qg v0)])∧Below W.heap.size W w') (hc1:w.cell? ⟨b,1,none⟩=some (.func (.func 81) #[] c1)) (hf1:∀W,Below w.heap.size w W→Calls Tryz.prog 81 c1 W fun e w'=>e = .returned (.tuple #[.int .i64 (wrap64 v1),.bool (Qg v1)])∧Below W.heap.size W w') :
  Calls Tryz.prog 78 #[.slice (some ⟨b,0,none⟩) 2 2] w fun e w'=>e = .returned (.agg (spC (jo [v0,v1] vc)))∧Below w.heap.size w w':=by
 exact JI b [(79,c0,v0),(81,c1,v1)] w hA (qd hc0) (by simp) (fun k h _=>by match k,h with|0,_=>exact jd Tryz.func79 (by kernel_rfl) (by kernel_rfl) _ _|1,_=>exact jd Tryz.func81 (by kernel_rfl) (by kernel_rfl) _ _|k+2,h=>exact absurd h (by simp)) (fun k h=>by match k,h with|0,_=>exact hc0|1,_=>exact hc1|k+2,h=>exact absurd h (by simp)) (fun k h=>by match k,h with|0,_=>exact hf0|1,_=>exact hf1|k+2,h=>exact absurd h (by simp))
theorem ends_sub (b:Nat) (c0:Array Value) (v0:Int) (c1:Array Value) (v1:Int) (w:World) (hA:AllW w) (hc0:w.cell? ⟨b,0,none⟩=some (.func (.func 83) #[] c0)) (hf0:∀W,Below w.heap.size w W→Calls Tryz.prog 83 c0 W fun e w'=>e = .returned (.tuple #[.int .i64 (wrap64 v0),.bool (Qg v0)])∧Below W.heap.size W w') (hc1:w.cell? ⟨b,1,none⟩=some (.func (.func 83) #[] c1)) (hf1:∀W,Below w.heap.size w W→Calls Tryz.prog 83 c1 W fun e w'=>e = .returned (.tuple #[.int .i64 (wrap64 v1),.bool (Qg v1)])∧Below W.heap.size W w') :
  Calls Tryz.prog 78 #[.slice (some ⟨b,0,none⟩) 2 2] w fun e w'=>e = .returned (.agg (spC (jo [v0,v1] vc)))∧Below w.heap.size w w':=by
 exact JI b [(83,c0,v0),(83,c1,v1)] w hA (qd hc0) (by simp) (fun k h _=>by match k,h with|0,_=>exact jd Tryz.func83 (by kernel_rfl) (by kernel_rfl) _ _|1,_=>exact jd Tryz.func83 (by kernel_rfl) (by kernel_rfl) _ _|k+2,h=>exact absurd h (by simp)) (fun k h=>by match k,h with|0,_=>exact hc0|1,_=>exact hc1|k+2,h=>exact absurd h (by simp)) (fun k h=>by match k,h with|0,_=>exact hf0|1,_=>exact hf1|k+2,h=>exact absurd h (by simp))
theorem ends_mul (b:Nat) (c0:Array Value) (v0:Int) (c1:Array Value) (v1:Int) (c2:Array Value) (v2:Int) (c3:Array Value) (v3:Int) (w:World) (hA:AllW w) (hc0:w.cell? ⟨b,0,none⟩=some (.func (.func 85) #[] c0)) (hf0:∀W,Below w.heap.size w W→Calls Tryz.prog 85 c0 W fun e w'=>e = .returned (.tuple #[.int .i64 (wrap64 v0),.bool (Qg v0)])∧Below W.heap.size W w') (hc1:w.cell? ⟨b,1,none⟩=some (.func (.func 85) #[] c1)) (hf1:∀W,Below w.heap.size w W→Calls Tryz.prog 85 c1 W fun e w'=>e = .returned (.tuple #[.int .i64 (wrap64 v1),.bool (Qg v1)])∧Below W.heap.size W w') (hc2:w.cell? ⟨b,2,none⟩=some (.func (.func 85) #[] c2)) (hf2:∀W,Below w.heap.size w W→Calls Tryz.prog 85 c2 W fun e w'=>e = .returned (.tuple #[.int .i64 (wrap64 v2),.bool (Qg v2)])∧Below W.heap.size W w') (hc3:w.cell? ⟨b,3,none⟩=some (.func (.func 85) #[] c3)) (hf3:∀W,Below w.heap.size w W→Calls Tryz.prog 85 c3 W fun e w'=>e = .returned (.tuple #[.int .i64 (wrap64 v3),.bool (Qg v3)])∧Below W.heap.size W w') :
  Calls Tryz.prog 78 #[.slice (some ⟨b,0,none⟩) 4 4] w fun e w'=>e = .returned (.agg (spC (jo [v0,v1,v2,v3] vc)))∧Below w.heap.size w w':=by
 exact JI b [(85,c0,v0),(85,c1,v1),(85,c2,v2),(85,c3,v3)] w hA (qd hc0) (by simp) (fun k h _=>by match k,h with|0,_=>exact jd Tryz.func85 (by kernel_rfl) (by kernel_rfl) _ _|1,_=>exact jd Tryz.func85 (by kernel_rfl) (by kernel_rfl) _ _|2,_=>exact jd Tryz.func85 (by kernel_rfl) (by kernel_rfl) _ _|3,_=>exact jd Tryz.func85 (by kernel_rfl) (by kernel_rfl) _ _|k+4,h=>exact absurd h (by simp)) (fun k h=>by match k,h with|0,_=>exact hc0|1,_=>exact hc1|2,_=>exact hc2|3,_=>exact hc3|k+4,h=>exact absurd h (by simp)) (fun k h=>by match k,h with|0,_=>exact hf0|1,_=>exact hf1|2,_=>exact hf2|3,_=>exact hf3|k+4,h=>exact absurd h (by simp))
end Go.Proofs.YtbnnhmcloecijaaGreatDoor
