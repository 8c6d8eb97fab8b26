/-
  Plain: a list of rows of numbers that a call makes: the outer slice and each row own memor
-/
import Derived.IntWalk
import Derived.Test.YtecdphhdmjmmnaaGreatDoorJChkO
import Derived.Deep.RegionHeld3
set_option maxRecDepth 100000
set_option maxHeartbeats 16000000
namespace Go.Proofs.YtecdphhdmjmmnaaGreatDoor
open Go.RowKit

def jh (f:FunL) (k:Nat):Nat:=((f.blocks.take k).map fun b=>b.phis.length+b.list.length).sum
theorem k7 (f:FunL) (k:Nat) (hk:k<f.blocks.length):jh f (k+1)=jh f k+(f.blocks[k].phis.length+f.blocks[k].list.length):=by
 unfold jh
 rw[List.take_succ_eq_append_getElem hk,List.map_append,List.sum_append]
 simp
theorem kO (f:FunL):jh f f.blocks.length=zi f:=by
 unfold jh zi
 rw[List.take_length]


theorem vx {w w':World} {p:Option Addr} {S:List ByteArray} (h:kf w p S) (hb:Below w.heap.size w w'):kf w' p S:=by
 rcases h with h|⟨b,o,hp,h⟩
 ·exact .inl h
 exact .inr ⟨b,o,hp,fun i hi=>(hb.cell (p:=⟨b,o+i,none⟩) (q8 (h i hi))).trans (h i hi)⟩

theorem head_any (f:FunL) (names:List ByteArray) (g1 fp bp np:Option Addr) (g2 g3 fl fc bc nc:Nat) (w:World)
  (hs:f.name.size≤maxLen) (hr1:I64 f.params) (hr2:I64 f.regs) (hbl:f.blocks.length*96≤140737488351232) (hb:SliceAt w 6 (BlkR w) bp f.blocks) (hnl:names.length≤9223372036854775807) (hN:kf w np names) :
  Calls Tryz.prog 28 #[.agg #[.slice g1 g2 g3,.slice fp fl fc,.string f.name,.int .i64 f.params,.int .i64 f.regs,.slice bp f.blocks.length bc,.slice none 0 0],.slice np names.length nc] w fun e w'=>e = .returned (.int .i64 (jQ names f))∧Below w.heap.size w w':=by
 have HB:=q7 hb
 have HN:=q7 hN
 obtain⟨hp1,hp2⟩:=hr1
 obtain⟨hp3,hp4⟩:=hr2
 clear hb hN
 go_enter Tryz.func28,Tryz.ntmps28
 go_wp2
 go_loopw [5,12] (fun m i wr=>∃(k:Nat) (x:Int),k≤f.blocks.length∧i = .int .i64 k∧m = .int .i64 x∧(f.blocks.length≤40→x=jh f k∧jh f k≤k*10000000000000)∧Below (w.heap.size+1) (w.alloc (.cells #[.slice g1 g2 g3,.slice fp fl fc,.string f.name,.int .i64 f.params,.int .i64 f.regs,.slice bp f.blocks.length bc,.slice none 0 0] 73)) wr) (fun _ i _=>f.blocks.length - (intOf i).toNat)
 case atStart=>exact⟨0,0,by omega,rfl,rfl,fun _=>by simp[jh],Below.refl _ _⟩
 case round=>
  obtain⟨k,x,hk,rfl,rfl,hV,hb⟩:=hrel
  have HV:=q7 hV
  have HBw:=q7 hb
  have HBx:Hid (Below w.heap.size w wr):=((Below.refl _ _).alloc (Nat.le_refl _) _).trans (hb.mono (by omega))
  have hz:w.heap.size<wr.heap.size:=by have:=hb.size;simp at this;omega
  obtain⟨hcc,hcf⟩:=blk (qd hb (by omega) (qr w _))
  clear hV hb
  by_cases hlt:k<f.blocks.length
  ·obtain⟨b2,o2,q1,c1,q2,c2,q3,c3,hp,e0,e1,e2,e3,e4,e5,_,_,hl1,hl2,_,_,_,_⟩:=zE HB.out HBx.out hlt
   subst hp
   go_wp2
   refine⟨⟨k+1,_,by omega,by go_num,rfl,fun h40=>?_,HBw.out.alloc (by omega) _⟩,by simp[intOf];omega⟩
   obtain⟨h1,h2⟩:=HV.out h40
   rw[k7 f k hlt]
   refine⟨?_,by omega⟩
   rw[IntWalk.wrap64_in _ ⟨by omega,by omega⟩,h1]
   omega
  have HM:Hid (f.blocks.length≤40→x=zi f):=by
   intro h
   have:=(HV.out h).1
   rw[show k=f.blocks.length by omega,kO]at this
   exact this
  clear HV
  have HW:=q7 (HN.out)
  cases hnb:jO f.name
  ·have HE:Hid (jQ names f=12):=by show _=_;unfold jQ;rw[if_pos hnb]
   go_wp2_with (go_at_call 25;refine(Q9 _ _ hs).mono ?_;rintro e w1 ⟨rfl,rfl⟩)
   go_ret
   exact⟨by rw[HE.out];rfl,HBx.out⟩
  cases hhb:Ji names f.name
  rotate_left
  ·have HE:Hid (jQ names f=7):=by show _=_;unfold jQ;rw[if_neg (by simp[hnb]),if_pos hhb]
   go_wp2_with (first|(go_at_call 25;refine(Q9 _ _ hs).mono ?_;rintro e w1 ⟨rfl,rfl⟩)|(go_at_call 26;refine(jP _ _ _ _ _ hnl (vx HW.out HBx.out)).mono ?_;rintro e w1 ⟨rfl,rfl⟩))
   go_ret
   exact⟨by rw[HE.out];rfl,HBx.out⟩
  have HE1:Hid (jQ names f=if ¬(0≤f.params∧f.params≤6)∨¬(f.params≤f.regs∧f.regs≤100)then 3 else if ¬(1≤f.blocks.length∧f.blocks.length≤40)∨300<zi f then 2 else 0):=by show _=_;unfold jQ;rw[if_neg (by simp[hnb]),if_neg (by simp[hhb])]
  go_wp2_with (first|(go_at_call 25;refine(Q9 _ _ hs).mono ?_;rintro e w1 ⟨rfl,rfl⟩)|(go_at_call 26;refine(jP _ _ _ _ _ hnl (vx HW.out HBx.out)).mono ?_;rintro e w1 ⟨rfl,rfl⟩)|(go_at_call 27;refine(qF _ _ _ _).mono ?_;rintro e w1 ⟨rfl,rfl⟩))
  all_goals
   go_ret
   refine⟨?_,HBx.out⟩
   rw[HE1.out]
   refine congrArg (fun n=>Ending.returned (.int .i64 n)) ?_
   clear HE1 HB HN HW HBw HBx hcc hcf
   have HM2:=HM.out
   clear HM
   simp only[zR,decide_eq_true_eq,decide_eq_false_iff_not,Bool.not_eq_eq_eq_not,Bool.not_true,Bool.not_false]at *
   first|(rw[if_pos (by omega)])|(rw[if_neg (by omega),if_pos (by omega)])|(rw[if_neg (by omega),if_neg (by omega)])|trace_state

theorem VL (nm:ByteArray) (params regs:Int) (bp:Option Addr) (bl bc:Nat) (w:World) :
  Calls Tryz.prog 31 #[.agg #[.string nm,.int .i64 params,.int .i64 regs,.slice bp bl bc]] w fun e w'=>e = .returned (.bool (nm.toList == [109,97,105,110]))∧Below w.heap.size w w':=by
 go_enter Tryz.func31,Tryz.ntmps31
 go_wp2
 go_ret
 exact⟨rfl,by exact bZ⟩

def vP (xs:List FunL):Option Nat:=(List.range xs.length).find? fun i=>match xs[i]? with|some f=>kN f|none=>false
theorem mainI_hit {xs:List FunL} {k:Nat} (hk:k<xs.length) (h0:∀j (h:j<xs.length),j<k→kN xs[j]=false) (h:kN xs[k]=true):vP xs=some k:=by
 unfold vP
 refine Z6 _ _ _ hk (fun j hj=>?_) ?_
 ·rw[List.getElem?_eq_getElem (by omega)];exact h0 j (by omega) hj
 rw[List.getElem?_eq_getElem hk];exact h
theorem VM {xs:List FunL} (h0:∀j (h:j<xs.length),kN xs[j]=false):vP xs=none:=by
 unfold vP
 rw[List.find?_eq_none]
 intro i hi
 have hi:=List.mem_range.1 hi
 rw[List.getElem?_eq_getElem hi]
 simp[h0 i hi]
def optI (o:Option Nat):Int:=match o with|some k=>(k:Int)|none=>-1

theorem Zw (xs:List FunL) (fp:Option Addr) (fc:Nat) (w:World) (hl:xs.length≤9223372036854775807) (hF:SliceAt w 4 (FunR w) fp xs) :
  Calls Tryz.prog 30 #[.slice fp xs.length fc,.func (.func 31) #[] #[]] w fun e w'=>e = .returned (.int .i64 (optI (vP xs)))∧Below w.heap.size w w':=by
 have HF:=q7 hF
 clear hF
 go_enter Tryz.func30,Tryz.ntmps30
 go_wp2
 go_loopw [8] (fun i wr=>∃k:Nat,k≤xs.length∧i = .int .i64 k∧(∀j (h:j<xs.length),j<k→kN xs[j]=false)∧Below w.heap.size w wr) (fun i _=>xs.length - (intOf i).toNat)
 case atStart=>exact⟨0,by omega,rfl,fun j _ h=>by omega,Below.refl _ _⟩
 case round=>
  obtain⟨k,hk,rfl,hV,hb⟩:=hrel
  have HV:=q7 hV
  have HBw:=q7 hb
  clear hV hb
  by_cases hlt:k<xs.length
  rotate_left
  ·go_wp2_with fail
   go_ret
   refine⟨?_,HBw.out⟩
   rw[VM (fun j hj=>HV.out j hj (by omega))]
   rfl
  obtain⟨b,o,q,c,hp,e0,e1,e2,e3,_⟩:=kd HF.out HBw.out hlt
  subst hp
  go_wp2_with fail
  refine(VL _ _ _ _ _ _ _).mono ?_
  rintro e w3 ⟨rfl,hb3⟩
  have HB3:=q7 hb3
  have HE:Hid (kN xs[k]=(xs[k].name.toList == [109,97,105,110])):=rfl
  clear hb3
  cases hm:(xs[k].name.toList == [109,97,105,110])
  ·have HM:Hid (kN xs[k]=false):=HE.out.trans hm
   clear hm
   go_wp2_with fail
   refine⟨⟨k+1,by omega,by go_num,fun j hj hjk=>?_,HBw.out.trans (HB3.out.mono HBw.out.size)⟩,by simp[intOf];omega⟩
   by_cases hj2:j<k
   ·exact HV.out j hj hj2
   obtain rfl:j=k:=by omega
   exact HM.out
  have HM:Hid (kN xs[k]=true):=HE.out.trans hm
  clear hm
  go_wp2_with fail
  go_ret
  refine⟨?_,HBw.out.trans (HB3.out.mono HBw.out.size)⟩
  rw[mainI_hit hlt HV.out HM.out]
  rfl

theorem Xr:Tryz.prog.underlying 66=some (.slice 9):=by kernel_rfl
theorem infoStr:(Tryz.prog.info? 9).map (fun i=>(i.zero,i.size,i.bytes))=some (some (.string ⟨#[]⟩),1,16):=by kernel_rfl

theorem Qp (u:UniL):mainAt u=vP u.funcs:=rfl
theorem chk_big {u:UniL} (h:10<u.globals.length∨10<u.funcs.length):chk u=(2,0):=by
 unfold chk chkO
 rw[if_pos h];rfl
theorem Qq {u:UniL} {k:Nat} {e:Int} (h1:u.globals.length≤10) (h2:u.funcs.length≤10) (hk:k<u.globals.length) (h0:∀j,j<k→Xo u j=0) (h:Xo u k=e) (he:e≠0):chk u=(e,(k:Int)):=by
 unfold chk chkO
 rw[if_neg (by omega),k6 hk h0 (by rw[h];exact he),h];rfl
theorem chk_head {u:UniL} {k:Nat} {e:Int} (h1:u.globals.length≤10) (h2:u.funcs.length≤10) (hg:∀j,j<u.globals.length→Xo u j=0) (hk:k<u.funcs.length) (h0:∀j,j<k→kg u j=0) (h:kg u k=e) (he:e≠0):chk u=(e,(k:Int)):=by
 unfold chk chkO
 rw[if_neg (by omega),zt hg]
 simp only
 rw[k6 hk h0 (by rw[h];exact he),h];rfl
theorem chk_body {u:UniL} {k:Nat} {e:Int} (h1:u.globals.length≤10) (h2:u.funcs.length≤10) (hg:∀j,j<u.globals.length→Xo u j=0) (hh:∀j,j<u.funcs.length→kg u j=0) (hk:k<u.funcs.length) (h0:∀j,j<k→kM u j=0) (h:kM u k=e) (he:e≠0):chk u=(e,(k:Int)):=by
 unfold chk chkO
 rw[if_neg (by omega),zt hg]
 simp only
 rw[zt hh]
 simp only
 rw[k6 hk h0 (by rw[h];exact he),h];rfl
theorem chk_main {u:UniL} (h1:u.globals.length≤10) (h2:u.funcs.length≤10) (hg:∀j,j<u.globals.length→Xo u j=0) (hh:∀j,j<u.funcs.length→kg u j=0) (hb:∀j,j<u.funcs.length→kM u j=0) :
  chk u=match vP u.funcs with|none=>(6,0)|some m=>if 0<Z7 u m then(5,(m:Int)) else(0,0):=by
 unfold chk chkO
 rw[if_neg (by omega),zt hg]
 simp only
 rw[zt hh]
 simp only
 rw[zt hb,Qp]
 simp only
 cases vP u.funcs with
 | none=>rfl
 | some m=>
  simp only
  split<;>rfl
theorem gloI_eq {u:UniL} {k:Nat} (hk:k<u.globals.length):Xo u k=Jp (xZ u k) (xY u k) u.globals[k]:=by
 unfold Xo
 rw[List.getElem?_eq_getElem hk]
theorem kh {u:UniL} {k:Nat} (hk:k<u.funcs.length):kg u k=jQ (xL u k) u.funcs[k]:=by
 unfold kg
 rw[List.getElem?_eq_getElem hk]
theorem Zx {u:UniL} {k:Nat} (hk:k<u.funcs.length):kM u k=jK u u.funcs[k]:=by
 unfold kM
 rw[List.getElem?_eq_getElem hk]
theorem Q2 {u:UniL} {k:Nat} (hk:k<u.globals.length):xY u (k+1)=xY u k+u.globals[k].size:=by
 unfold xY
 rw[List.take_succ_eq_append_getElem hk,List.map_append,List.sum_append]
 simp
theorem Jq {u:UniL} {k:Nat} (hk:k<u.globals.length):xZ u (k+1)=xZ u k++[u.globals[k].name]:=by
 unfold xZ
 rw[List.take_succ_eq_append_getElem hk,List.map_append]
 rfl
theorem Jr {u:UniL} {k:Nat} (hk:k<u.funcs.length):xL u (k+1)=xL u k++[u.funcs[k].name]:=by
 unfold xL
 rw[List.take_succ_eq_append_getElem hk,List.map_append,List.append_assoc]
 rfl
theorem Z8 {names:List ByteArray} {f:FunL} (h:jQ names f=0):(0≤f.params∧f.params≤6)∧(f.params≤f.regs∧f.regs≤100)∧(1≤f.blocks.length∧f.blocks.length≤40)∧zi f≤300:=by
 unfold jQ at h
 split at h
 ·cases h
 split at h
 ·cases h
 split at h
 ·cases h
 split at h
 ·cases h
 omega

theorem strs_own {w:World} {base:Nat} {t:TypeId} {v:Value} {S:List ByteArray} (h:w.ownsRow base t 1 v S.length (S.map .string)):∃p c,v = .slice p S.length c∧kf w p S:=by
 rcases h.2 with⟨h1,h2⟩|⟨g,cap,cur,h1,_⟩
 ·refine⟨none,0,?_,.inl ?_⟩
  ·rw[h1,show S.length=0 by simpa using h2]
  simpa using h2
 refine⟨_,_,h1,.inr ⟨g,0,rfl,fun i hi=>?_⟩⟩
 have h2:=h.cells (g:=g) (by rw[h1];rfl) i (.string S[i]) (by simp[hi])
 have h3:(⟨g,0,none⟩:Addr).add i=⟨g,i,none⟩:=by unfold Addr.add;split<;>simp_all
 rw[h3]at h2
 rw[Nat.zero_add]
 exact h2

theorem Zy (p:Option Addr) (c n:Nat) (S:List ByteArray) (v:ByteArray) (w:World) (hl:S.length=n) (hn:n≤9223372036854775807) (h:kf w p S) :
  Calls Tryz.prog 26 #[.slice p n c,.string v] w fun e w'=>e = .returned (.bool (Ji S v))∧w=w':=by
 subst hl
 exact jP _ _ _ _ _ hn h
theorem xq (w:World) (x:Value) (t:TypeId) (k:Nat) (hk:w.heap.size=k):∀j u,[x][j]?=some u→(w.alloc (.cells #[x] t)).cell? ((⟨k,0,none⟩:Addr).add j)=some u:=by
 subst hk
 exact cell_one_new w x t
theorem jA {W:World} {base:Nat} {e:TypeId} {size:Nat} {v:Value} {k:Nat} {xs:List Value} (h:W.ownsRow base e size v (k+1) xs):∃g cap,v = .slice (some ⟨g,0,none⟩) (k+1) cap:=by
 rcases h.2 with⟨_,h0⟩|⟨g,cap,_,rfl,_⟩
 ·omega
 exact⟨g,cap,rfl⟩
theorem gloE_12 {names:List ByteArray} {words:Int} {g:GloL} (h:(!jO g.name)=true):Jp names words g=12:=by
 unfold Jp
 rw[if_pos (by simpa using h)]
theorem gloE_7 {names:List ByteArray} {words:Int} {g:GloL} (h:(!jO g.name)=false) (h2:Ji names g.name=true):Jp names words g=7:=by
 unfold Jp
 rw[if_neg (by simpa using h),if_pos h2]
theorem gloE_3 {names:List ByteArray} {words:Int} {g:GloL} (h:(!jO g.name)=false) (h2:Ji names g.name=false) (h3:(!zR g.size 1 200)=true):Jp names words g=3:=by
 unfold Jp
 simp only[zR,Bool.not_eq_true',decide_eq_false_iff_not]at h3
 rw[if_neg (by simpa using h),if_neg (by simp[h2]),if_pos h3]
theorem Zz {n lo hi:Int} (h:(!zR n lo hi)=false):lo≤n∧n≤hi:=by
 simpa[zR]using h
theorem gloE_9 {names:List ByteArray} {words:Int} {g:GloL} (h:(!jO g.name)=false) (h2:Ji names g.name=false) (h3:(!zR g.size 1 200)=false) (h4:g.size<g.init.length):Jp names words g=9:=by
 have h3:=Zz h3
 unfold Jp
 rw[if_neg (by simpa using h),if_neg (by simp[h2]),if_neg (by omega),if_pos h4]
theorem gloE_10 {names:List ByteArray} {words:Int} {g:GloL} (h:(!jO g.name)=false) (h2:Ji names g.name=false) (h3:(!zR g.size 1 200)=false) (h4:¬g.size<g.init.length) (h6:0≤words∧words≤200) (h5:200<wrap64 (words+g.size)):Jp names words g=10:=by
 have h3:=Zz h3
 rw[IntWalk.wrap64_in _ ⟨by omega,by omega⟩]at h5
 unfold Jp
 rw[if_neg (by simpa using h),if_neg (by simp[h2]),if_neg (by omega),if_neg h4,if_pos h5]
theorem gloE_0 {names:List ByteArray} {words:Int} {g:GloL} (h:(!jO g.name)=false) (h2:Ji names g.name=false) (h3:(!zR g.size 1 200)=false) (h4:¬g.size<g.init.length) (h6:0≤words∧words≤200) (h5:wrap64 (words+g.size)≤200):Jp names words g=0∧wrap64 (words+g.size)=words+g.size∧0≤words+g.size∧words+g.size≤200:=by
 have h3:=Zz h3
 rw[IntWalk.wrap64_in _ ⟨by omega,by omega⟩]at h5 ⊢
 unfold Jp
 rw[if_neg (by simpa using h),if_neg (by simp[h2]),if_neg (by omega),if_neg h4,if_neg (by omega)]
 exact⟨rfl,rfl,by omega,h5⟩
theorem res_two {w:World} {R:Nat} {T:TypeId} (h:w.heap[R]?=some (.cells #[.int .i64 0,.int .i64 0] T (0,0))) (o1 o2:Obj) (e a:Int) (j:Nat) :
  ((((w.setCell ⟨R,0,none⟩ (.int .i64 e)).setCell ⟨R,1,none⟩ (.int .i64 a)).alloc o1).alloc o2).cell? ⟨R,j,none⟩=(#[.int .i64 e,.int .i64 a]:Array Value)[j]?:=
 (blk (qj (qj (qg (qg h 0 _) 1 _)))).1 j
theorem Js {w:World} {R:Nat} {T:TypeId} (h:w.heap[R]?=some (.cells #[.int .i64 0,.int .i64 0] T (0,0))) (o1:Obj) (e a:Int) (j:Nat) :
  (((w.setCell ⟨R,0,none⟩ (.int .i64 e)).setCell ⟨R,1,none⟩ (.int .i64 a)).alloc o1).cell? ⟨R,j,none⟩=(#[.int .i64 e,.int .i64 a]:Array Value)[j]?:=
 (blk (qj (qg (qg h 0 _) 1 _))).1 j
theorem Jt (w:World) (A:Array Value) (t:TypeId) (j:Nat) {v:Value} (h:A[j]?=some v):(w.alloc (.cells A t)).cell? ⟨w.heap.size,j,none⟩=some v:=
 ((blk (qr w _)).1 j).trans h
theorem head_any2 (f:FunL) (names:List ByteArray) (g1 fp bp np:Option Addr) (g2 g3 fl fc bc nc n:Nat) (w:World) (hn:names.length=n)
  (hs:f.name.size≤maxLen) (hr1:I64 f.params) (hr2:I64 f.regs) (hbl:f.blocks.length*96≤140737488351232) (hb:SliceAt w 6 (BlkR w) bp f.blocks) (hnl:n≤9223372036854775807) (hN:kf w np names) :
  Calls Tryz.prog 28 #[.agg #[.slice g1 g2 g3,.slice fp fl fc,.string f.name,.int .i64 f.params,.int .i64 f.regs,.slice bp f.blocks.length bc,.slice none 0 0],.slice np n nc] w fun e w'=>e = .returned (.int .i64 (jQ names f))∧Below w.heap.size w w':=by
 subst hn
 exact head_any f names _ _ _ _ _ _ _ _ _ _ w hs hr1 hr2 hbl hb hnl hN
theorem Qr {w:World} {p:Option Addr} {xs:List BlkL} (h:SliceAt w 6 (BlkR w) p xs) (o1 o2:Obj):SliceAt ((w.alloc o1).alloc o2) 6 (BlkR ((w.alloc o1).alloc o2)) p xs:=
 have hb:Below w.heap.size w ((w.alloc o1).alloc o2):=((Below.refl _ _).alloc (Nat.le_refl _) _).alloc (by simp) _
 h.mono hb (by omega) fun _ _ h=>h.below hb
theorem Ju {w:World} {p:Option Addr} {xs:List FunL} (h:SliceAt w 4 (FunR w) p xs) (o1 o2:Obj):SliceAt ((w.alloc o1).alloc o2) 4 (FunR ((w.alloc o1).alloc o2)) p xs:=
 have hb:Below w.heap.size w ((w.alloc o1).alloc o2):=((Below.refl _ _).alloc (Nat.le_refl _) _).alloc (by simp) _
 h.mono hb (by omega) fun _ _ h=>h.below hb
theorem ZA {w w':World} {base:Nat} {e:TypeId} {size:Nat} {v:Value} {n:Nat} {xs:List Value} (h:w.ownsRow base e size v n xs) (hb:Below w.heap.size w w'):w'.ownsRow base e size v n xs:=by
 refine h.kept (row:=none) ⟨hb.os,hb.tape,hb.output,hb.size,fun k hk _=>hb.block k hk⟩ ?_
 cases v.ownBlock with
 | none=>exact .inl rfl
 | some k=>exact .inr (by simp)
theorem res_zero {w:World} {R:Nat} {T:TypeId} (h:w.heap[R]?=some (.cells #[.int .i64 0,.int .i64 0] T (0,0))) (j:Nat) :
  ((w.setCell ⟨R,0,none⟩ (.int .i64 0)).setCell ⟨R,1,none⟩ (.int .i64 0)).cell? ⟨R,j,none⟩=(#[.int .i64 0,.int .i64 0]:Array Value)[j]?:=
 (blk (qg (qg h 0 _) 1 _)).1 j
theorem Xs {w:World} {base k:Nat} {t:TypeId} {v:Value} {S:List ByteArray} (hl:S.length=k) (h:w.ownsRow base t 1 v k (S.map .string)):∃p c,v = .slice p k c∧kf w p S:=by
 subst hl
 exact strs_own h

theorem js (u:UniL) (gp fp:Option Addr) (gc fc:Nat) (w:World) (hgl:u.globals.length*48≤140737488351232) (hG:SliceAt w 3 (GloR w) gp u.globals) (hfl:u.funcs.length*56≤140737488351232) (hF:SliceAt w 4 (FunR w) fp u.funcs) (hw0:Ways w) :
  Calls Tryz.prog 10 #[.agg #[.slice gp u.globals.length gc,.slice fp u.funcs.length fc]] w fun e w'=>e = .returned (.agg #[.int .i64 (chk u).1,.int .i64 (chk u).2])∧Below w.heap.size w w':=by
 obtain⟨i1,k1,k2,k3,k4⟩:=info_parts infoStr
 have HG:=q7 hG
 have HF:=q7 hF
 have HW:=q7 hw0
 clear hG hF hw0
 by_cases hbig:10<u.globals.length∨10<u.funcs.length
 ·have HV:=q7 (chk_big hbig)
  by_cases h1:10<u.globals.length
  ·clear hbig
   go_enter Tryz.func10,Tryz.ntmps10
   go_wp2_with (go_at_call 24;refine(xD _ _ _).mono ?_;rintro e w3 ⟨rfl,rfl⟩)
   refine bodyPost_ret (v:=.agg #[.int .i64 2,.int .i64 0]) ?_ rfl ⟨by rw[HV.out],?_⟩
   ·simp[results,Tryz.results10,go_sem]
   exact bZ
  have h2:10<u.funcs.length:=by omega
  clear hbig
  go_enter Tryz.func10,Tryz.ntmps10
  go_wp2_with (go_at_call 24;refine(xD _ _ _).mono ?_;rintro e w3 ⟨rfl,rfl⟩)
  refine bodyPost_ret (v:=.agg #[.int .i64 2,.int .i64 0]) ?_ rfl ⟨by rw[HV.out],?_⟩
  ·simp[results,Tryz.results10,go_sem]
  exact bZ
 have h1:u.globals.length≤10:=by omega
 have h2:u.funcs.length≤10:=by omega
 have hd1:decide (10<(u.globals.length:Int))=false:=by simp;omega
 have hd2:decide (10<(u.funcs.length:Int))=false:=by simp;omega
 clear hbig
 go_enter Tryz.func10,Tryz.ntmps10
 go_wp2_with fail
 go_loopw [3,4,31] (fun nm wd i wr=>∃k:Nat,k≤u.globals.length∧i = .int .i64 k∧wd = .int .i64 (xY u k)∧(0≤xY u k∧xY u k≤200)∧wr.ownsRow (w.heap.size+1+1) 9 1 nm k ((xZ u k).map .string)∧(∀j,j<k→Xo u j=0)∧Below (w.heap.size+1+1) ((w.alloc (.cells #[.slice gp u.globals.length gc,.slice fp u.funcs.length fc] 25)).alloc (.cells #[.int .i64 0,.int .i64 0] 27)) wr) (fun _ _ i _=>u.globals.length - (intOf i).toNat)
 case atStart=>exact⟨0,by omega,rfl,rfl,by simp[xY],World.ownsRow_nil _ _ _ _,fun j h=>by omega,Below.refl _ _⟩
 case round=>
  obtain⟨k,hk,rfl,rfl,⟨hw1,hw2⟩,hown,hV,hb⟩:=hrel
  have HO:=q7 hown
  have HV:=q7 hV
  have HBw:=q7 hb
  have hz:w.heap.size+1<wr.heap.size:=by have:=hb.size;simp at this;omega
  have hz2:w.heap.size<wr.heap.size:=by omega
  have HBx:Hid (Below w.heap.size w wr):=(((Below.refl _ _).alloc (Nat.le_refl _) _).alloc (by simp) _).trans (hb.mono (by omega))
  obtain⟨hcc,hcf⟩:=blk (qd hb (by omega) (qj (qr w _)))
  have hx:=res_two (qd hb (k:=w.heap.size+1) (by omega) (qh (w:=w.alloc (.cells #[.slice gp u.globals.length gc,.slice fp u.funcs.length fc] 25)) (by simp)))
  obtain⟨haY,haZ⟩:=blk (qd hb (k:=w.heap.size+1) (by omega) (qh (w:=w.alloc (.cells #[.slice gp u.globals.length gc,.slice fp u.funcs.length fc] 25)) (by simp)))
  obtain⟨np,nc,rfl,hS⟩:∃p c,u3 = .slice p k c∧kf wr p (xZ u k):=by
   exact Xs (by simp[xZ];omega) hown
  have HS:=q7 hS
  clear hown hV hb hS
  by_cases hlt:k<u.globals.length
  ·obtain⟨b2,o2,q,c,hp,e0,e1,e2,hns,hgs,hil,_⟩:=gloGet HG.out HBx.out hlt
   have hsH:=hgs.1
   have hsK:=hgs.2
   clear hgs
   subst hp
   have HE:Hid (Xo u k=Jp (xZ u k) (xY u k) u.globals[k]):=gloI_eq hlt
   have hnl:(xZ u k).length=k:=by simp[xZ];omega
   go_wp2_with (first|(go_at_call 25;refine(Q9 _ _ (by unfold maxLen;omega)).mono ?_;rintro e w1 ⟨rfl,rfl⟩)|(go_at_call 26;refine(Zy _ _ _ _ _ _ hnl (by omega) (vx HS.out ((Below.refl _ _).alloc (Nat.le_refl _) _))).mono ?_;rintro e w1 ⟨rfl,rfl⟩)|(go_at_call 27;refine(qF _ _ _ _).mono ?_;rintro e w1 ⟨rfl,rfl⟩)|(go_at_call 24;refine(xD _ _ _).mono ?_;rintro e w3 ⟨rfl,rfl⟩)|(at_builtin;refine wpList_append_own_at _ rfl _ _ 66 rfl (w.heap.size+1+1) 9 i1 (.string ⟨#[]⟩) 1 16 Xr k1 k2 k3 k4 rfl (by decide) _ _ _ rfl ((HO.out.alloc _).alloc _) ⟨wr.heap.size+1,0,none⟩ 1 1 [.string u.globals[k].name] rfl rfl (xq _ _ _ _ (by simp)) (by simp[Value.oneCell']) (by unfold maxLen;omega) (by omega) ?c1 ?_))
   case c1=>simp;omega
   rotate_right
   ·intro v' w1 hown' hgrow _ _
    obtain⟨g',cap',rfl⟩:=jA hown'
    have HO2:Hid (w1.ownsRow (w.heap.size+1+1) 9 1 (.slice (some ⟨g',0,none⟩) (k+1) cap') (k+1) ((xZ u (k+1)).map .string)):=by
     show World.ownsRow _ _ _ _ _ _ _
     rw[Jq hlt,List.map_append]
     exact hown'
    have HB2:Hid (Below (w.heap.size+1+1) ((w.alloc (.cells #[.slice (some ⟨b2,o2,none⟩) u.globals.length gc,.slice fp u.funcs.length fc] 25)).alloc (.cells #[.int .i64 0,.int .i64 0] 27)) w1):=by
     refine((HBw.out.alloc (by omega) _).alloc (by simp;omega) _).grown hgrow (by simp;omega) (fun kk e=>?_)
     exact(HO.out.lt kk e).1
    have hb3:w1.cell? ⟨wr.heap.size,1,none⟩=some (.int .i64 u.globals[k].size):=by
     refine hgrow.cell (a:=⟨wr.heap.size,1,none⟩) ?_ (fun e=>?_)
     ·rw[World.cell?_of_block (Below.heap_alloc _ _ _ (by simp))]
      exact Jt _ _ _ _ rfl
     have:=(HO.out.lt _ e.symm).2
     exact Nat.lt_irrefl _ this
    obtain⟨hg0,hg1,hg2,hg3⟩:=gloE_0 (by assumption) (by assumption) (by assumption) (by omega) ⟨hw1,hw2⟩ (by assumption)
    have HG0:=q7 hg0
    have HG1:=q7 hg1
    clear hown' hgrow hg0 hg1
    go_wp2
    refine⟨⟨k+1,by omega,by go_num,?_,?_,HO2.out,fun j hj=>?_,HB2.out⟩,by simp[intOf];omega⟩
    ·rw[Q2 hlt,←HG1.out]
    ·rw[Q2 hlt]
     exact⟨hg2,hg3⟩
    by_cases hj2:j<k
    ·exact HV.out j hj2
    obtain rfl:j=k:=by omega
    exact HE.out.trans HG0.out
   all_goals
    have HB1:=HBx
    have HX:=q7 hx
    clear hx
    first
     | (have HC:=q7 (Qq h1 h2 hlt HV.out (HE.out.trans (gloE_12 (by assumption))) (by decide)))
     | (have HC:=q7 (Qq h1 h2 hlt HV.out (HE.out.trans (gloE_7 (by assumption) (by assumption))) (by decide)))
     | (have HC:=q7 (Qq h1 h2 hlt HV.out (HE.out.trans (gloE_3 (by assumption) (by assumption) (by assumption))) (by decide)))
     | (have HC:=q7 (Qq h1 h2 hlt HV.out (HE.out.trans (gloE_9 (by assumption) (by assumption) (by assumption) (by assumption))) (by decide)))
     | (have HC:=q7 (Qq h1 h2 hlt HV.out (HE.out.trans (gloE_10 (by assumption) (by assumption) (by assumption) (by omega) ⟨hw1,hw2⟩ (by assumption))) (by decide)))
    refine bodyPost_ret (v:=.agg #[.int .i64 (chk u).1,.int .i64 (chk u).2]) ?_ rfl ⟨rfl,?_⟩
    ·have hx:=HX.out
     rw[HC.out]
     simp[results,Tryz.results10,go_sem,hx]
    exact bZ
  have HGZ:Hid (∀j,j<u.globals.length→Xo u j=0):=fun j hj=>HV.out j (by omega)
  have hkk:k=u.globals.length:=by omega
  have HN0:Hid (wr.ownsRow (w.heap.size+1+1) 9 1 (.slice np k nc) (u.globals.length+0) ((xL u 0).map .string)):=by
   have:=HO.out
   rw[hkk]at this ⊢
   have hn:xL u 0=xZ u u.globals.length:=by simp[xL,xZ]
   rw[hn]
   exact this
  clear HV HO HS hkk hx
  go_wp2_with fail
  go_loopw [3,82] (fun nm i wr=>∃k:Nat,k≤u.funcs.length∧i = .int .i64 k∧wr.ownsRow (w.heap.size+1+1) 9 1 nm (u.globals.length+k) ((xL u k).map .string)∧(∀j,j<k→kg u j=0)∧Below (w.heap.size+1+1) ((w.alloc (.cells #[.slice gp u.globals.length gc,.slice fp u.funcs.length fc] 25)).alloc (.cells #[.int .i64 0,.int .i64 0] 27)) wr) (fun _ i _=>u.funcs.length - (intOf i).toNat)
  case atStart=>exact⟨0,by omega,rfl,HN0.out,fun j h=>by omega,HBw.out⟩
  case round=>
   clear HN0 HBw hcc hcf haY haZ HBx hz hz2
   obtain⟨k,hk,rfl,hown,hV,hb⟩:=hrel
   have HO:=q7 hown
   have HV:=q7 hV
   have HBw:=q7 hb
   have hz:w.heap.size+1<wr.heap.size:=by have:=hb.size;simp at this;omega
   have hz2:w.heap.size<wr.heap.size:=by omega
   have HBx:Hid (Below w.heap.size w wr):=(((Below.refl _ _).alloc (Nat.le_refl _) _).alloc (by simp) _).trans (hb.mono (by omega))
   obtain⟨hcc,hcf⟩:=blk (qd hb (by omega) (qj (qr w _)))
   have hRr:=qd hb (k:=w.heap.size+1) (by omega) (qh (w:=w.alloc (.cells #[.slice gp u.globals.length gc,.slice fp u.funcs.length fc] 25)) (o:=.cells #[.int .i64 0,.int .i64 0] 27) (by simp))
   obtain⟨haY,haZ⟩:=blk hRr
   have HRr:=q7 hRr
   have hnl:(xL u k).length=u.globals.length+k:=by simp[xL];omega
   obtain⟨np,nc,hnm,hS⟩:=Xs hnl hown
   subst hnm
   have HS:=q7 hS
   clear hown hV hb hS hRr
   by_cases hlt:k<u.funcs.length
   ·obtain⟨b2,o2,q,c,hp,e0,e1,e2,e3,hns,hr1,hr2,hbl,hbs⟩:=kd HF.out HBx.out hlt
    subst hp
    have HBS:=q7 hbs
    have HR1:=q7 hr1
    have HR2:=q7 hr2
    have HE:Hid (kg u k=jQ (xL u k) u.funcs[k]):=kh hlt
    clear hbs hr1 hr2
    go_wp2_with fail
    refine(head_any2 _ _ _ _ _ _ _ _ _ _ _ _ _ _ hnl (by unfold maxLen;omega) HR1.out HR2.out hbl ?_ (by omega) ?_).mono ?_
    ·exact Qr HBS.out _ _
    ·exact vx HS.out (((Below.refl _ _).alloc (Nat.le_refl _) _).alloc (by simp) _)
    rintro e w3 ⟨rfl,hb3⟩
    generalize hE:jQ (xL u k) u.funcs[k]=ee
    have HE2:Hid (kg u k=ee):=HE.out.trans hE
    have HW3:Hid (Below wr.heap.size wr w3):=(((Below.refl _ _).alloc (Nat.le_refl _) _).alloc (by simp) _).trans (hb3.mono (by simp;omega))
    have hn3:w3.cell? ⟨wr.heap.size,0,none⟩=some (.string u.funcs[k].name):=by
     rw[(blk (qd hb3 (by simp;omega) (qj (qr wr _)))).1 0];rfl
    have hR3:=qd HW3.out hz HRr.out
    have hx:=Js hR3
    have HB1:Hid (Below w.heap.size w w3):=HBx.out.trans (HW3.out.mono (by omega))
    have hz3:wr.heap.size<w3.heap.size:=by have:=hb3.size;simp at this;omega
    have hz4:w.heap.size+1<w3.heap.size:=by omega
    clear haY haZ hcc hcf
    obtain⟨haY,haZ⟩:=blk hR3
    clear hE HE hb3 hR3
    by_cases hz0:ee=0
    ·have hzb:(ee != 0)=false:=by simp[hz0]
     have HZ:=q7 hz0
     have HO3:=q7 (ZA HO.out HW3.out)
     clear hz0 hx
     go_wp2_with (at_builtin;refine wpList_append_own_at _ rfl _ _ 66 rfl (w.heap.size+1+1) 9 i1 (.string ⟨#[]⟩) 1 16 Xr k1 k2 k3 k4 rfl (by decide) _ _ _ rfl (HO3.out.alloc _) ⟨w3.heap.size,0,none⟩ 1 1 [.string u.funcs[k].name] rfl rfl (xq _ _ _ _ (by simp)) (by simp[Value.oneCell']) (by unfold maxLen;omega) (by omega) ?_ ?_)
     ·simp;omega
     intro v' w1 hown' hgrow _ _
     obtain⟨g',cap',rfl⟩:=jA hown'
     have HO2:Hid (w1.ownsRow (w.heap.size+1+1) 9 1 (.slice (some ⟨g',0,none⟩) (u.globals.length+k+1) cap') (u.globals.length+(k+1)) ((xL u (k+1)).map .string)):=by
      show World.ownsRow _ _ _ _ _ _ _
      rw[Jr hlt,List.map_append]
      exact hown'
     have HB2:Hid (Below (w.heap.size+1+1) ((w.alloc (.cells #[.slice gp u.globals.length gc,.slice (some ⟨b2,o2,none⟩) u.funcs.length fc] 25)).alloc (.cells #[.int .i64 0,.int .i64 0] 27)) w1):=by
      refine((HBw.out.trans (HW3.out.mono (by omega))).alloc (by omega) _).grown hgrow (by simp;omega) (fun kk e=>?_)
      exact(HO.out.lt kk e).1
     clear hown' hgrow
     go_wp2_with fail
     refine⟨⟨k+1,by omega,by go_num,HO2.out,fun j hj=>?_,HB2.out⟩,by simp[intOf];omega⟩
     by_cases hj2:j<k
     ·exact HV.out j hj2
     obtain rfl:j=k:=by omega
     exact HE2.out.trans HZ.out
    have hzb:(ee != 0)=true:=by simp[hz0]
    have HZ:=q7 hz0
    have HX:=q7 hx
    have HC:=q7 (chk_head h1 h2 HGZ.out hlt HV.out HE2.out hz0)
    clear hz0 hx
    go_wp2_with (go_at_call 24;refine(xD _ _ _).mono ?_;rintro e w4 ⟨rfl,rfl⟩)
    refine bodyPost_ret (v:=.agg #[.int .i64 (chk u).1,.int .i64 (chk u).2]) ?_ rfl ⟨rfl,?_⟩
    ·have hx:=HX.out
     rw[HC.out]
     simp[results,Tryz.results10,go_sem,hx]
    exact bZ
   have HHZ:Hid (∀j,j<u.funcs.length→kg u j=0):=fun j hj=>HV.out j (by omega)
   clear HV HO HS
   go_wp2_with fail
   go_loopw [107] (fun i wr=>∃k:Nat,k≤u.funcs.length∧i = .int .i64 k∧(∀j,j<k→kM u j=0)∧Below (w.heap.size+1+1) ((w.alloc (.cells #[.slice gp u.globals.length gc,.slice fp u.funcs.length fc] 25)).alloc (.cells #[.int .i64 0,.int .i64 0] 27)) wr) (fun i _=>u.funcs.length - (intOf i).toNat)
   case atStart=>exact⟨0,by omega,rfl,fun j h=>by omega,HBw.out⟩
   case round=>
    clear HBw hcc hcf haY haZ HBx hz hz2 HRr
    obtain⟨k,hk,rfl,hV,hb⟩:=hrel
    have HV:=q7 hV
    have HBw:=q7 hb
    have hz:w.heap.size+1<wr.heap.size:=by have:=hb.size;simp at this;omega
    have hz2:w.heap.size<wr.heap.size:=by omega
    have HBx:Hid (Below w.heap.size w wr):=(((Below.refl _ _).alloc (Nat.le_refl _) _).alloc (by simp) _).trans (hb.mono (by omega))
    obtain⟨hcc,hcf⟩:=blk (qd hb (by omega) (qj (qr w _)))
    have hRr:=qd hb (k:=w.heap.size+1) (by omega) (qh (w:=w.alloc (.cells #[.slice gp u.globals.length gc,.slice fp u.funcs.length fc] 25)) (o:=.cells #[.int .i64 0,.int .i64 0] 27) (by simp))
    obtain⟨haY,haZ⟩:=blk hRr
    have HRr:=q7 hRr
    clear hV hb hRr
    by_cases hlt:k<u.funcs.length
    ·obtain⟨b2,o2,q,c,hp,e0,e1,e2,e3,hns,hr1,hr2,hbl,hbs⟩:=kd HF.out HBx.out hlt
     subst hp
     obtain⟨⟨hp0,hp1⟩,⟨hp2,hp3⟩,⟨hp4,hp5⟩,_⟩:=Z8 ((kh hlt).symm.trans (HHZ.out k hlt))
     obtain⟨qb,qo,rfl⟩:∃qb qo,q=some ⟨qb,qo,none⟩:=by
      rcases hbs with h0|⟨b,o,hp,_⟩
      ·rw[h0]at hp4;simp at hp4
      exact⟨b,o,hp⟩
     have HBS:=q7 hbs
     have HE:Hid (kM u k=jK u u.funcs[k]):=Zx hlt
     clear hbs hr1 hr2
     go_wp2_with fail
     refine(body_any u u.funcs[k] _ _ _ _ _ _ _ _ _ (by omega) (by omega) hp4 hp5 h2 ?_ ?_ ?_).mono ?_
     ·exact Ju (HF.out.mono HBx.out (by omega) fun _ _ h=>h.below HBx.out) _ _
     ·exact Qr HBS.out _ _
     ·exact HW.out.below ((HBx.out.alloc (by omega) _).alloc (by simp;omega) _)
     rintro e w3 ⟨rfl,hb3⟩
     generalize hE:jK u u.funcs[k]=ee
     have HE2:Hid (kM u k=ee):=HE.out.trans hE
     have HW3:Hid (Below wr.heap.size wr w3):=(((Below.refl _ _).alloc (Nat.le_refl _) _).alloc (by simp) _).trans (hb3.mono (by simp;omega))
     have hR3:=qd HW3.out hz HRr.out
     have hx:=Js hR3
     have HB1:Hid (Below w.heap.size w w3):=HBx.out.trans (HW3.out.mono (by omega))
     have hz4:w.heap.size+1<w3.heap.size:=by have:=hb3.size;simp at this;omega
     clear haY haZ hcc hcf
     obtain⟨haY,haZ⟩:=blk hR3
     clear hE HE hb3 hR3
     by_cases hz0:ee=0
     ·have hzb:(ee != 0)=false:=by simp[hz0]
      have HZ:=q7 hz0
      clear hz0 hx
      go_wp2_with fail
      refine⟨⟨k+1,by omega,by go_num,fun j hj=>?_,HBw.out.trans (HW3.out.mono (by omega))⟩,by simp[intOf];omega⟩
      by_cases hj2:j<k
      ·exact HV.out j hj2
      obtain rfl:j=k:=by omega
      exact HE2.out.trans HZ.out
     have hzb:(ee != 0)=true:=by simp[hz0]
     have HZ:=q7 hz0
     have HX:=q7 hx
     have HC:=q7 (chk_body h1 h2 HGZ.out HHZ.out hlt HV.out HE2.out hz0)
     clear hz0 hx
     go_wp2_with (go_at_call 24;refine(xD _ _ _).mono ?_;rintro e w4 ⟨rfl,rfl⟩)
     refine bodyPost_ret (v:=.agg #[.int .i64 (chk u).1,.int .i64 (chk u).2]) ?_ rfl ⟨rfl,?_⟩
     ·have hx:=HX.out
      rw[HC.out]
      simp[results,Tryz.results10,go_sem,hx]
     exact bZ
    have HC:=q7 (chk_main h1 h2 HGZ.out HHZ.out (fun j hj=>HV.out j (by omega)))
    clear HV
    go_wp2_with fail
    refine(Zw u.funcs _ _ _ (by omega) (HF.out.mono HBx.out (by omega) fun _ _ h=>h.below HBx.out)).mono ?_
    rintro e w3 ⟨rfl,hb3⟩
    have hR3:=qd hb3 hz HRr.out
    have hx:=Js hR3
    have hx0:=res_zero hR3
    have hsM:=(blk (qd hb3 hz2 (qd HBw.out (by omega) (qj (qr w _))))).1
    have HB1:Hid (Below w.heap.size w w3):=HBx.out.trans (hb3.mono (by omega))
    have hz4:w.heap.size+1<w3.heap.size:=by have:=hb3.size;omega
    have hz5:w.heap.size<w3.heap.size:=by omega
    clear haY haZ hcc hcf
    obtain⟨haY,haZ⟩:=blk hR3
    clear hb3 hR3
    cases hm:vP u.funcs with
    | none=>
     have HC2:Hid (chk u=(6,0)):=by
      show _=_
      rw[HC.out,hm]
     have ho:optI none = -1:=rfl
     rw[ho]
     have HX:=q7 hx
     clear hm HC hx hx0 ho
     go_wp2_with (go_at_call 24;refine(xD _ _ _).mono ?_;rintro e w4 ⟨rfl,rfl⟩)
     refine bodyPost_ret (v:=.agg #[.int .i64 (chk u).1,.int .i64 (chk u).2]) ?_ rfl ⟨rfl,?_⟩
     ·have hx:=HX.out
      rw[HC2.out]
      simp[results,Tryz.results10,go_sem,hx]
     exact bZ
    | some m=>
     have hml:m<u.funcs.length:=List.mem_range.1 (List.mem_of_find?_eq_some hm)
     obtain⟨b2,o2,q,c,hp,e0,e1,e2,e3,hns,hr1,hr2,hbl,hbs⟩:=kd HF.out HB1.out hml
     subst hp
     have haJ:Z7 u m=u.funcs[m].params:=by simp[Z7,List.getD,hml]
     have HC2:Hid (chk u=if 0<u.funcs[m].params then(5,(m:Int)) else(0,0)):=by
      show _=_
      rw[HC.out,hm]
      simp only
      rw[haJ]
     have ho:optI (some m)=(m:Int):=rfl
     rw[ho]
     have HX:=q7 hx
     have HX0:=q7 hx0
     clear hm HC hx hx0 ho haJ hbs hr1 hr2
     by_cases hpm:0<u.funcs[m].params
     ·have HC3:=HC2.out
      rw[if_pos hpm]at HC3
      have HC4:=q7 HC3
      clear HC2 HC3
      go_wp2_with (go_at_call 24;refine(xD _ _ _).mono ?_;rintro e w4 ⟨rfl,rfl⟩)
      refine bodyPost_ret (v:=.agg #[.int .i64 (chk u).1,.int .i64 (chk u).2]) ?_ rfl ⟨rfl,?_⟩
      ·have hx:=HX.out
       rw[HC4.out]
       simp[results,Tryz.results10,go_sem,hx]
      exact bZ
     have HC3:=HC2.out
     rw[if_neg hpm]at HC3
     have HC4:=q7 HC3
     clear HC2 HC3
     go_wp2_with fail
     refine bodyPost_ret (v:=.agg #[.int .i64 (chk u).1,.int .i64 (chk u).2]) ?_ rfl ⟨rfl,?_⟩
     ·have hx:=HX0.out
      rw[HC4.out]
      simp[results,Tryz.results10,go_sem,hx]
     exact bZ

structure ChkOk (u:UniL):Prop where
 ng:u.globals.length≤10
 nf:u.funcs.length≤10
 glo:∀j,j<u.globals.length→Xo u j=0
 head:∀j,j<u.funcs.length→kg u j=0
 body:∀j,j<u.funcs.length→kM u j=0
 main:∃m,vP u.funcs=some m∧Z7 u m≤0

theorem jR {n:Nat} {g:Nat→Int} {r:Int×Int} (h:xA n g=some r):r.1≠0:=by
 unfold xA at h
 rw[Option.map_eq_some_iff]at h
 obtain⟨i,hi,rfl⟩:=h
 have:=List.find?_some hi
 simpa using this

theorem Xt (u:UniL):(chk u=(0,0)∧ChkOk u)∨(chk u).1≠0:=by
 unfold chk chkO
 split
 ·exact .inr (by simp)
 rename_i hs
 cases hg:xA u.globals.length (Xo u) with
 | some r=>exact .inr (by simpa using jR hg)
 | none=>
  simp only
  cases hh:xA u.funcs.length (kg u) with
  | some r=>exact .inr (by simpa using jR hh)
  | none=>
   simp only
   cases hb:xA u.funcs.length (kM u) with
   | some r=>exact .inr (by simpa using jR hb)
   | none=>
    simp only
    rw[Qp]
    cases hm:vP u.funcs with
    | none=>exact .inr (by simp)
    | some m=>
     simp only
     split
     ·exact .inr (by simp)
     rename_i hp
     exact .inl ⟨rfl,by omega,by omega,k5 hg,k5 hh,k5 hb,m,hm,by omega⟩
theorem ki {u:UniL} (h:(chk u).1=0):chk u=(0,0)∧ChkOk u:=(Xt u).resolve_right (by simp[h])

theorem ChkOk.fn {u:UniL} (h:ChkOk u) {k:Nat} (hk:k<u.funcs.length):(0≤u.funcs[k].params∧u.funcs[k].params≤6)∧(u.funcs[k].params≤u.funcs[k].regs∧u.funcs[k].regs≤100)∧(1≤u.funcs[k].blocks.length∧u.funcs[k].blocks.length≤40)∧zi u.funcs[k]≤300:=
 Z8 ((kh hk).symm.trans (h.head k hk))

theorem same_no {α:Type} [DecidableEq α] {xs ys:List α} {k:Nat} (h1:k<xs.length) (h2:k<ys.length) (h:xs[k]≠ys[k]):decide (xs=ys)=false:=by
 rw[decide_eq_false_iff_not]
 rintro rfl
 exact h rfl

theorem ints_any (xs ys:List Int) (p q:Option Addr) (c d:Nat) (w:World) (hx:xs.length≤140737488355328) (hy:ys.length≤140737488355328) (hX:SliceAt w 1 xC p xs) (hY:SliceAt w 1 xC q ys) :
  Calls Tryz.prog 67 #[.slice p xs.length c,.slice q ys.length d] w fun e w'=>e = .returned (.bool (decide (xs=ys)))∧Below w.heap.size w w':=by
 have HX:=q7 hX
 have HY:=q7 hY
 clear hX hY
 by_cases hl:xs.length=ys.length
 rotate_left
 ·have hlb:((xs.length:Int) != ys.length)=true:=by simp;omega
  have HE:Hid (decide (xs=ys)=false):=by
   show _=_
   rw[decide_eq_false_iff_not]
   rintro rfl
   exact hl rfl
  clear hl
  go_enter Tryz.func67,Tryz.ntmps67
  go_wp2
  go_ret
  exact⟨by rw[HE.out];rfl,Below.refl _ _⟩
 have hlb:((xs.length:Int) != ys.length)=false:=by simp[hl]
 have hl1:xs.length≤ys.length:=by omega
 have hl2:ys.length≤xs.length:=by omega
 have HL:=q7 hl
 clear hl
 go_enter Tryz.func67,Tryz.ntmps67
 go_wp2
 go_loopw [5] (fun i wr=>∃k:Nat,k≤xs.length∧i = .int .i64 k∧(∀j (h1:j<xs.length) (h2:j<ys.length),j<k→xs[j]=ys[j])∧Below w.heap.size w wr) (fun i _=>xs.length - (intOf i).toNat)
 case atStart=>exact⟨0,by omega,rfl,fun j _ _ h=>by omega,Below.refl _ _⟩
 case round=>
  obtain⟨k,hk,rfl,hV,hb⟩:=hrel
  have HV:=q7 hV
  have HB:=q7 hb
  clear hV hb
  by_cases hlt:k<xs.length
  rotate_left
  ·go_wp2
   go_ret
   refine⟨?_,HB.out⟩
   rw[decide_eq_true (List.ext_getElem HL.out fun j h1 h2=>HV.out j h1 h2 (by omega))]
   rfl
  have hlt2:k<ys.length:=by omega
  obtain⟨b1,o1,hp,e0,_⟩:=Qn HX.out HB.out hlt
  obtain⟨b2,o2,hq,f0,_⟩:=Qn HY.out HB.out hlt2
  subst hp hq
  have g1:(0:Int)≤(k:Int):=by omega
  have g2:(k:Int)<xs.length:=by omega
  have g3:(k:Int)<ys.length:=by omega
  by_cases he:xs[k]=ys[k]
  ·have hne:(xs[k] != ys[k])=false:=by simp[he]
   have HE:=q7 he
   clear he
   go_wp2
   go_quiet (fail)
   go_wp2
   refine⟨⟨k+1,by omega,by go_num,fun j h1 h2 hj=>?_,below_drewN HB.out _⟩,by simp[intOf];omega⟩
   by_cases hj2:j<k
   ·exact HV.out j h1 h2 hj2
   obtain rfl:j=k:=by omega
   exact HE.out
  have hne:(xs[k] != ys[k])=true:=by simp[he]
  have HE:=q7 (same_no hlt hlt2 he)
  clear he
  go_wp2
  go_quiet (fail)
  go_wp2
  go_ret
  exact⟨by rw[HE.out];rfl,below_drewN HB.out _⟩

theorem V2 (g i:Nat):(⟨g,0,none⟩:Addr).add i=⟨g,i,none⟩:=by unfold Addr.add;split<;>simp_all

theorem jS {w:World} {B B':Nat} {e:TypeId} {size:Nat} {v:Value} {n:Nat} {xs:List Value} (h:w.ownsRow B' e size v n xs) (hb:B≤B'):w.ownsRow B e size v n xs:=by
 refine⟨h.1,?_⟩
 rcases h.2 with h2|⟨g,cap,cur,h1,h2,h3⟩
 ·exact .inl h2
 exact .inr ⟨g,cap,cur,h1,by omega,h3⟩
theorem j8 {w:World} {B:Nat} {e:TypeId} {v:Value} {n:Nat} {xs:List Value} (h:w.ownsRow B e 1 v n xs):∃p c,v = .slice p n c:=by
 rcases h.2 with⟨h1,h2⟩|⟨g,cap,cur,h1,_⟩
 ·exact⟨none,0,by rw[h1,h2]⟩
 exact⟨_,_,h1⟩
theorem jB {w:World} {B:Nat} {e:TypeId} {p:Option Addr} {n c:Nat} {xs:List Value} (h:w.ownsRow B e 1 (.slice p n c) n xs) {i:Nat} (hi:i<n):∃g,p=some ⟨g,0,none⟩∧B≤g∧g<w.heap.size∧w.cell? ⟨g,i,none⟩=xs[i]?:=by
 have hl:xs.length=n:=by simpa using h.1
 rcases h.2 with⟨h1,h2⟩|⟨g,cap,cur,h1,hb,hh,hr⟩
 ·omega
 cases h1
 refine⟨g,rfl,hb,(Array.getElem?_eq_some_iff.1 hh).1,?_⟩
 have:=h.cells (g:=g) rfl i xs[i] (List.getElem?_eq_getElem _)
 rw[V2]at this
 rw[this,List.getElem?_eq_getElem]
theorem own_ints {w:World} {B:Nat} {e:TypeId} {v:Value} {n:Nat} {xs:List Int} (hl:xs.length=n) (h:w.ownsRow B e 1 v n (xs.map (.int .i64))) (hI:∀x∈xs,I64 x):∃p c,v = .slice p xs.length c∧SliceAt w 1 xC p xs:=by
 obtain⟨p,c,rfl⟩:=j8 h
 refine⟨p,c,by rw[hl],?_⟩
 rcases Nat.eq_zero_or_pos n with h0|h0
 ·exact .inl (List.length_eq_zero_iff.1 (hl.trans h0))
 obtain⟨g,rfl,_⟩:=jB h h0
 refine .inr ⟨g,0,rfl,fun i hi=>⟨[.int .i64 xs[i]],rfl,fun j hj=>?_,rfl,hI _ (List.getElem_mem hi)⟩⟩
 obtain rfl:j=0:=by omega
 obtain⟨g',hg,_,_,hc⟩:=jB h (i:=i) (by omega)
 cases hg
 simp only[Nat.zero_add,Nat.mul_one,Nat.add_zero]
 rw[hc]
 simp[hi]

theorem vT {w w':World} {base:Nat} {e:TypeId} {size:Nat} {v:Value} {n:Nat} {xs:List Value} (h:w.ownsRow base e size v n xs) (hb:Below w.heap.size w w'):w'.ownsRow base e size v n xs:=by
 refine h.kept (row:=none) ⟨hb.os,hb.tape,hb.output,hb.size,fun k hk _=>hb.block k hk⟩ ?_
 cases v.ownBlock with
 | none=>exact .inl rfl
 | some k=>exact .inr (by simp)
end Go.Proofs.YtecdphhdmjmmnaaGreatDoor
