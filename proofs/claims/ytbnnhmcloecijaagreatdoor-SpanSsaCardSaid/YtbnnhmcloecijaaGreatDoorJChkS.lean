/-
  Plain: what a unit is whose check tells no fault.
-/
import Derived.IntWalk
import Derived.Test.YtbnnhmcloecijaaGreatDoorJChkO
set_option maxRecDepth 100000
set_option maxHeartbeats 16000000
namespace Go.Proofs.YtbnnhmcloecijaaGreatDoor
open Go.RowKit

def Zf (f:FunL) (k:Nat):Nat:=((f.blocks.take k).map fun b=>b.phis.length+b.list.length).sum
theorem K8 (f:FunL) (k:Nat) (hk:k<f.blocks.length):Zf f (k+1)=Zf f k+(f.blocks[k].phis.length+f.blocks[k].list.length):=by
 unfold Zf
 rw [yA hk,yW,List.sum_append]
 simp
theorem YV (f:FunL):Zf f f.blocks.length=j6 f:=by
 unfold Zf j6
 rw [yP]


theorem kP {w w':World} {p:Option Addr} {S:List ByteArray} (h:Qu w p S) (hb:Below w.heap.size w w'):Qu w' p S:=by
 rcases h with h|⟨b,o,hp,h⟩
 ·exact .inl h
 exact .inr ⟨b,o,hp,fun i hi=>(hb.cell (p:=⟨b,o+i,none⟩) (qd (h i hi))).trans (h i hi)⟩

theorem head_any (f:FunL) (names:List ByteArray) (g1 fp bp np:Option Addr) (g2 g3 fl fc bc nc:Nat) (w:World)
  (hs:f.name.size≤maxLen) (hr1:I64 f.params) (hr2:I64 f.regs) (hbl:f.blocks.length*96≤140737488351232) (hb:SliceAt w 6 (BlkR w) bp f.blocks) (hnl:names.length≤9223372036854775807) (hN:Qu w np names) :
  Calls Tryz.prog 49 #[.agg #[.slice g1 g2 g3,.slice fp fl fc,.string f.name,.int .i64 f.params,.int .i64 f.regs,.slice bp f.blocks.length bc,.slice none 0 0],.slice np names.length nc] w fun e w'=>e = .returned (.int .i64 (ks names f))∧Below w.heap.size w w':=by
 have HB:=q7 hb
 have HN:=q7 hN
 obtain ⟨hp1,hp2⟩:=hr1
 obtain ⟨hp3,hp4⟩:=hr2
 clear hb hN
 go_enter Tryz.func49,Tryz.ntmps49
 go_wp2
 go_loopw [5,12] (fun m i wr=>∃(k:Nat) (x:Int),k≤f.blocks.length∧i = .int .i64 k∧m = .int .i64 x∧(f.blocks.length≤40→x=Zf f k∧Zf f k≤k*10000000000000)∧Below (w.heap.size+1) (w.alloc (.cells #[.slice g1 g2 g3,.slice fp fl fc,.string f.name,.int .i64 f.params,.int .i64 f.regs,.slice bp f.blocks.length bc,.slice none 0 0] 104)) wr) (fun _ i _=>f.blocks.length - (intOf i).toNat)
 case atStart=>exact ⟨0,0,by omega,rfl,rfl,fun _=>by simp [Zf],zI _ _⟩
 case round=>
  obtain ⟨k,x,hk,rfl,rfl,hV,hb⟩:=hrel
  have HV:=q7 hV
  have HBw:=q7 hb
  have HBx:Hid (Below w.heap.size w wr):=((zI _ _).alloc (zK _) _).trans (hb.mono (by omega))
  have hz:w.heap.size<wr.heap.size:=by have:=hb.size;simp at this;omega
  obtain ⟨hcc,hcf⟩:=blk (qj hb (by omega) (qn w _))
  clear hV hb
  by_cases hlt:k<f.blocks.length
  ·obtain ⟨b2,o2,q1,c1,q2,c2,q3,c3,hp,e0,e1,e2,e3,e4,e5,_,_,hl1,hl2,_,_,_,_⟩:=ke HB.out HBx.out hlt
   subst hp
   go_wp2
   refine ⟨⟨k+1,_,by omega,by go_num,rfl,fun h40=>?_,HBw.out.alloc (by omega) _⟩,by simp [intOf];omega⟩
   obtain ⟨h1,h2⟩:=HV.out h40
   rw [K8 f k hlt]
   refine ⟨?_,by omega⟩
   rw [IntWalk.wrap64_in _ ⟨by omega,by omega⟩,h1]
   omega
  have HM:Hid (f.blocks.length≤40→x=j6 f):=by
   intro h
   have:=(HV.out h).1
   rw [show k=f.blocks.length by omega,YV] at this
   exact this
  clear HV
  have HW:=q7 (HN.out)
  cases hnb:kp f.name
  ·have HE:Hid (ks names f=12):=by show _=_;unfold ks;rw [zZ hnb]
   go_wp2_with (go_at_call 46;refine (Zw _ _ hs).mono ?_;rintro e w1 ⟨rfl,rfl⟩)
   go_ret
   exact ⟨by rw [HE.out];rfl,HBx.out⟩
  cases hhb:VX names f.name
  rotate_left
  ·have HE:Hid (ks names f=7):=by show _=_;unfold ks;rw [zQ (by simp [hnb]),zZ hhb]
   go_wp2_with (first|(go_at_call 46;refine (Zw _ _ hs).mono ?_;rintro e w1 ⟨rfl,rfl⟩)|(go_at_call 47;refine (kq _ _ _ _ _ hnl (kP HW.out HBx.out)).mono ?_;rintro e w1 ⟨rfl,rfl⟩))
   go_ret
   exact ⟨by rw [HE.out];rfl,HBx.out⟩
  have HE1:Hid (ks names f=if ¬(0≤f.params∧f.params≤6)∨¬(f.params≤f.regs∧f.regs≤100) then 3 else if ¬(1≤f.blocks.length∧f.blocks.length≤40)∨300<j6 f then 2 else 0):=by show _=_;unfold ks;rw [zQ (by simp [hnb]),zQ (by simp [hhb])]
  go_wp2_with (first|(go_at_call 46;refine (Zw _ _ hs).mono ?_;rintro e w1 ⟨rfl,rfl⟩)|(go_at_call 47;refine (kq _ _ _ _ _ hnl (kP HW.out HBx.out)).mono ?_;rintro e w1 ⟨rfl,rfl⟩)|(go_at_call 48;refine (qG _ _ _ _).mono ?_;rintro e w1 ⟨rfl,rfl⟩))
  all_goals
   go_ret
   refine ⟨?_,HBx.out⟩
   rw [HE1.out]
   refine congrArg (fun n=>Ending.returned (.int .i64 n)) ?_
   clear HE1 HB HN HW HBw HBx hcc hcf
   have HM2:=HM.out
   clear HM
   simp only [xT,yY,xA,Bool.not_eq_eq_eq_not,Bool.not_true,Bool.not_false] at *
   first|(rw [zZ (by omega)])|(rw [zQ (by omega),zZ (by omega)])|(rw [zQ (by omega),zQ (by omega)])|trace_state

theorem YW (nm:ByteArray) (params regs:Int) (bp:Option Addr) (bl bc:Nat) (w:World) :
  Calls Tryz.prog 52 #[.agg #[.string nm,.int .i64 params,.int .i64 regs,.slice bp bl bc]] w fun e w'=>e = .returned (.bool (nm.toList == [109,97,105,110]))∧Below w.heap.size w w':=by
 go_enter Tryz.func52,Tryz.ntmps52
 go_wp2
 go_ret
 exact ⟨rfl,by exact bZ⟩

def Q2 (xs:List FunL):Option Nat:=(List.range xs.length).find? fun i=>match xs[i]? with|some f=>QQ f|none=>false
theorem mainI_hit {xs:List FunL} {k:Nat} (hk:k<xs.length) (h0:∀j (h:j<xs.length),j<k→QQ xs[j]=false) (h:QQ xs[k]=true):Q2 xs=some k:=by
 unfold Q2
 refine XD _ _ _ hk (fun j hj=>?_) ?_
 ·rw [zj (by omega)];exact h0 j (by omega) hj
 rw [zj hk];exact h
theorem YX {xs:List FunL} (h0:∀j (h:j<xs.length),QQ xs[j]=false):Q2 xs=none:=by
 unfold Q2
 rw [List.find?_eq_none]
 intro i hi
 have hi:=yR.1 hi
 rw [zj hi]
 simp [h0 i hi]
def optI (o:Option Nat):Int:=match o with|some k=>(k:Int)|none=>-1

theorem Jb (xs:List FunL) (fp:Option Addr) (fc:Nat) (w:World) (hl:xs.length≤9223372036854775807) (hF:SliceAt w 4 (FunR w) fp xs) :
  Calls Tryz.prog 51 #[.slice fp xs.length fc,.func (.func 52) #[] #[]] w fun e w'=>e = .returned (.int .i64 (optI (Q2 xs)))∧Below w.heap.size w w':=by
 have HF:=q7 hF
 clear hF
 go_enter Tryz.func51,Tryz.ntmps51
 go_wp2
 go_loopw [8] (fun i wr=>∃k:Nat,k≤xs.length∧i = .int .i64 k∧(∀j (h:j<xs.length),j<k→QQ xs[j]=false)∧Below w.heap.size w wr) (fun i _=>xs.length - (intOf i).toNat)
 case atStart=>exact ⟨0,by omega,rfl,fun j _ h=>by omega,zI _ _⟩
 case round=>
  obtain ⟨k,hk,rfl,hV,hb⟩:=hrel
  have HV:=q7 hV
  have HBw:=q7 hb
  clear hV hb
  by_cases hlt:k<xs.length
  rotate_left
  ·go_wp2_with fail
   go_ret
   refine ⟨?_,HBw.out⟩
   rw [YX (fun j hj=>HV.out j hj (by omega))]
   rfl
  obtain ⟨b,o,q,c,hp,e0,e1,e2,e3,_⟩:=Ze HF.out HBw.out hlt
  subst hp
  go_wp2_with fail
  refine (YW _ _ _ _ _ _ _).mono ?_
  rintro e w3 ⟨rfl,hb3⟩
  have HB3:=q7 hb3
  have HE:Hid (QQ xs[k]=(xs[k].name.toList == [109,97,105,110])):=rfl
  clear hb3
  cases hm:(xs[k].name.toList == [109,97,105,110])
  ·have HM:Hid (QQ xs[k]=false):=HE.out.trans hm
   clear hm
   go_wp2_with fail
   refine ⟨⟨k+1,by omega,by go_num,fun j hj hjk=>?_,HBw.out.trans (HB3.out.mono HBw.out.size)⟩,by simp [intOf];omega⟩
   by_cases hj2:j<k
   ·exact HV.out j hj hj2
   obtain rfl:j=k:=by omega
   exact HM.out
  have HM:Hid (QQ xs[k]=true):=HE.out.trans hm
  clear hm
  go_wp2_with fail
  go_ret
  refine ⟨?_,HBw.out.trans (HB3.out.mono HBw.out.size)⟩
  rw [mainI_hit hlt HV.out HM.out]
  rfl

theorem V7:Tryz.prog.underlying 98=some (.slice 9):=by kernel_rfl
theorem infoStr:(Tryz.prog.info? 9).map (fun i=>(i.zero,i.size,i.bytes))=some (some (.string ⟨#[]⟩),1,16):=by kernel_rfl

theorem ZN (u:UniL):mainAt u=Q2 u.funcs:=rfl
theorem chk_big {u:UniL} (h:10<u.globals.length∨10<u.funcs.length):chk u=(2,0):=by
 unfold chk chkO
 rw [zZ h];rfl
theorem ZO {u:UniL} {k:Nat} {e:Int} (h1:u.globals.length≤10) (h2:u.funcs.length≤10) (hk:k<u.globals.length) (h0:∀j,j<k→V5 u j=0) (h:V5 u k=e) (he:e≠0):chk u=(e,(k:Int)):=by
 unfold chk chkO
 rw [zQ (by omega),vW hk h0 (by rw [h];exact he),h];rfl
theorem chk_head {u:UniL} {k:Nat} {e:Int} (h1:u.globals.length≤10) (h2:u.funcs.length≤10) (hg:∀j,j<u.globals.length→V5 u j=0) (hk:k<u.funcs.length) (h0:∀j,j<k→Qv u j=0) (h:Qv u k=e) (he:e≠0):chk u=(e,(k:Int)):=by
 unfold chk chkO
 rw [zQ (by omega),zi hg]
 simp only
 rw [vW hk h0 (by rw [h];exact he),h];rfl
theorem chk_body {u:UniL} {k:Nat} {e:Int} (h1:u.globals.length≤10) (h2:u.funcs.length≤10) (hg:∀j,j<u.globals.length→V5 u j=0) (hh:∀j,j<u.funcs.length→Qv u j=0) (hk:k<u.funcs.length) (h0:∀j,j<k→QP u j=0) (h:QP u k=e) (he:e≠0):chk u=(e,(k:Int)):=by
 unfold chk chkO
 rw [zQ (by omega),zi hg]
 simp only
 rw [zi hh]
 simp only
 rw [vW hk h0 (by rw [h];exact he),h];rfl
theorem chk_main {u:UniL} (h1:u.globals.length≤10) (h2:u.funcs.length≤10) (hg:∀j,j<u.globals.length→V5 u j=0) (hh:∀j,j<u.funcs.length→Qv u j=0) (hb:∀j,j<u.funcs.length→QP u j=0) :
  chk u=match Q2 u.funcs with|none=>(6,0)|some m=>if 0<Xs u m then (5,(m:Int)) else (0,0):=by
 unfold chk chkO
 rw [zQ (by omega),zi hg]
 simp only
 rw [zi hh]
 simp only
 rw [zi hb,ZN]
 simp only
 cases Q2 u.funcs with
 | none=>rfl
 | some m=>
  simp only
  split<;>rfl
theorem gloI_eq {u:UniL} {k:Nat} (hk:k<u.globals.length):V5 u k=K7 (jZ u k) (jY u k) u.globals[k]:=by
 unfold V5
 rw [zj hk]
theorem Qx {u:UniL} {k:Nat} (hk:k<u.funcs.length):Qv u k=ks (jB u k) u.funcs[k]:=by
 unfold Qv
 rw [zj hk]
theorem Jc {u:UniL} {k:Nat} (hk:k<u.funcs.length):QP u k=ki u u.funcs[k]:=by
 unfold QP
 rw [zj hk]
theorem Zg {u:UniL} {k:Nat} (hk:k<u.globals.length):jY u (k+1)=jY u k+u.globals[k].size:=by
 unfold jY
 rw [yA hk,yW,List.sum_append]
 simp
theorem K9 {u:UniL} {k:Nat} (hk:k<u.globals.length):jZ u (k+1)=jZ u k++[u.globals[k].name]:=by
 unfold jZ
 rw [yA hk,yW]
 rfl
theorem Ka {u:UniL} {k:Nat} (hk:k<u.funcs.length):jB u (k+1)=jB u k++[u.funcs[k].name]:=by
 unfold jB
 rw [yA hk,yW,yF]
 rfl
theorem XE {names:List ByteArray} {f:FunL} (h:ks names f=0):(0≤f.params∧f.params≤6)∧(f.params≤f.regs∧f.regs≤100)∧(1≤f.blocks.length∧f.blocks.length≤40)∧j6 f≤300:=by
 unfold ks at h
 split at h
 ·cases h
 split at h
 ·cases h
 split at h
 ·cases h
 split at h
 ·cases h
 omega

theorem strs_own {w:World} {base:Nat} {t:TypeId} {v:Value} {S:List ByteArray} (h:w.ownsRow base t 1 v S.length (S.map .string)):∃p c,v = .slice p S.length c∧Qu w p S:=by
 rcases h.2 with ⟨h1,h2⟩|⟨g,cap,cur,h1,_⟩
 ·refine ⟨none,0,?_,.inl ?_⟩
  ·rw [h1,show S.length=0 by simpa using h2]
  simpa using h2
 refine ⟨_,_,h1,.inr ⟨g,0,rfl,fun i hi=>?_⟩⟩
 have h2:=h.cells (g:=g) (by rw [h1];rfl) i (.string S[i]) (by simp [hi])
 have h3:(⟨g,0,none⟩:Addr).add i=⟨g,i,none⟩:=by unfold Addr.add;split<;>simp_all
 rw [h3] at h2
 rw [yx]
 exact h2

theorem Jd (p:Option Addr) (c n:Nat) (S:List ByteArray) (v:ByteArray) (w:World) (hl:S.length=n) (hn:n≤9223372036854775807) (h:Qu w p S) :
  Calls Tryz.prog 47 #[.slice p n c,.string v] w fun e w'=>e = .returned (.bool (VX S v))∧w=w':=by
 subst hl
 exact kq _ _ _ _ _ hn h
theorem Qi (w:World) (x:Value) (t:TypeId) (k:Nat) (hk:w.heap.size=k):∀j u,[x][j]?=some u→(w.alloc (.cells #[x] t)).cell? ((⟨k,0,none⟩:Addr).add j)=some u:=by
 subst hk
 exact cell_one_new w x t
theorem vX {W:World} {base:Nat} {e:TypeId} {size:Nat} {v:Value} {k:Nat} {xs:List Value} (h:W.ownsRow base e size v (k+1) xs):∃g cap,v = .slice (some ⟨g,0,none⟩) (k+1) cap:=by
 rcases h.2 with ⟨_,h0⟩|⟨g,cap,_,rfl,_⟩
 ·omega
 exact ⟨g,cap,rfl⟩
theorem gloE_12 {names:List ByteArray} {words:Int} {g:GloL} (h:(!kp g.name)=true):K7 names words g=12:=by
 unfold K7
 rw [zZ (by simpa using h)]
theorem gloE_7 {names:List ByteArray} {words:Int} {g:GloL} (h:(!kp g.name)=false) (h2:VX names g.name=true):K7 names words g=7:=by
 unfold K7
 rw [zQ (by simpa using h),zZ h2]
theorem gloE_3 {names:List ByteArray} {words:Int} {g:GloL} (h:(!kp g.name)=false) (h2:VX names g.name=false) (h3:(!xT g.size 1 200)=true):K7 names words g=3:=by
 unfold K7
 simp only [xT,Bool.not_eq_true',xA] at h3
 rw [zQ (by simpa using h),zQ (by simp [h2]),zZ h3]
theorem Je {n lo hi:Int} (h:(!xT n lo hi)=false):lo≤n∧n≤hi:=by
 simpa [xT] using h
theorem gloE_9 {names:List ByteArray} {words:Int} {g:GloL} (h:(!kp g.name)=false) (h2:VX names g.name=false) (h3:(!xT g.size 1 200)=false) (h4:g.size<g.init.length):K7 names words g=9:=by
 have h3:=Je h3
 unfold K7
 rw [zQ (by simpa using h),zQ (by simp [h2]),zQ (by omega),zZ h4]
theorem gloE_10 {names:List ByteArray} {words:Int} {g:GloL} (h:(!kp g.name)=false) (h2:VX names g.name=false) (h3:(!xT g.size 1 200)=false) (h4:¬g.size<g.init.length) (h6:0≤words∧words≤200) (h5:200<wrap64 (words+g.size)):K7 names words g=10:=by
 have h3:=Je h3
 rw [IntWalk.wrap64_in _ ⟨by omega,by omega⟩] at h5
 unfold K7
 rw [zQ (by simpa using h),zQ (by simp [h2]),zQ (by omega),zQ h4,zZ h5]
theorem gloE_0 {names:List ByteArray} {words:Int} {g:GloL} (h:(!kp g.name)=false) (h2:VX names g.name=false) (h3:(!xT g.size 1 200)=false) (h4:¬g.size<g.init.length) (h6:0≤words∧words≤200) (h5:wrap64 (words+g.size)≤200):K7 names words g=0∧wrap64 (words+g.size)=words+g.size∧0≤words+g.size∧words+g.size≤200:=by
 have h3:=Je h3
 rw [IntWalk.wrap64_in _ ⟨by omega,by omega⟩] at h5 ⊢
 unfold K7
 rw [zQ (by simpa using h),zQ (by simp [h2]),zQ (by omega),zQ h4,zQ (by omega)]
 exact ⟨rfl,rfl,by omega,h5⟩
theorem res_two {w:World} {R:Nat} {T:TypeId} (h:w.heap[R]?=some (.cells #[.int .i64 0,.int .i64 0] T (0,0))) (o1 o2:Obj) (e a:Int) (j:Nat) :
  ((((w.setCell ⟨R,0,none⟩ (.int .i64 e)).setCell ⟨R,1,none⟩ (.int .i64 a)).alloc o1).alloc o2).cell? ⟨R,j,none⟩=(#[.int .i64 e,.int .i64 a]:Array Value)[j]?:=
 (blk (qg (qg (qq (qq h 0 _) 1 _)))).1 j
theorem Kb {w:World} {R:Nat} {T:TypeId} (h:w.heap[R]?=some (.cells #[.int .i64 0,.int .i64 0] T (0,0))) (o1:Obj) (e a:Int) (j:Nat) :
  (((w.setCell ⟨R,0,none⟩ (.int .i64 e)).setCell ⟨R,1,none⟩ (.int .i64 a)).alloc o1).cell? ⟨R,j,none⟩=(#[.int .i64 e,.int .i64 a]:Array Value)[j]?:=
 (blk (qg (qq (qq h 0 _) 1 _))).1 j
theorem Kc (w:World) (A:Array Value) (t:TypeId) (j:Nat) {v:Value} (h:A[j]?=some v):(w.alloc (.cells A t)).cell? ⟨w.heap.size,j,none⟩=some v:=
 ((blk (qn w _)).1 j).trans h
theorem head_any2 (f:FunL) (names:List ByteArray) (g1 fp bp np:Option Addr) (g2 g3 fl fc bc nc n:Nat) (w:World) (hn:names.length=n)
  (hs:f.name.size≤maxLen) (hr1:I64 f.params) (hr2:I64 f.regs) (hbl:f.blocks.length*96≤140737488351232) (hb:SliceAt w 6 (BlkR w) bp f.blocks) (hnl:n≤9223372036854775807) (hN:Qu w np names) :
  Calls Tryz.prog 49 #[.agg #[.slice g1 g2 g3,.slice fp fl fc,.string f.name,.int .i64 f.params,.int .i64 f.regs,.slice bp f.blocks.length bc,.slice none 0 0],.slice np n nc] w fun e w'=>e = .returned (.int .i64 (ks names f))∧Below w.heap.size w w':=by
 subst hn
 exact head_any f names _ _ _ _ _ _ _ _ _ _ w hs hr1 hr2 hbl hb hnl hN
theorem ZP {w:World} {p:Option Addr} {xs:List BlkL} (h:SliceAt w 6 (BlkR w) p xs) (o1 o2:Obj):SliceAt ((w.alloc o1).alloc o2) 6 (BlkR ((w.alloc o1).alloc o2)) p xs:=
 have hb:Below w.heap.size w ((w.alloc o1).alloc o2):=((zI _ _).alloc (zK _) _).alloc (by simp) _
 h.mono hb (by omega) fun _ _ h=>h.below hb
theorem Kd {w:World} {p:Option Addr} {xs:List FunL} (h:SliceAt w 4 (FunR w) p xs) (o1 o2:Obj):SliceAt ((w.alloc o1).alloc o2) 4 (FunR ((w.alloc o1).alloc o2)) p xs:=
 have hb:Below w.heap.size w ((w.alloc o1).alloc o2):=((zI _ _).alloc (zK _) _).alloc (by simp) _
 h.mono hb (by omega) fun _ _ h=>h.below hb
theorem Jf {w w':World} {base:Nat} {e:TypeId} {size:Nat} {v:Value} {n:Nat} {xs:List Value} (h:w.ownsRow base e size v n xs) (hb:Below w.heap.size w w'):w'.ownsRow base e size v n xs:=by
 refine h.kept (row:=none) ⟨hb.os,hb.tape,hb.output,hb.size,fun k hk _=>hb.block k hk⟩ ?_
 cases v.ownBlock with
 | none=>exact .inl rfl
 | some k=>exact .inr (by simp)
theorem res_zero {w:World} {R:Nat} {T:TypeId} (h:w.heap[R]?=some (.cells #[.int .i64 0,.int .i64 0] T (0,0))) (j:Nat) :
  ((w.setCell ⟨R,0,none⟩ (.int .i64 0)).setCell ⟨R,1,none⟩ (.int .i64 0)).cell? ⟨R,j,none⟩=(#[.int .i64 0,.int .i64 0]:Array Value)[j]?:=
 (blk (qq (qq h 0 _) 1 _)).1 j
theorem V8 {w:World} {base k:Nat} {t:TypeId} {v:Value} {S:List ByteArray} (hl:S.length=k) (h:w.ownsRow base t 1 v k (S.map .string)):∃p c,v = .slice p k c∧Qu w p S:=by
 subst hl
 exact strs_own h

theorem ZQ (u:UniL) (gp fp:Option Addr) (gc fc:Nat) (w:World) (hgl:u.globals.length*48≤140737488351232) (hG:SliceAt w 3 (GloR w) gp u.globals) (hfl:u.funcs.length*56≤140737488351232) (hF:SliceAt w 4 (FunR w) fp u.funcs) (hw0:Ways w) :
  Calls Tryz.prog 20 #[.agg #[.slice gp u.globals.length gc,.slice fp u.funcs.length fc]] w fun e w'=>e = .returned (.agg #[.int .i64 (chk u).1,.int .i64 (chk u).2])∧Below w.heap.size w w':=by
 obtain ⟨i1,k1,k2,k3,k4⟩:=info_parts infoStr
 have HG:=q7 hG
 have HF:=q7 hF
 have HW:=q7 hw0
 clear hG hF hw0
 by_cases hbig:10<u.globals.length∨10<u.funcs.length
 ·have HV:=q7 (chk_big hbig)
  by_cases h1:10<u.globals.length
  ·clear hbig
   go_enter Tryz.func20,Tryz.ntmps20
   go_wp2_with (go_at_call 22;refine (j9 _ _ _).mono ?_;rintro e w3 ⟨rfl,rfl⟩)
   refine zk (v:=.agg #[.int .i64 2,.int .i64 0]) ?_ rfl ⟨by rw [HV.out],?_⟩
   ·simp [results,Tryz.results20,go_sem]
   exact bZ
  have h2:10<u.funcs.length:=by omega
  clear hbig
  go_enter Tryz.func20,Tryz.ntmps20
  go_wp2_with (go_at_call 22;refine (j9 _ _ _).mono ?_;rintro e w3 ⟨rfl,rfl⟩)
  refine zk (v:=.agg #[.int .i64 2,.int .i64 0]) ?_ rfl ⟨by rw [HV.out],?_⟩
  ·simp [results,Tryz.results20,go_sem]
  exact bZ
 have h1:u.globals.length≤10:=by omega
 have h2:u.funcs.length≤10:=by omega
 have hd1:decide (10<(u.globals.length:Int))=false:=by simp;omega
 have hd2:decide (10<(u.funcs.length:Int))=false:=by simp;omega
 clear hbig
 go_enter Tryz.func20,Tryz.ntmps20
 go_wp2_with fail
 go_loopw [3,4,31] (fun nm wd i wr=>∃k:Nat,k≤u.globals.length∧i = .int .i64 k∧wd = .int .i64 (jY u k)∧(0≤jY u k∧jY u k≤200)∧wr.ownsRow (w.heap.size+1+1) 9 1 nm k ((jZ u k).map .string)∧(∀j,j<k→V5 u j=0)∧Below (w.heap.size+1+1) ((w.alloc (.cells #[.slice gp u.globals.length gc,.slice fp u.funcs.length fc] 25)).alloc (.cells #[.int .i64 0,.int .i64 0] 27)) wr) (fun _ _ i _=>u.globals.length - (intOf i).toNat)
 case atStart=>exact ⟨0,by omega,rfl,rfl,by simp [jY],World.ownsRow_nil _ _ _ _,fun j h=>by omega,zI _ _⟩
 case round=>
  obtain ⟨k,hk,rfl,rfl,⟨hw1,hw2⟩,hown,hV,hb⟩:=hrel
  have HO:=q7 hown
  have HV:=q7 hV
  have HBw:=q7 hb
  have hz:w.heap.size+1<wr.heap.size:=by have:=hb.size;simp at this;omega
  have hz2:w.heap.size<wr.heap.size:=by omega
  have HBx:Hid (Below w.heap.size w wr):=(((zI _ _).alloc (zK _) _).alloc (by simp) _).trans (hb.mono (by omega))
  obtain ⟨hcc,hcf⟩:=blk (qj hb (by omega) (qg (qn w _)))
  have hx:=res_two (qj hb (k:=w.heap.size+1) (by omega) (qh (w:=w.alloc (.cells #[.slice gp u.globals.length gc,.slice fp u.funcs.length fc] 25)) (by simp)))
  obtain ⟨hbM,hbO⟩:=blk (qj hb (k:=w.heap.size+1) (by omega) (qh (w:=w.alloc (.cells #[.slice gp u.globals.length gc,.slice fp u.funcs.length fc] 25)) (by simp)))
  obtain ⟨np,nc,rfl,hS⟩:∃p c,u3 = .slice p k c∧Qu wr p (jZ u k):=by
   exact V8 (by simp [jZ];omega) hown
  have HS:=q7 hS
  clear hown hV hb hS
  by_cases hlt:k<u.globals.length
  ·obtain ⟨b2,o2,q,c,hp,e0,e1,e2,hns,hgs,hil,_⟩:=gloGet HG.out HBx.out hlt
   have hu4:=hgs.1
   have hu6:=hgs.2
   clear hgs
   subst hp
   have HE:Hid (V5 u k=K7 (jZ u k) (jY u k) u.globals[k]):=gloI_eq hlt
   have hnl:(jZ u k).length=k:=by simp [jZ];omega
   go_wp2_with (first|(go_at_call 46;refine (Zw _ _ (by unfold maxLen;omega)).mono ?_;rintro e w1 ⟨rfl,rfl⟩)|(go_at_call 47;refine (Jd _ _ _ _ _ _ hnl (by omega) (kP HS.out ((zI _ _).alloc (zK _) _))).mono ?_;rintro e w1 ⟨rfl,rfl⟩)|(go_at_call 48;refine (qG _ _ _ _).mono ?_;rintro e w1 ⟨rfl,rfl⟩)|(go_at_call 22;refine (j9 _ _ _).mono ?_;rintro e w3 ⟨rfl,rfl⟩)|(at_builtin;refine wpList_append_own_at _ rfl _ _ 98 rfl (w.heap.size+1+1) 9 i1 (.string ⟨#[]⟩) 1 16 V7 k1 k2 k3 k4 rfl (by decide) _ _ _ rfl ((HO.out.alloc _).alloc _) ⟨wr.heap.size+1,0,none⟩ 1 1 [.string u.globals[k].name] rfl rfl (Qi _ _ _ _ (by simp)) (by simp [Value.oneCell']) (by unfold maxLen;omega) (by omega) ?c1 ?_))
   case c1=>simp;omega
   rotate_right
   ·intro v' w1 hown' hgrow _ _
    obtain ⟨g',cap',rfl⟩:=vX hown'
    have HO2:Hid (w1.ownsRow (w.heap.size+1+1) 9 1 (.slice (some ⟨g',0,none⟩) (k+1) cap') (k+1) ((jZ u (k+1)).map .string)):=by
     show World.ownsRow _ _ _ _ _ _ _
     rw [K9 hlt,yW]
     exact hown'
    have HB2:Hid (Below (w.heap.size+1+1) ((w.alloc (.cells #[.slice (some ⟨b2,o2,none⟩) u.globals.length gc,.slice fp u.funcs.length fc] 25)).alloc (.cells #[.int .i64 0,.int .i64 0] 27)) w1):=by
     refine ((HBw.out.alloc (by omega) _).alloc (by simp;omega) _).grown hgrow (by simp;omega) (fun kk e=>?_)
     exact (HO.out.lt kk e).1
    have hb3:w1.cell? ⟨wr.heap.size,1,none⟩=some (.int .i64 u.globals[k].size):=by
     refine hgrow.cell (a:=⟨wr.heap.size,1,none⟩) ?_ (fun e=>?_)
     ·rw [zN (xG _ _ _ (by simp))]
      exact Kc _ _ _ _ rfl
     have:=(HO.out.lt _ e.symm).2
     exact Nat.lt_irrefl _ this
    obtain ⟨hg0,hg1,hg2,hg3⟩:=gloE_0 (by assumption) (by assumption) (by assumption) (by omega) ⟨hw1,hw2⟩ (by assumption)
    have HG0:=q7 hg0
    have HG1:=q7 hg1
    clear hown' hgrow hg0 hg1
    go_wp2
    refine ⟨⟨k+1,by omega,by go_num,?_,?_,HO2.out,fun j hj=>?_,HB2.out⟩,by simp [intOf];omega⟩
    ·rw [Zg hlt,←HG1.out]
    ·rw [Zg hlt]
     exact ⟨hg2,hg3⟩
    by_cases hj2:j<k
    ·exact HV.out j hj2
    obtain rfl:j=k:=by omega
    exact HE.out.trans HG0.out
   all_goals
    have HB1:=HBx
    have HX:=q7 hx
    clear hx
    first
     | (have HC:=q7 (ZO h1 h2 hlt HV.out (HE.out.trans (gloE_12 (by assumption))) (by decide)))
     | (have HC:=q7 (ZO h1 h2 hlt HV.out (HE.out.trans (gloE_7 (by assumption) (by assumption))) (by decide)))
     | (have HC:=q7 (ZO h1 h2 hlt HV.out (HE.out.trans (gloE_3 (by assumption) (by assumption) (by assumption))) (by decide)))
     | (have HC:=q7 (ZO h1 h2 hlt HV.out (HE.out.trans (gloE_9 (by assumption) (by assumption) (by assumption) (by assumption))) (by decide)))
     | (have HC:=q7 (ZO h1 h2 hlt HV.out (HE.out.trans (gloE_10 (by assumption) (by assumption) (by assumption) (by omega) ⟨hw1,hw2⟩ (by assumption))) (by decide)))
    refine zk (v:=.agg #[.int .i64 (chk u).1,.int .i64 (chk u).2]) ?_ rfl ⟨rfl,?_⟩
    ·have hx:=HX.out
     rw [HC.out]
     simp [results,Tryz.results20,go_sem,hx]
    exact bZ
  have HGZ:Hid (∀j,j<u.globals.length→V5 u j=0):=fun j hj=>HV.out j (by omega)
  have hkk:k=u.globals.length:=by omega
  have HN0:Hid (wr.ownsRow (w.heap.size+1+1) 9 1 (.slice np k nc) (u.globals.length+0) ((jB u 0).map .string)):=by
   have:=HO.out
   rw [hkk] at this ⊢
   have hn:jB u 0=jZ u u.globals.length:=by simp [jB,jZ]
   rw [hn]
   exact this
  clear HV HO HS hkk hx
  go_wp2_with fail
  go_loopw [3,82] (fun nm i wr=>∃k:Nat,k≤u.funcs.length∧i = .int .i64 k∧wr.ownsRow (w.heap.size+1+1) 9 1 nm (u.globals.length+k) ((jB u k).map .string)∧(∀j,j<k→Qv u j=0)∧Below (w.heap.size+1+1) ((w.alloc (.cells #[.slice gp u.globals.length gc,.slice fp u.funcs.length fc] 25)).alloc (.cells #[.int .i64 0,.int .i64 0] 27)) wr) (fun _ i _=>u.funcs.length - (intOf i).toNat)
  case atStart=>exact ⟨0,by omega,rfl,HN0.out,fun j h=>by omega,HBw.out⟩
  case round=>
   clear HN0 HBw hcc hcf hbM hbO HBx hz hz2
   obtain ⟨k,hk,rfl,hown,hV,hb⟩:=hrel
   have HO:=q7 hown
   have HV:=q7 hV
   have HBw:=q7 hb
   have hz:w.heap.size+1<wr.heap.size:=by have:=hb.size;simp at this;omega
   have hz2:w.heap.size<wr.heap.size:=by omega
   have HBx:Hid (Below w.heap.size w wr):=(((zI _ _).alloc (zK _) _).alloc (by simp) _).trans (hb.mono (by omega))
   obtain ⟨hcc,hcf⟩:=blk (qj hb (by omega) (qg (qn w _)))
   have hRr:=qj hb (k:=w.heap.size+1) (by omega) (qh (w:=w.alloc (.cells #[.slice gp u.globals.length gc,.slice fp u.funcs.length fc] 25)) (o:=.cells #[.int .i64 0,.int .i64 0] 27) (by simp))
   obtain ⟨hbM,hbO⟩:=blk hRr
   have HRr:=q7 hRr
   have hnl:(jB u k).length=u.globals.length+k:=by simp [jB];omega
   obtain ⟨np,nc,hnm,hS⟩:=V8 hnl hown
   subst hnm
   have HS:=q7 hS
   clear hown hV hb hS hRr
   by_cases hlt:k<u.funcs.length
   ·obtain ⟨b2,o2,q,c,hp,e0,e1,e2,e3,hns,hr1,hr2,hbl,hbs⟩:=Ze HF.out HBx.out hlt
    subst hp
    have HBS:=q7 hbs
    have HR1:=q7 hr1
    have HR2:=q7 hr2
    have HE:Hid (Qv u k=ks (jB u k) u.funcs[k]):=Qx hlt
    clear hbs hr1 hr2
    go_wp2_with fail
    refine (head_any2 _ _ _ _ _ _ _ _ _ _ _ _ _ _ hnl (by unfold maxLen;omega) HR1.out HR2.out hbl ?_ (by omega) ?_).mono ?_
    ·exact ZP HBS.out _ _
    ·exact kP HS.out (((zI _ _).alloc (zK _) _).alloc (by simp) _)
    rintro e w3 ⟨rfl,hb3⟩
    generalize hE:ks (jB u k) u.funcs[k]=ee
    have HE2:Hid (Qv u k=ee):=HE.out.trans hE
    have HW3:Hid (Below wr.heap.size wr w3):=(((zI _ _).alloc (zK _) _).alloc (by simp) _).trans (hb3.mono (by simp;omega))
    have hn3:w3.cell? ⟨wr.heap.size,0,none⟩=some (.string u.funcs[k].name):=by
     rw [(blk (qj hb3 (by simp;omega) (qg (qn wr _)))).1 0];rfl
    have hR3:=qj HW3.out hz HRr.out
    have hx:=Kb hR3
    have HB1:Hid (Below w.heap.size w w3):=HBx.out.trans (HW3.out.mono (by omega))
    have hz3:wr.heap.size<w3.heap.size:=by have:=hb3.size;simp at this;omega
    have hz4:w.heap.size+1<w3.heap.size:=by omega
    clear hbM hbO hcc hcf
    obtain ⟨hbM,hbO⟩:=blk hR3
    clear hE HE hb3 hR3
    by_cases hz0:ee=0
    ·have hzb:(ee != 0)=false:=by simp [hz0]
     have HZ:=q7 hz0
     have HO3:=q7 (Jf HO.out HW3.out)
     clear hz0 hx
     go_wp2_with (at_builtin;refine wpList_append_own_at _ rfl _ _ 98 rfl (w.heap.size+1+1) 9 i1 (.string ⟨#[]⟩) 1 16 V7 k1 k2 k3 k4 rfl (by decide) _ _ _ rfl (HO3.out.alloc _) ⟨w3.heap.size,0,none⟩ 1 1 [.string u.funcs[k].name] rfl rfl (Qi _ _ _ _ (by simp)) (by simp [Value.oneCell']) (by unfold maxLen;omega) (by omega) ?_ ?_)
     ·simp;omega
     intro v' w1 hown' hgrow _ _
     obtain ⟨g',cap',rfl⟩:=vX hown'
     have HO2:Hid (w1.ownsRow (w.heap.size+1+1) 9 1 (.slice (some ⟨g',0,none⟩) (u.globals.length+k+1) cap') (u.globals.length+(k+1)) ((jB u (k+1)).map .string)):=by
      show World.ownsRow _ _ _ _ _ _ _
      rw [Ka hlt,yW]
      exact hown'
     have HB2:Hid (Below (w.heap.size+1+1) ((w.alloc (.cells #[.slice gp u.globals.length gc,.slice (some ⟨b2,o2,none⟩) u.funcs.length fc] 25)).alloc (.cells #[.int .i64 0,.int .i64 0] 27)) w1):=by
      refine ((HBw.out.trans (HW3.out.mono (by omega))).alloc (by omega) _).grown hgrow (by simp;omega) (fun kk e=>?_)
      exact (HO.out.lt kk e).1
     clear hown' hgrow
     go_wp2_with fail
     refine ⟨⟨k+1,by omega,by go_num,HO2.out,fun j hj=>?_,HB2.out⟩,by simp [intOf];omega⟩
     by_cases hj2:j<k
     ·exact HV.out j hj2
     obtain rfl:j=k:=by omega
     exact HE2.out.trans HZ.out
    have hzb:(ee != 0)=true:=by simp [hz0]
    have HZ:=q7 hz0
    have HX:=q7 hx
    have HC:=q7 (chk_head h1 h2 HGZ.out hlt HV.out HE2.out hz0)
    clear hz0 hx
    go_wp2_with (go_at_call 22;refine (j9 _ _ _).mono ?_;rintro e w4 ⟨rfl,rfl⟩)
    refine zk (v:=.agg #[.int .i64 (chk u).1,.int .i64 (chk u).2]) ?_ rfl ⟨rfl,?_⟩
    ·have hx:=HX.out
     rw [HC.out]
     simp [results,Tryz.results20,go_sem,hx]
    exact bZ
   have HHZ:Hid (∀j,j<u.funcs.length→Qv u j=0):=fun j hj=>HV.out j (by omega)
   clear HV HO HS
   go_wp2_with fail
   go_loopw [107] (fun i wr=>∃k:Nat,k≤u.funcs.length∧i = .int .i64 k∧(∀j,j<k→QP u j=0)∧Below (w.heap.size+1+1) ((w.alloc (.cells #[.slice gp u.globals.length gc,.slice fp u.funcs.length fc] 25)).alloc (.cells #[.int .i64 0,.int .i64 0] 27)) wr) (fun i _=>u.funcs.length - (intOf i).toNat)
   case atStart=>exact ⟨0,by omega,rfl,fun j h=>by omega,HBw.out⟩
   case round=>
    clear HBw hcc hcf hbM hbO HBx hz hz2 HRr
    obtain ⟨k,hk,rfl,hV,hb⟩:=hrel
    have HV:=q7 hV
    have HBw:=q7 hb
    have hz:w.heap.size+1<wr.heap.size:=by have:=hb.size;simp at this;omega
    have hz2:w.heap.size<wr.heap.size:=by omega
    have HBx:Hid (Below w.heap.size w wr):=(((zI _ _).alloc (zK _) _).alloc (by simp) _).trans (hb.mono (by omega))
    obtain ⟨hcc,hcf⟩:=blk (qj hb (by omega) (qg (qn w _)))
    have hRr:=qj hb (k:=w.heap.size+1) (by omega) (qh (w:=w.alloc (.cells #[.slice gp u.globals.length gc,.slice fp u.funcs.length fc] 25)) (o:=.cells #[.int .i64 0,.int .i64 0] 27) (by simp))
    obtain ⟨hbM,hbO⟩:=blk hRr
    have HRr:=q7 hRr
    clear hV hb hRr
    by_cases hlt:k<u.funcs.length
    ·obtain ⟨b2,o2,q,c,hp,e0,e1,e2,e3,hns,hr1,hr2,hbl,hbs⟩:=Ze HF.out HBx.out hlt
     subst hp
     obtain ⟨⟨hp0,hp1⟩,⟨hp2,hp3⟩,⟨hp4,hp5⟩,_⟩:=XE ((Qx hlt).symm.trans (HHZ.out k hlt))
     obtain ⟨qb,qo,rfl⟩:∃qb qo,q=some ⟨qb,qo,none⟩:=by
      rcases hbs with h0|⟨b,o,hp,_⟩
      ·rw [h0] at hp4;simp at hp4
      exact ⟨b,o,hp⟩
     have HBS:=q7 hbs
     have HE:Hid (QP u k=ki u u.funcs[k]):=Jc hlt
     clear hbs hr1 hr2
     go_wp2_with fail
     refine (body_any u u.funcs[k] _ _ _ _ _ _ _ _ _ (by omega) (by omega) hp4 hp5 h2 ?_ ?_ ?_).mono ?_
     ·exact Kd (HF.out.mono HBx.out (by omega) fun _ _ h=>h.below HBx.out) _ _
     ·exact ZP HBS.out _ _
     ·exact HW.out.below ((HBx.out.alloc (by omega) _).alloc (by simp;omega) _)
     rintro e w3 ⟨rfl,hb3⟩
     generalize hE:ki u u.funcs[k]=ee
     have HE2:Hid (QP u k=ee):=HE.out.trans hE
     have HW3:Hid (Below wr.heap.size wr w3):=(((zI _ _).alloc (zK _) _).alloc (by simp) _).trans (hb3.mono (by simp;omega))
     have hR3:=qj HW3.out hz HRr.out
     have hx:=Kb hR3
     have HB1:Hid (Below w.heap.size w w3):=HBx.out.trans (HW3.out.mono (by omega))
     have hz4:w.heap.size+1<w3.heap.size:=by have:=hb3.size;simp at this;omega
     clear hbM hbO hcc hcf
     obtain ⟨hbM,hbO⟩:=blk hR3
     clear hE HE hb3 hR3
     by_cases hz0:ee=0
     ·have hzb:(ee != 0)=false:=by simp [hz0]
      have HZ:=q7 hz0
      clear hz0 hx
      go_wp2_with fail
      refine ⟨⟨k+1,by omega,by go_num,fun j hj=>?_,HBw.out.trans (HW3.out.mono (by omega))⟩,by simp [intOf];omega⟩
      by_cases hj2:j<k
      ·exact HV.out j hj2
      obtain rfl:j=k:=by omega
      exact HE2.out.trans HZ.out
     have hzb:(ee != 0)=true:=by simp [hz0]
     have HZ:=q7 hz0
     have HX:=q7 hx
     have HC:=q7 (chk_body h1 h2 HGZ.out HHZ.out hlt HV.out HE2.out hz0)
     clear hz0 hx
     go_wp2_with (go_at_call 22;refine (j9 _ _ _).mono ?_;rintro e w4 ⟨rfl,rfl⟩)
     refine zk (v:=.agg #[.int .i64 (chk u).1,.int .i64 (chk u).2]) ?_ rfl ⟨rfl,?_⟩
     ·have hx:=HX.out
      rw [HC.out]
      simp [results,Tryz.results20,go_sem,hx]
     exact bZ
    have HC:=q7 (chk_main h1 h2 HGZ.out HHZ.out (fun j hj=>HV.out j (by omega)))
    clear HV
    go_wp2_with fail
    refine (Jb u.funcs _ _ _ (by omega) (HF.out.mono HBx.out (by omega) fun _ _ h=>h.below HBx.out)).mono ?_
    rintro e w3 ⟨rfl,hb3⟩
    have hR3:=qj hb3 hz HRr.out
    have hx:=Kb hR3
    have hx0:=res_zero hR3
    have hu7:=(blk (qj hb3 hz2 (qj HBw.out (by omega) (qg (qn w _))))).1
    have HB1:Hid (Below w.heap.size w w3):=HBx.out.trans (hb3.mono (by omega))
    have hz4:w.heap.size+1<w3.heap.size:=by have:=hb3.size;omega
    have hz5:w.heap.size<w3.heap.size:=by omega
    clear hbM hbO hcc hcf
    obtain ⟨hbM,hbO⟩:=blk hR3
    clear hb3 hR3
    cases hm:Q2 u.funcs with
    | none=>
     have HC2:Hid (chk u=(6,0)):=by
      show _=_
      rw [HC.out,hm]
     have ho:optI none = -1:=rfl
     rw [ho]
     have HX:=q7 hx
     clear hm HC hx hx0 ho
     go_wp2_with (go_at_call 22;refine (j9 _ _ _).mono ?_;rintro e w4 ⟨rfl,rfl⟩)
     refine zk (v:=.agg #[.int .i64 (chk u).1,.int .i64 (chk u).2]) ?_ rfl ⟨rfl,?_⟩
     ·have hx:=HX.out
      rw [HC2.out]
      simp [results,Tryz.results20,go_sem,hx]
     exact bZ
    | some m=>
     have hml:m<u.funcs.length:=yR.1 (List.mem_of_find?_eq_some hm)
     obtain ⟨b2,o2,q,c,hp,e0,e1,e2,e3,hns,hr1,hr2,hbl,hbs⟩:=Ze HF.out HB1.out hml
     subst hp
     have hba:Xs u m=u.funcs[m].params:=by simp [Xs,List.getD,hml]
     have HC2:Hid (chk u=if 0<u.funcs[m].params then (5,(m:Int)) else (0,0)):=by
      show _=_
      rw [HC.out,hm]
      simp only
      rw [hba]
     have ho:optI (some m)=(m:Int):=rfl
     rw [ho]
     have HX:=q7 hx
     have HX0:=q7 hx0
     clear hm HC hx hx0 ho hba hbs hr1 hr2
     by_cases hpm:0<u.funcs[m].params
     ·have HC3:=HC2.out
      rw [zZ hpm] at HC3
      have HC4:=q7 HC3
      clear HC2 HC3
      go_wp2_with (go_at_call 22;refine (j9 _ _ _).mono ?_;rintro e w4 ⟨rfl,rfl⟩)
      refine zk (v:=.agg #[.int .i64 (chk u).1,.int .i64 (chk u).2]) ?_ rfl ⟨rfl,?_⟩
      ·have hx:=HX.out
       rw [HC4.out]
       simp [results,Tryz.results20,go_sem,hx]
      exact bZ
     have HC3:=HC2.out
     rw [zQ hpm] at HC3
     have HC4:=q7 HC3
     clear HC2 HC3
     go_wp2_with fail
     refine zk (v:=.agg #[.int .i64 (chk u).1,.int .i64 (chk u).2]) ?_ rfl ⟨rfl,?_⟩
     ·have hx:=HX0.out
      rw [HC4.out]
      simp [results,Tryz.results20,go_sem,hx]
     exact bZ

structure ChkOk (u:UniL):Prop where
 ng:u.globals.length≤10
 nf:u.funcs.length≤10
 glo:∀j,j<u.globals.length→V5 u j=0
 head:∀j,j<u.funcs.length→Qv u j=0
 body:∀j,j<u.funcs.length→QP u j=0
 main:∃m,Q2 u.funcs=some m∧Xs u m≤0

theorem ja {n:Nat} {g:Nat→Int} {r:Int×Int} (h:xy n g=some r):r.1≠0:=by
 unfold xy at h
 rw [Option.map_eq_some_iff] at h
 obtain ⟨i,hi,rfl⟩:=h
 have:=List.find?_some hi
 simpa using this

theorem V9 (u:UniL):(chk u=(0,0)∧ChkOk u)∨(chk u).1≠0:=by
 unfold chk chkO
 split
 ·exact .inr (by simp)
 rename_i hs
 cases hg:xy u.globals.length (V5 u) with
 | some r=>exact .inr (by simpa using ja hg)
 | none=>
  simp only
  cases hh:xy u.funcs.length (Qv u) with
  | some r=>exact .inr (by simpa using ja hh)
  | none=>
   simp only
   cases hb:xy u.funcs.length (QP u) with
   | some r=>exact .inr (by simpa using ja hb)
   | none=>
    simp only
    rw [ZN]
    cases hm:Q2 u.funcs with
    | none=>exact .inr (by simp)
    | some m=>
     simp only
     split
     ·exact .inr (by simp)
     rename_i hp
     exact .inl ⟨rfl,by omega,by omega,vV hg,vV hh,vV hb,m,hm,by omega⟩
theorem XF {u:UniL} (h:(chk u).1=0):chk u=(0,0)∧ChkOk u:=(V9 u).resolve_right (by simp [h])

theorem ChkOk.fn {u:UniL} (h:ChkOk u) {k:Nat} (hk:k<u.funcs.length):(0≤u.funcs[k].params∧u.funcs[k].params≤6)∧(u.funcs[k].params≤u.funcs[k].regs∧u.funcs[k].regs≤100)∧(1≤u.funcs[k].blocks.length∧u.funcs[k].blocks.length≤40)∧j6 u.funcs[k]≤300:=
 XE ((Qx hk).symm.trans (h.head k hk))
end Go.Proofs.YtbnnhmcloecijaaGreatDoor
