/-
  Inside a round of a loop over an iterator: a region that draws its order is walked as ever
-/
import Derived.Test.YtgjjhadbjmcnpaaGreatDoorJChkQ
import Derived.Deep.RegionHeld3
import Derived.RangeFuncNested
import Derived.RangeFuncBound
import Derived.RangeFuncCalls
import Derived.RangeFuncLeaves
import Derived.RangeFuncBox
import Derived.Shelf.Abstract
import Derived.Shelf.RegionOpen
import Derived.OwnWalkIn
import Derived.TacticsInMore
import Derived.LoopNIn
import Derived.LoopIn
import Derived.OrdersHeld
import Derived.OrdersIn
set_option maxRecDepth 100000
set_option maxHeartbeats 16000000
namespace Go.Proofs.YtgjjhadbjmcnpaaGreatDoor
open Go.RowKit

theorem JG:Tryz.prog.underlying 59=some (.slice 9):=by kernel_rfl
theorem infoStr:(Tryz.prog.info? 9).map (fun i=>(i.zero,i.size,i.bytes))=some (some (.string ⟨#[]⟩),1,16):=by kernel_rfl

theorem kg (u:UniL):Ko u=kb u.funcs:=rfl
theorem chk_big {u:UniL} (h:10<u.globals.length\/10<u.funcs.length):chk u=(2,0):=by
 unfold chk chkO;rw[zZ h];rfl
theorem Zr {u:UniL} {k:Nat} {e:Int} (h1:u.globals.length<=10) (h2:u.funcs.length<=10) (hk:k<u.globals.length) (h0:∀j,j<k->XF u j=0) (h:XF u k=e) (he:e≠0):chk u=(e,(k:Int)):=by
 unfold chk chkO;rw[zQ bO,Q9 hk h0 (by rw[h];exact he),h];rfl
theorem chk_head {u:UniL} {k:Nat} {e:Int} (h1:u.globals.length<=10) (h2:u.funcs.length<=10) (hg:∀j,j<u.globals.length->XF u j=0) (hk:k<u.funcs.length) (h0:∀j,j<k->kf u j=0) (h:kf u k=e) (he:e≠0):chk u=(e,(k:Int)):=by
 unfold chk chkO;rw[zQ bO,xp hg];simp only;rw[Q9 hk h0 (by rw[h];exact he),h];rfl
theorem chk_body {u:UniL} {k:Nat} {e:Int} (h1:u.globals.length<=10) (h2:u.funcs.length<=10) (hg:∀j,j<u.globals.length->XF u j=0) (hh:∀j,j<u.funcs.length->kf u j=0) (hk:k<u.funcs.length) (h0:∀j,j<k->kX u j=0) (h:kX u k=e) (he:e≠0):chk u=(e,(k:Int)):=by
 unfold chk chkO;rw[zQ bO,xp hg];simp only;rw[xp hh];simp only;rw[Q9 hk h0 (by rw[h];exact he),h];rfl
theorem chk_main {u:UniL} (h1:u.globals.length<=10) (h2:u.funcs.length<=10) (hg:∀j,j<u.globals.length->XF u j=0) (hh:∀j,j<u.funcs.length->kf u j=0) (hb:∀j,j<u.funcs.length->kX u j=0) :
  chk u=match kb u.funcs with|none=>(6,0)|some m=>if 0<vm u m then(5,(m:Int)) else(0,0):=by
 unfold chk chkO;rw[zQ bO,xp hg];simp only;rw[xp hh];simp only;rw[xp hb,kg];simp only;cases kb u.funcs with
 | none=>rfl
 | some m=>
  simp only
  split<;>rfl
theorem gloI_eq {u:UniL} {k:Nat} (hk:k<u.globals.length):XF u k=Vw (jO u k) (jN u k) u.globals[k]:=by
 unfold XF;rw[zj hk]
theorem vS {u:UniL} {k:Nat} (hk:k<u.funcs.length):kf u k=jx (xr u k) u.funcs[k]:=by
 unfold kf;rw[zj hk]
theorem kH {u:UniL} {k:Nat} (hk:k<u.funcs.length):kX u k=bodyE u u.funcs[k]:=by
 unfold kX;rw[zj hk]
theorem Z2 {u:UniL} {k:Nat} (hk:k<u.globals.length):jN u (k+1)=jN u k+u.globals[k].size:=by
 unfold jN;rw[yA hk,yW,List.sum_append];simp
theorem Vx {u:UniL} {k:Nat} (hk:k<u.globals.length):jO u (k+1)=jO u k++[u.globals[k].name]:=by
 unfold jO;rw[yA hk,yW];rfl
theorem Vy {u:UniL} {k:Nat} (hk:k<u.funcs.length):xr u (k+1)=xr u k++[u.funcs[k].name]:=by
 unfold xr;rw[yA hk,yW,yF];rfl
theorem Xg {names:List ByteArray} {f:FunL} (h:jx names f=0):(0<=f.params/\f.params<=6)/\(f.params<=f.regs/\f.regs<=100)/\(1<=f.blocks.length/\f.blocks.length<=40)/\xu f<=300:=by
 unfold jx at h
 split at h
 ·cases h
 split at h
 ·cases h
 split at h
 ·cases h
 split at h
 ·cases h
 omega

theorem strs_own {w:World} {base:Nat} {t:TypeId} {v:Value} {S:List ByteArray} (h:w.ownsRow base t 1 v S.length (S.map .string)):∃p c,v = .slice p S.length c/\Ql w p S:=by
 rcases h.2 with⟨h1,h2⟩|⟨g,cap,cur,h1,_⟩
 ·refine⟨none,0,?_,.inl ?_⟩
  ·rw[h1,show S.length=0 by simpa using h2]
  simpa using h2
 refine⟨_,_,h1,.inr ⟨g,0,rfl,fun i hi=>?_⟩⟩;have h2:=h.cells (g:=g) (by rw[h1];rfl) i (.string S[i]) (by simp[hi]);have h3:(⟨g,0,none⟩:Addr).add i=⟨g,i,none⟩:=by unfold Addr.add;split<;>simp_all
 rw[h3]at h2;rw[yx];exact h2

theorem XH (p:Option Addr) (c n:Nat) (S:List ByteArray) (v:ByteArray) (w:World) (hl:S.length=n) (hn:n<=9223372036854775807) (h:Ql w p S) :
  Calls Tryz.prog 25 #[.slice p n c,.string v] w fun e w'=>e = .returned (.bool (JC S v))/\w=w':=by
 subst hl;exact ke _ _ _ _ _ hn h
theorem Qb (w:World) (x:Value) (t:TypeId) (k:Nat) (hk:w.heap.size=k):∀j u,[x][j]?=some u->(w.alloc (.cells #[x] t)).cell? ((⟨k,0,none⟩:Addr).add j)=some u:=by
 subst hk;exact cell_one_new w x t
theorem vT {W:World} {base:Nat} {e:TypeId} {size:Nat} {v:Value} {k:Nat} {xs:List Value} (h:W.ownsRow base e size v (k+1) xs):∃g cap,v = .slice (some (J g 0)) (k+1) cap:=by
 rcases h.2 with⟨_,h0⟩|⟨g,cap,_,rfl,_⟩
 ·omega
 exact⟨g,cap,rfl⟩
theorem gloE_12 {names:List ByteArray} {words:Int} {g:GloL} (h:(!k9 g.name)=true):Vw names words g=12:=by
 unfold Vw;rw[zZ (by simpa using h)]
theorem gloE_7 {names:List ByteArray} {words:Int} {g:GloL} (h:(!k9 g.name)=false) (h2:JC names g.name=true):Vw names words g=7:=by
 unfold Vw;rw[zQ (by simpa using h),zZ h2]
theorem gloE_3 {names:List ByteArray} {words:Int} {g:GloL} (h:(!k9 g.name)=false) (h2:JC names g.name=false) (h3:(!xT g.size 1 200)=true):Vw names words g=3:=by
 unfold Vw;simp only[xT,Bool.not_eq_true',xA]at h3;rw[zQ (by simpa using h),zQ (by simp[h2]),zZ h3]
theorem XI {n lo hi:Int} (h:(!xT n lo hi)=false):lo<=n/\n<=hi:=by
 simpa[xT]using h
theorem gloE_9 {names:List ByteArray} {words:Int} {g:GloL} (h:(!k9 g.name)=false) (h2:JC names g.name=false) (h3:(!xT g.size 1 200)=false) (h4:g.size<g.init.length):Vw names words g=9:=by
 have h3:=XI h3;unfold Vw;rw[zQ (by simpa using h),zQ (by simp[h2]),zQ bO,zZ h4]
theorem gloE_10 {names:List ByteArray} {words:Int} {g:GloL} (h:(!k9 g.name)=false) (h2:JC names g.name=false) (h3:(!xT g.size 1 200)=false) (h4:¬g.size<g.init.length) (h6:0<=words/\words<=200) (h5:200<wrap64 (words+g.size)):Vw names words g=10:=by
 have h3:=XI h3;rw[IntWalk.wrap64_in _ ⟨by omega,by omega⟩]at h5;unfold Vw;rw[zQ (by simpa using h),zQ (by simp[h2]),zQ bO,zQ h4,zZ h5]
theorem gloE_0 {names:List ByteArray} {words:Int} {g:GloL} (h:(!k9 g.name)=false) (h2:JC names g.name=false) (h3:(!xT g.size 1 200)=false) (h4:¬g.size<g.init.length) (h6:0<=words/\words<=200) (h5:wrap64 (words+g.size)<=200):Vw names words g=0/\wrap64 (words+g.size)=words+g.size/\0<=words+g.size/\words+g.size<=200:=by
 have h3:=XI h3;rw[IntWalk.wrap64_in _ ⟨by omega,by omega⟩]at h5 ⊢;unfold Vw;rw[zQ (by simpa using h),zQ (by simp[h2]),zQ bO,zQ h4,zQ bO];exact⟨rfl,rfl,by omega,h5⟩
theorem res_two {w:World} {R:Nat} {T:TypeId} (h:w.heap[R]?=some (.cells #[Z 0,Z 0] T (0,0))) (o1 o2:Obj) (e a:Int) (j:Nat) :
  ((((w.setCell (J R 0) (Z e)).setCell (J R 1) (Z a)).alloc o1).alloc o2).cell? (J R j)=(#[Z e,Z a]:Array Value)[j]?:=
 (blk (qh (qh (qj (qj h 0 _) 1 _)))).1 j
theorem Vz {w:World} {R:Nat} {T:TypeId} (h:w.heap[R]?=some (.cells #[Z 0,Z 0] T (0,0))) (o1:Obj) (e a:Int) (j:Nat) :
  (((w.setCell (J R 0) (Z e)).setCell (J R 1) (Z a)).alloc o1).cell? (J R j)=(#[Z e,Z a]:Array Value)[j]?:=
 (blk (qh (qj (qj h 0 _) 1 _))).1 j
theorem VA (w:World) (A:Array Value) (t:TypeId) (j:Nat) {v:Value} (h:A[j]?=some v):(w.alloc (.cells A t)).cell? (J w.heap.size j)=some v:=
 ((blk (qB w _)).1 j).trans h
theorem head_any2 (f:FunL) (names:List ByteArray) (g1 fp bp np:Option Addr) (g2 g3 fl fc bc nc n:Nat) (w:World) (hn:names.length=n)
  (hs:f.name.size<=maxLen) (hr1:I64 f.params) (hr2:I64 f.regs) (hbl:f.blocks.length*96<=140737488351232) (hb:SliceAt w 6 (BlkR w) bp f.blocks) (hnl:n<=9223372036854775807) (hN:Ql w np names) :
  Calls Tryz.prog 27 #[.agg #[.slice g1 g2 g3,.slice fp fl fc,.string f.name,Z f.params,Z f.regs,.slice bp f.blocks.length bc,.slice none 0 0],.slice np n nc] w fun e w'=>e = .returned (Z (jx names f))/\Below w.heap.size w w':=by
 subst hn;exact head_any f names _ _ _ _ _ _ _ _ _ _ w hs hr1 hr2 hbl hb hnl hN
theorem Zs {w:World} {p:Option Addr} {xs:List BlkL} (h:SliceAt w 6 (BlkR w) p xs) (o1 o2:Obj):SliceAt ((w.alloc o1).alloc o2) 6 (BlkR ((w.alloc o1).alloc o2)) p xs:=
 have hb:Below w.heap.size w ((w.alloc o1).alloc o2):=((zI _ _).alloc (zK _) _).alloc bV _
 h.mono hb bO fun _ _ h=>h.below hb
theorem VB {w:World} {p:Option Addr} {xs:List FunL} (h:SliceAt w 4 (FunR w) p xs) (o1 o2:Obj):SliceAt ((w.alloc o1).alloc o2) 4 (FunR ((w.alloc o1).alloc o2)) p xs:=
 have hb:Below w.heap.size w ((w.alloc o1).alloc o2):=((zI _ _).alloc (zK _) _).alloc bV _
 h.mono hb bO fun _ _ h=>h.below hb
theorem XJ {w w':World} {base:Nat} {e:TypeId} {size:Nat} {v:Value} {n:Nat} {xs:List Value} (h:w.ownsRow base e size v n xs) (hb:Below w.heap.size w w'):w'.ownsRow base e size v n xs:=by
 refine h.kept (row:=none) ⟨hb.os,hb.tape,hb.output,hb.size,fun k hk _=>hb.block k hk⟩ ?_;cases v.ownBlock with
 | none=>exact .inl rfl
 | some k=>exact .inr bV
theorem res_zero {w:World} {R:Nat} {T:TypeId} (h:w.heap[R]?=some (.cells #[Z 0,Z 0] T (0,0))) (j:Nat) :
  ((w.setCell (J R 0) (Z 0)).setCell (J R 1) (Z 0)).cell? (J R j)=(#[Z 0,Z 0]:Array Value)[j]?:=
 (blk (qj (qj h 0 _) 1 _)).1 j
theorem JH {w:World} {base k:Nat} {t:TypeId} {v:Value} {S:List ByteArray} (hl:S.length=k) (h:w.ownsRow base t 1 v k (S.map .string)):∃p c,v = .slice p k c/\Ql w p S:=by
 subst hl;exact strs_own h

theorem vy (u:UniL) (gp fp:Option Addr) (gc fc:Nat) (w:World) (hgl:u.globals.length*48<=140737488351232) (hG:SliceAt w 3 (GloR w) gp u.globals) (hfl:u.funcs.length*56<=140737488351232) (hF:SliceAt w 4 (FunR w) fp u.funcs) (hw0:Ways w) :
  Calls Tryz.prog 9 #[.agg #[.slice gp u.globals.length gc,.slice fp u.funcs.length fc]] w fun e w'=>e = .returned (.agg #[Z (chk u).1,Z (chk u).2])/\Below w.heap.size w w':=by
 obtain⟨i1,k1,k2,k3,k4⟩:=info_parts infoStr;have HG:=q8 hG;have HF:=q8 hF;have HW:=q8 hw0;clear hG hF hw0
 by_cases hbig:10<u.globals.length\/10<u.funcs.length
 ·have HV:=q8 (chk_big hbig)
  by_cases h1:10<u.globals.length
  ·clear hbig
   go_enter Tryz.func9,Tryz.ntmps9
   go_wp2_with (go_at_call 23;refine(jo _ _ _).mono ?_;rintro e w3 ⟨rfl,rfl⟩)
   refine zk (v:=.agg #[Z 2,Z 0]) ?_ rfl ⟨by rw[HV.out],?_⟩
   ·simp[results,Tryz.results9,go_sem]
   exact bZ
  have h2:10<u.funcs.length:=by omega
  clear hbig
  go_enter Tryz.func9,Tryz.ntmps9
  go_wp2_with (go_at_call 23;refine(jo _ _ _).mono ?_;rintro e w3 ⟨rfl,rfl⟩)
  refine zk (v:=.agg #[Z 2,Z 0]) ?_ rfl ⟨by rw[HV.out],?_⟩
  ·simp[results,Tryz.results9,go_sem]
  exact bZ
 have h1:u.globals.length<=10:=by omega
 have h2:u.funcs.length<=10:=by omega
 have hd1:decide (10<(u.globals.length:Int))=false:=by simp;omega
 have hd2:decide (10<(u.funcs.length:Int))=false:=by simp;omega
 clear hbig
 go_enter Tryz.func9,Tryz.ntmps9
 go_wp2_with fail
 go_loopw [3,4,31] (fun nm wd i wr=>∃k:Nat,k<=u.globals.length/\i=Z k/\wd=Z (jN u k)/\(0<=jN u k/\jN u k<=200)/\wr.ownsRow (w.heap.size+1+1) 9 1 nm k ((jO u k).map .string)/\(∀j,j<k->XF u j=0)/\Below (w.heap.size+1+1) ((w.alloc (.cells #[.slice gp u.globals.length gc,.slice fp u.funcs.length fc] 25)).alloc (.cells #[Z 0,Z 0] 27)) wr) (fun _ _ i _=>u.globals.length - (intOf i).toNat)
 case atStart=>exact⟨0,by omega,rfl,rfl,by simp[jN],World.ownsRow_nil _ _ _ _,fun j h=>by omega,zI _ _⟩
 case round=>
  obtain⟨k,hk,rfl,rfl,⟨hw1,hw2⟩,hown,hV,hb⟩:=hrel;have HO:=q8 hown;have HV:=q8 hV;have HBw:=q8 hb;have hz:w.heap.size+1<wr.heap.size:=by have:=hb.size;simp at this;omega
  have hz2:w.heap.size<wr.heap.size:=by omega
  have HBx:Hid (Below w.heap.size w wr):=(((zI _ _).alloc (zK _) _).alloc bV _).trans (hb.mono bO);obtain⟨hcc,hcf⟩:=blk (qg hb bO (qh (qB w _)));have hx:=res_two (qg hb (k:=w.heap.size+1) bO (qr (w:=w.alloc (.cells #[.slice gp u.globals.length gc,.slice fp u.funcs.length fc] 25)) bV));obtain⟨hbV,hbY⟩:=blk (qg hb (k:=w.heap.size+1) bO (qr (w:=w.alloc (.cells #[.slice gp u.globals.length gc,.slice fp u.funcs.length fc] 25)) bV))
  obtain⟨np,nc,rfl,hS⟩:∃p c,u3 = .slice p k c/\Ql wr p (jO u k):=by
   exact JH (by simp[jO];omega) hown
  have HS:=q8 hS;clear hown hV hb hS
  by_cases hlt:k<u.globals.length
  ·obtain⟨b2,o2,q,c,hp,e0,e1,e2,hns,hgs,hil,_⟩:=gloGet HG.out HBx.out hlt;have huH:=hgs.1;have huI:=hgs.2;clear hgs;subst hp;have HE:Hid (XF u k=Vw (jO u k) (jN u k) u.globals[k]):=gloI_eq hlt;have hnl:(jO u k).length=k:=by simp[jO];omega
   go_wp2_with (first|(go_at_call 24;refine(Zd _ _ (by unfold maxLen;omega)).mono ?_;rintro e w1 ⟨rfl,rfl⟩)|(go_at_call 25;refine(XH _ _ _ _ _ _ hnl bO (kG HS.out ((zI _ _).alloc (zK _) _))).mono ?_;rintro e w1 ⟨rfl,rfl⟩)|(go_at_call 26;refine(qJ _ _ _ _).mono ?_;rintro e w1 ⟨rfl,rfl⟩)|(go_at_call 23;refine(jo _ _ _).mono ?_;rintro e w3 ⟨rfl,rfl⟩)|(at_builtin;refine wpList_append_own_at _ rfl _ _ 59 rfl (w.heap.size+1+1) 9 i1 (.string ⟨#[]⟩) 1 16 JG k1 k2 k3 k4 rfl (by decide) _ _ _ rfl ((HO.out.alloc _).alloc _) ⟨wr.heap.size+1,0,none⟩ 1 1 [.string u.globals[k].name] rfl rfl (Qb _ _ _ _ bV) (by simp[Value.oneCell']) (by unfold maxLen;omega) bO ?c1 ?_))
   case c1=>simp;omega
   rotate_right
   ·intro v' w1 hown' hgrow _ _;obtain⟨g',cap',rfl⟩:=vT hown'
    have HO2:Hid (w1.ownsRow (w.heap.size+1+1) 9 1 (.slice (some (J g' 0)) (k+1) cap') (k+1) ((jO u (k+1)).map .string)):=by
     show World.ownsRow _ _ _ _ _ _ _;rw[Vx hlt,yW];exact hown'
    have HB2:Hid (Below (w.heap.size+1+1) ((w.alloc (.cells #[.slice (some (J b2 o2)) u.globals.length gc,.slice fp u.funcs.length fc] 25)).alloc (.cells #[Z 0,Z 0] 27)) w1):=by
     refine((HBw.out.alloc bO _).alloc bW _).grown hgrow bW (fun kk e=>?_);exact(HO.out.lt kk e).1
    have hb3:w1.cell? (J wr.heap.size 1)=some (Z u.globals[k].size):=by
     refine hgrow.cell (a:=(J wr.heap.size 1)) ?_ (fun e=>?_)
     ·rw[zN (xG _ _ _ bV)];exact VA _ _ _ _ rfl
     have:=(HO.out.lt _ e.symm).2;exact Nat.lt_irrefl _ this
    obtain⟨hg0,hg1,hg2,hg3⟩:=gloE_0 (by assumption) (by assumption) (by assumption) bO ⟨hw1,hw2⟩ (by assumption);have HG0:=q8 hg0;have HG1:=q8 hg1;clear hown' hgrow hg0 hg1
    go_wp2
    refine⟨⟨k+1,by omega,by go_num,?_,?_,HO2.out,fun j hj=>?_,HB2.out⟩,by simp[intOf];omega⟩
    ·rw[Z2 hlt,←HG1.out]
    ·rw[Z2 hlt];exact⟨hg2,hg3⟩
    by_cases hj2:j<k
    ·exact HV.out j hj2
    obtain rfl:j=k:=(by omega);exact HE.out.trans HG0.out
   all_goals
    have HB1:=HBx;have HX:=q8 hx;clear hx
    first
     | (have HC:=q8 (Zr h1 h2 hlt HV.out (HE.out.trans (gloE_12 (by assumption))) (by decide)))
     | (have HC:=q8 (Zr h1 h2 hlt HV.out (HE.out.trans (gloE_7 (by assumption) (by assumption))) (by decide)))
     | (have HC:=q8 (Zr h1 h2 hlt HV.out (HE.out.trans (gloE_3 (by assumption) (by assumption) (by assumption))) (by decide)))
     | (have HC:=q8 (Zr h1 h2 hlt HV.out (HE.out.trans (gloE_9 (by assumption) (by assumption) (by assumption) (by assumption))) (by decide)))
     | (have HC:=q8 (Zr h1 h2 hlt HV.out (HE.out.trans (gloE_10 (by assumption) (by assumption) (by assumption) bO ⟨hw1,hw2⟩ (by assumption))) (by decide)))
    refine zk (v:=.agg #[Z (chk u).1,Z (chk u).2]) ?_ rfl ⟨rfl,?_⟩
    ·have hx:=HX.out;rw[HC.out];simp[results,Tryz.results9,go_sem,hx]
    exact bZ
  have HGZ:Hid (∀j,j<u.globals.length->XF u j=0):=fun j hj=>HV.out j bO;have hkk:k=u.globals.length:=by omega
  have HN0:Hid (wr.ownsRow (w.heap.size+1+1) 9 1 (.slice np k nc) (u.globals.length+0) ((xr u 0).map .string)):=by
   have:=HO.out;rw[hkk]at this ⊢;have hn:xr u 0=jO u u.globals.length:=(by simp[xr,jO]);rw[hn];exact this
  clear HV HO HS hkk hx
  go_wp2_with fail
  go_loopw [3,82] (fun nm i wr=>∃k:Nat,k<=u.funcs.length/\i=Z k/\wr.ownsRow (w.heap.size+1+1) 9 1 nm (u.globals.length+k) ((xr u k).map .string)/\(∀j,j<k->kf u j=0)/\Below (w.heap.size+1+1) ((w.alloc (.cells #[.slice gp u.globals.length gc,.slice fp u.funcs.length fc] 25)).alloc (.cells #[Z 0,Z 0] 27)) wr) (fun _ i _=>u.funcs.length - (intOf i).toNat)
  case atStart=>exact⟨0,by omega,rfl,HN0.out,fun j h=>by omega,HBw.out⟩
  case round=>
   clear HN0 HBw hcc hcf hbV hbY HBx hz hz2;obtain⟨k,hk,rfl,hown,hV,hb⟩:=hrel;have HO:=q8 hown;have HV:=q8 hV;have HBw:=q8 hb;have hz:w.heap.size+1<wr.heap.size:=(by have:=hb.size;simp at this;omega);have hz2:w.heap.size<wr.heap.size:=(by omega);have HBx:Hid (Below w.heap.size w wr):=(((zI _ _).alloc (zK _) _).alloc bV _).trans (hb.mono bO);obtain⟨hcc,hcf⟩:=blk (qg hb bO (qh (qB w _)));have hRr:=qg hb (k:=w.heap.size+1) bO (qr (w:=w.alloc (.cells #[.slice gp u.globals.length gc,.slice fp u.funcs.length fc] 25)) (o:=.cells #[Z 0,Z 0] 27) bV);obtain⟨hbV,hbY⟩:=blk hRr;have HRr:=q8 hRr;have hnl:(xr u k).length=u.globals.length+k:=(by simp[xr];omega);obtain⟨np,nc,hnm,hS⟩:=JH hnl hown;subst hnm;have HS:=q8 hS;clear hown hV hb hS hRr
   by_cases hlt:k<u.funcs.length
   ·obtain⟨b2,o2,q,c,hp,e0,e1,e2,e3,hns,hr1,hr2,hbl,hbs⟩:=Q1 HF.out HBx.out hlt;subst hp;have HBS:=q8 hbs;have HR1:=q8 hr1;have HR2:=q8 hr2;have HE:Hid (kf u k=jx (xr u k) u.funcs[k]):=vS hlt;clear hbs hr1 hr2
    go_wp2_with fail
    refine(head_any2 _ _ _ _ _ _ _ _ _ _ _ _ _ _ hnl (by unfold maxLen;omega) HR1.out HR2.out hbl ?_ bO ?_).mono ?_
    ·exact Zs HBS.out _ _
    ·exact kG HS.out (((zI _ _).alloc (zK _) _).alloc bV _)
    rintro e w3 ⟨rfl,hb3⟩;generalize hE:jx (xr u k) u.funcs[k]=ee;have HE2:Hid (kf u k=ee):=HE.out.trans hE;have HW3:Hid (Below wr.heap.size wr w3):=(((zI _ _).alloc (zK _) _).alloc bV _).trans (hb3.mono bW)
    have hn3:w3.cell? (J wr.heap.size 0)=some (.string u.funcs[k].name):=by
     rw[(blk (qg hb3 bW (qh (qB wr _)))).1 0];rfl
    have hR3:=qg HW3.out hz HRr.out;have hx:=Vz hR3;have HB1:Hid (Below w.heap.size w w3):=HBx.out.trans (HW3.out.mono bO);have hz3:wr.heap.size<w3.heap.size:=(by have:=hb3.size;simp at this;omega);have hz4:w.heap.size+1<w3.heap.size:=(by omega);clear hbV hbY hcc hcf;obtain⟨hbV,hbY⟩:=blk hR3;clear hE HE hb3 hR3
    by_cases hz0:ee=0
    ·have hzb:(ee != 0)=false:=(by simp[hz0]);have HZ:=q8 hz0;have HO3:=q8 (XJ HO.out HW3.out);clear hz0 hx
     go_wp2_with (at_builtin;refine wpList_append_own_at _ rfl _ _ 59 rfl (w.heap.size+1+1) 9 i1 (.string ⟨#[]⟩) 1 16 JG k1 k2 k3 k4 rfl (by decide) _ _ _ rfl (HO3.out.alloc _) ⟨w3.heap.size,0,none⟩ 1 1 [.string u.funcs[k].name] rfl rfl (Qb _ _ _ _ bV) (by simp[Value.oneCell']) (by unfold maxLen;omega) bO ?_ ?_)
     ·simp;omega
     intro v' w1 hown' hgrow _ _;obtain⟨g',cap',rfl⟩:=vT hown'
     have HO2:Hid (w1.ownsRow (w.heap.size+1+1) 9 1 (.slice (some (J g' 0)) (u.globals.length+k+1) cap') (u.globals.length+(k+1)) ((xr u (k+1)).map .string)):=by
      show World.ownsRow _ _ _ _ _ _ _;rw[Vy hlt,yW];exact hown'
     have HB2:Hid (Below (w.heap.size+1+1) ((w.alloc (.cells #[.slice gp u.globals.length gc,.slice (some (J b2 o2)) u.funcs.length fc] 25)).alloc (.cells #[Z 0,Z 0] 27)) w1):=by
      refine((HBw.out.trans (HW3.out.mono bO)).alloc bO _).grown hgrow bW (fun kk e=>?_);exact(HO.out.lt kk e).1
     clear hown' hgrow
     go_wp2_with fail
     refine⟨⟨k+1,by omega,by go_num,HO2.out,fun j hj=>?_,HB2.out⟩,by simp[intOf];omega⟩
     by_cases hj2:j<k
     ·exact HV.out j hj2
     obtain rfl:j=k:=(by omega);exact HE2.out.trans HZ.out
    have hzb:(ee != 0)=true:=(by simp[hz0]);have HZ:=q8 hz0;have HX:=q8 hx;have HC:=q8 (chk_head h1 h2 HGZ.out hlt HV.out HE2.out hz0);clear hz0 hx
    go_wp2_with (go_at_call 23;refine(jo _ _ _).mono ?_;rintro e w4 ⟨rfl,rfl⟩)
    refine zk (v:=.agg #[Z (chk u).1,Z (chk u).2]) ?_ rfl ⟨rfl,?_⟩
    ·have hx:=HX.out;rw[HC.out];simp[results,Tryz.results9,go_sem,hx]
    exact bZ
   have HHZ:Hid (∀j,j<u.funcs.length->kf u j=0):=fun j hj=>HV.out j bO;clear HV HO HS
   go_wp2_with fail
   go_loopw [107] (fun i wr=>∃k:Nat,k<=u.funcs.length/\i=Z k/\(∀j,j<k->kX u j=0)/\Below (w.heap.size+1+1) ((w.alloc (.cells #[.slice gp u.globals.length gc,.slice fp u.funcs.length fc] 25)).alloc (.cells #[Z 0,Z 0] 27)) wr) (fun i _=>u.funcs.length - (intOf i).toNat)
   case atStart=>exact⟨0,by omega,rfl,fun j h=>by omega,HBw.out⟩
   case round=>
    clear HBw hcc hcf hbV hbY HBx hz hz2 HRr;obtain⟨k,hk,rfl,hV,hb⟩:=hrel;have HV:=q8 hV;have HBw:=q8 hb;have hz:w.heap.size+1<wr.heap.size:=(by have:=hb.size;simp at this;omega);have hz2:w.heap.size<wr.heap.size:=(by omega);have HBx:Hid (Below w.heap.size w wr):=(((zI _ _).alloc (zK _) _).alloc bV _).trans (hb.mono bO);obtain⟨hcc,hcf⟩:=blk (qg hb bO (qh (qB w _)));have hRr:=qg hb (k:=w.heap.size+1) bO (qr (w:=w.alloc (.cells #[.slice gp u.globals.length gc,.slice fp u.funcs.length fc] 25)) (o:=.cells #[Z 0,Z 0] 27) bV);obtain⟨hbV,hbY⟩:=blk hRr;have HRr:=q8 hRr;clear hV hb hRr
    by_cases hlt:k<u.funcs.length
    ·obtain⟨b2,o2,q,c,hp,e0,e1,e2,e3,hns,hr1,hr2,hbl,hbs⟩:=Q1 HF.out HBx.out hlt;subst hp;obtain⟨⟨hp0,hp1⟩,⟨hp2,hp3⟩,⟨hp4,hp5⟩,_⟩:=Xg ((vS hlt).symm.trans (HHZ.out k hlt))
     obtain⟨qb,qo,rfl⟩:∃qb qo,q=some (J qb qo):=by
      rcases hbs with h0|⟨b,o,hp,_⟩
      ·rw[h0]at hp4;simp at hp4
      exact⟨b,o,hp⟩
     have HBS:=q8 hbs;have HE:Hid (kX u k=bodyE u u.funcs[k]):=kH hlt;clear hbs hr1 hr2
     go_wp2_with fail
     refine(body_any u u.funcs[k] _ _ _ _ _ _ _ _ _ bO bO hp4 hp5 h2 ?_ ?_ ?_).mono ?_
     ·exact VB (HF.out.mono HBx.out bO fun _ _ h=>h.below HBx.out) _ _
     ·exact Zs HBS.out _ _
     ·exact HW.out.below ((HBx.out.alloc bO _).alloc bW _)
     rintro e w3 ⟨rfl,hb3⟩;generalize hE:bodyE u u.funcs[k]=ee;have HE2:Hid (kX u k=ee):=HE.out.trans hE;have HW3:Hid (Below wr.heap.size wr w3):=(((zI _ _).alloc (zK _) _).alloc bV _).trans (hb3.mono bW);have hR3:=qg HW3.out hz HRr.out;have hx:=Vz hR3;have HB1:Hid (Below w.heap.size w w3):=HBx.out.trans (HW3.out.mono bO);have hz4:w.heap.size+1<w3.heap.size:=(by have:=hb3.size;simp at this;omega);clear hbV hbY hcc hcf;obtain⟨hbV,hbY⟩:=blk hR3;clear hE HE hb3 hR3
     by_cases hz0:ee=0
     ·have hzb:(ee != 0)=false:=(by simp[hz0]);have HZ:=q8 hz0;clear hz0 hx
      go_wp2_with fail
      refine⟨⟨k+1,by omega,by go_num,fun j hj=>?_,HBw.out.trans (HW3.out.mono bO)⟩,by simp[intOf];omega⟩
      by_cases hj2:j<k
      ·exact HV.out j hj2
      obtain rfl:j=k:=(by omega);exact HE2.out.trans HZ.out
     have hzb:(ee != 0)=true:=(by simp[hz0]);have HZ:=q8 hz0;have HX:=q8 hx;have HC:=q8 (chk_body h1 h2 HGZ.out HHZ.out hlt HV.out HE2.out hz0);clear hz0 hx
     go_wp2_with (go_at_call 23;refine(jo _ _ _).mono ?_;rintro e w4 ⟨rfl,rfl⟩)
     refine zk (v:=.agg #[Z (chk u).1,Z (chk u).2]) ?_ rfl ⟨rfl,?_⟩
     ·have hx:=HX.out;rw[HC.out];simp[results,Tryz.results9,go_sem,hx]
     exact bZ
    have HC:=q8 (chk_main h1 h2 HGZ.out HHZ.out (fun j hj=>HV.out j bO));clear HV
    go_wp2_with fail
    refine(XG u.funcs _ _ _ bO (HF.out.mono HBx.out bO fun _ _ h=>h.below HBx.out)).mono ?_;rintro e w3 ⟨rfl,hb3⟩;have hR3:=qg hb3 hz HRr.out;have hx:=Vz hR3;have hx0:=res_zero hR3;have huJ:=(blk (qg hb3 hz2 (qg HBw.out bO (qh (qB w _))))).1;have HB1:Hid (Below w.heap.size w w3):=HBx.out.trans (hb3.mono bO);have hz4:w.heap.size+1<w3.heap.size:=(by have:=hb3.size;omega);have hz5:w.heap.size<w3.heap.size:=(by omega);clear hbV hbY hcc hcf;obtain⟨hbV,hbY⟩:=blk hR3;clear hb3 hR3;cases hm:kb u.funcs with
    | none=>
     have HC2:Hid (chk u=(6,0)):=by
      show _=_;rw[HC.out,hm]
     have ho:optI none = -1:=rfl;rw[ho];have HX:=q8 hx;clear hm HC hx hx0 ho
     go_wp2_with (go_at_call 23;refine(jo _ _ _).mono ?_;rintro e w4 ⟨rfl,rfl⟩)
     refine zk (v:=.agg #[Z (chk u).1,Z (chk u).2]) ?_ rfl ⟨rfl,?_⟩
     ·have hx:=HX.out;rw[HC2.out];simp[results,Tryz.results9,go_sem,hx]
     exact bZ
    | some m=>
     have hml:m<u.funcs.length:=yR.1 (List.mem_of_find?_eq_some hm);obtain⟨b2,o2,q,c,hp,e0,e1,e2,e3,hns,hr1,hr2,hbl,hbs⟩:=Q1 HF.out HB1.out hml;subst hp;have ham:vm u m=u.funcs[m].params:=by simp[vm,List.getD,hml]
     have HC2:Hid (chk u=if 0<u.funcs[m].params then(5,(m:Int)) else(0,0)):=by
      show _=_;rw[HC.out,hm];simp only;rw[ham]
     have ho:optI (some m)=(m:Int):=rfl;rw[ho];have HX:=q8 hx;have HX0:=q8 hx0;clear hm HC hx hx0 ho ham hbs hr1 hr2
     by_cases hpm:0<u.funcs[m].params
     ·have HC3:=HC2.out;rw[zZ hpm]at HC3;have HC4:=q8 HC3;clear HC2 HC3
      go_wp2_with (go_at_call 23;refine(jo _ _ _).mono ?_;rintro e w4 ⟨rfl,rfl⟩)
      refine zk (v:=.agg #[Z (chk u).1,Z (chk u).2]) ?_ rfl ⟨rfl,?_⟩
      ·have hx:=HX.out;rw[HC4.out];simp[results,Tryz.results9,go_sem,hx]
      exact bZ
     have HC3:=HC2.out;rw[zQ hpm]at HC3;have HC4:=q8 HC3;clear HC2 HC3
     go_wp2_with fail
     refine zk (v:=.agg #[Z (chk u).1,Z (chk u).2]) ?_ rfl ⟨rfl,?_⟩
     ·have hx:=HX0.out;rw[HC4.out];simp[results,Tryz.results9,go_sem,hx]
     exact bZ

structure ChkOk (u:UniL):Prop where
 ng:u.globals.length<=10
 nf:u.funcs.length<=10
 glo:∀j,j<u.globals.length->XF u j=0
 head:∀j,j<u.funcs.length->kf u j=0
 body:∀j,j<u.funcs.length->kX u j=0
 main:∃m,kb u.funcs=some m/\vm u m<=0

theorem kh {n:Nat} {g:Nat->Int} {r:Int×Int} (h:jh n g=some r):r.1≠0:=by
 unfold jh at h;rw[Option.map_eq_some_iff]at h;obtain⟨i,hi,rfl⟩:=h;have:=List.find?_some hi;simpa using this

theorem JI (u:UniL):(chk u=(0,0)/\ChkOk u)\/(chk u).1≠0:=by
 unfold chk chkO
 split
 ·exact .inr bV
 rename_i hs
 cases hg:jh u.globals.length (XF u) with
 | some r=>exact .inr (by simpa using kh hg)
 | none=>
  simp only;cases hh:jh u.funcs.length (kf u) with
  | some r=>exact .inr (by simpa using kh hh)
  | none=>
   simp only;cases hb:jh u.funcs.length (kX u) with
   | some r=>exact .inr (by simpa using kh hb)
   | none=>
    simp only;rw[kg];cases hm:kb u.funcs with
    | none=>exact .inr bV
    | some m=>
     simp only
     split
     ·exact .inr bV
     rename_i hp
     exact .inl ⟨rfl,by omega,by omega,Q8 hg,Q8 hh,Q8 hb,m,hm,by omega⟩
theorem Xh {u:UniL} (h:(chk u).1=0):chk u=(0,0)/\ChkOk u:=(JI u).resolve_right (by simp[h])

theorem ChkOk.fn {u:UniL} (h:ChkOk u) {k:Nat} (hk:k<u.funcs.length):(0<=u.funcs[k].params/\u.funcs[k].params<=6)/\(u.funcs[k].params<=u.funcs[k].regs/\u.funcs[k].regs<=100)/\(1<=u.funcs[k].blocks.length/\u.funcs[k].blocks.length<=40)/\xu u.funcs[k]<=300:=
 Xg ((vS hk).symm.trans (h.head k hk))

theorem same_no {α:Type} [DecidableEq α] {xs ys:List α} {k:Nat} (h1:k<xs.length) (h2:k<ys.length) (h:xs[k]≠ys[k]):decide (xs=ys)=false:=by
 rw[xA];rintro rfl;exact h rfl

theorem ints_any (xs ys:List Int) (p q:Option Addr) (c d:Nat) (w:World) (hx:xs.length<=140737488355328) (hy:ys.length<=140737488355328) (hX:SliceAt w 1 jM p xs) (hY:SliceAt w 1 jM q ys) :
  Calls Tryz.prog 71 #[.slice p xs.length c,.slice q ys.length d] w fun e w'=>e = .returned (.bool (decide (xs=ys)))/\Below w.heap.size w w':=by
 have HX:=q8 hX;have HY:=q8 hY;clear hX hY
 by_cases hl:xs.length=ys.length
 rotate_left
 ·have hlb:((xs.length:Int) != ys.length)=true:=by simp;omega
  have HE:Hid (decide (xs=ys)=false):=by
   show _=_;rw[xA];rintro rfl;exact hl rfl
  clear hl
  go_enter Tryz.func71,Tryz.ntmps71
  go_wp2
  go_ret
  exact⟨by rw[HE.out];rfl,zI _ _⟩
 have hlb:((xs.length:Int) != ys.length)=false:=by simp[hl]
 have hl1:xs.length<=ys.length:=by omega
 have hl2:ys.length<=xs.length:=by omega
 have HL:=q8 hl;clear hl
 go_enter Tryz.func71,Tryz.ntmps71
 go_wp2
 go_loopw [5] (fun i wr=>∃k:Nat,k<=xs.length/\i=Z k/\(∀j (h1:j<xs.length) (h2:j<ys.length),j<k->xs[j]=ys[j])/\Below w.heap.size w wr) (fun i _=>xs.length - (intOf i).toNat)
 case atStart=>exact⟨0,by omega,rfl,fun j _ _ h=>by omega,zI _ _⟩
 case round=>
  obtain⟨k,hk,rfl,hV,hb⟩:=hrel;have HV:=q8 hV;have HB:=q8 hb;clear hV hb
  by_cases hlt:k<xs.length
  rotate_left
  ·go_wp2
   go_ret
   refine⟨?_,HB.out⟩;rw[decide_eq_true (yV HL.out fun j h1 h2=>HV.out j h1 h2 bO)];rfl
  have hlt2:k<ys.length:=by omega
  obtain⟨b1,o1,hp,e0,_⟩:=Km HX.out HB.out hlt;obtain⟨b2,o2,hq,f0,_⟩:=Km HY.out HB.out hlt2;subst hp hq;have g1:(0:Int)<=(k:Int):=by omega
  have g2:(k:Int)<xs.length:=by omega
  have g3:(k:Int)<ys.length:=by omega
  by_cases he:xs[k]=ys[k]
  ·have hne:(xs[k] != ys[k])=false:=(by simp[he]);have HE:=q8 he;clear he
   go_wp2
   go_quiet (fail)
   go_wp2
   refine⟨⟨k+1,by omega,by go_num,fun j h1 h2 hj=>?_,below_drewN HB.out _⟩,by simp[intOf];omega⟩
   by_cases hj2:j<k
   ·exact HV.out j h1 h2 hj2
   obtain rfl:j=k:=(by omega);exact HE.out
  have hne:(xs[k] != ys[k])=true:=by simp[he]
  have HE:=q8 (same_no hlt hlt2 he);clear he
  go_wp2
  go_quiet (fail)
  go_wp2
  go_ret
  exact⟨by rw[HE.out];rfl,below_drewN HB.out _⟩

theorem Kr (g i:Nat):(⟨g,0,none⟩:Addr).add i=⟨g,i,none⟩:=by unfold Addr.add;split<;>simp_all

theorem ki {w:World} {B B':Nat} {e:TypeId} {size:Nat} {v:Value} {n:Nat} {xs:List Value} (h:w.ownsRow B' e size v n xs) (hb:B<=B'):w.ownsRow B e size v n xs:=by
 refine⟨h.1,?_⟩;rcases h.2 with h2|⟨g,cap,cur,h1,h2,h3⟩
 ·exact .inl h2
 exact .inr ⟨g,cap,cur,h1,by omega,h3⟩
theorem vB {w:World} {B:Nat} {e:TypeId} {v:Value} {n:Nat} {xs:List Value} (h:w.ownsRow B e 1 v n xs):∃p c,v = .slice p n c:=by
 rcases h.2 with⟨h1,h2⟩|⟨g,cap,cur,h1,_⟩
 ·exact⟨none,0,by rw[h1,h2]⟩
 exact⟨_,_,h1⟩
theorem Qm {w:World} {B:Nat} {e:TypeId} {p:Option Addr} {n c:Nat} {xs:List Value} (h:w.ownsRow B e 1 (.slice p n c) n xs) {i:Nat} (hi:i<n):∃g,p=some (J g 0)/\B<=g/\g<w.heap.size/\w.cell? (J g i)=xs[i]?:=by
 have hl:xs.length=n:=by simpa using h.1
 rcases h.2 with⟨h1,h2⟩|⟨g,cap,cur,h1,hb,hh,hr⟩
 ·omega
 cases h1;refine⟨g,rfl,hb,(yL.1 hh).1,?_⟩;have:=h.cells (g:=g) rfl i xs[i] (zj _);rw[Kr]at this;rw[this,zj]
theorem Q2 {w w':World} {base:Nat} {e:TypeId} {size:Nat} {v:Value} {n:Nat} {xs:List Value} (h:w.ownsRow base e size v n xs) (hb:Below w.heap.size w w'):w'.ownsRow base e size v n xs:=by
 refine h.kept (row:=none) ⟨hb.os,hb.tape,hb.output,hb.size,fun k hk _=>hb.block k hk⟩ ?_;cases v.ownBlock with
 | none=>exact .inl rfl
 | some k=>exact .inr bV

abbrev Blks:=Nat->Prop
def Apart (S T:Blks):Prop:=∀k,S k->T k->False
theorem Apart.symm {S T:Blks} (h:Apart S T):Apart T S:=fun k a b=>h k b a
theorem Apart.mono {S T S' T':Blks} (h:Apart S T) (h1:∀k,S' k->S k) (h2:∀k,T' k->T k):Apart S' T':=fun k a b=>h k (h1 k a) (h2 k b)

structure Kept (S:Blks) (w w':World):Prop where
 os:w'.os=w.os
 tape:w'.tape=w.tape
 output:w'.output=w.output
 size:w.heap.size<=w'.heap.size
 block:∀k,k<w.heap.size->¬ S k->w'.heap[k]?=w.heap[k]?
theorem Kept.refl (S:Blks) (w:World):Kept S w w:=⟨rfl,rfl,rfl,zK _,fun _ _ _=>rfl⟩
theorem Kept.trans {S S':Blks} {a b c:World} (h:Kept S a b) (k:Kept S' b c) (hs:∀i,i<a.heap.size->S' i->S i):Kept S a c:=
 ⟨k.os.trans h.os,k.tape.trans h.tape,k.output.trans h.output,yv h.size k.size,fun i hi hn=>(k.block i (xB hi h.size) (fun e=>hn (hs i hi e))).trans (h.block i hi hn)⟩
theorem Kept.mono {S S':Blks} {a b:World} (h:Kept S a b) (hs:∀i,i<a.heap.size->S i->S' i):Kept S' a b:=
 ⟨h.os,h.tape,h.output,h.size,fun i hi hn=>h.block i hi (fun e=>hn (hs i hi e))⟩
theorem Kept.below {S:Blks} {a b:World} (h:Kept S a b) {B:Nat} (hB:B<=a.heap.size) (hs:∀i,S i->B<=i):Below B a b:=
 ⟨h.os,h.tape,h.output,h.size,fun k hk=>h.block k bO (fun e=>by have:=hs k e;omega)⟩
theorem Kept.of_below {S:Blks} {a b:World} (h:Below a.heap.size a b):Kept S a b:=⟨h.os,h.tape,h.output,h.size,fun k hk _=>h.block k hk⟩
theorem Kept.of_grown {S:Blks} {a b:World} {r:Option Nat} (h:a.grownBy b r) (hr:∀g,r=some g->S g):Kept S a b:=
 ⟨h.os,h.tape,h.output,h.size,fun k hk hn=>h.block k hk (fun e=>hn (hr k e.symm))⟩
theorem Kept.setCell {S:Blks} {a b:World} (h:Kept S a b) {p:Addr} (hp:S p.block) (v:Value):Kept S a (b.setCell p v):=
 ⟨h.os,h.tape,h.output,by rw[yK];exact h.size,fun k hk hn=>(zJ b p v k (fun e=>hn (by rw[e];exact hp))).trans (h.block k hk hn)⟩
theorem Kept.alloc {S:Blks} {a b:World} (h:Kept S a b) (o:Obj):Kept S a (b.alloc o):=
 ⟨h.os,h.tape,h.output,by have:=h.size;simp;omega,fun k hk hn=>(xG b o k (xB hk h.size)).trans (h.block k hk hn)⟩
theorem Kept.drew {S:Blks} {a b:World} (h:Kept S a b):Kept S a b.drew:=⟨h.os,h.tape,h.output,h.size,h.block⟩
theorem Kept.cell {S:Blks} {a b:World} (h:Kept S a b) {p:Addr} (hp:p.block<a.heap.size) (hn:¬ S p.block):b.cell? p=a.cell? p:=zN (h.block _ hp hn)
theorem Kept.frozen {S:Blks} {a b:World} (h:Kept S a b) {p:Addr} (hp:p.block<a.heap.size) (hn:¬ S p.block):b.frozen? p=a.frozen? p:=yB (h.block _ hp hn)

abbrev ElemO (α:Type):=World->List Value->α->Blks->Prop
def kY {α:Type} (R:ElemO α):Prop:=∀w w' cs x S,R w cs x S->(∀k,S k->w'.heap[k]?=w.heap[k]?)->w.heap.size<=w'.heap.size->R w' cs x S
def InB (w:World) (S:Blks):Prop:=∀k,S k->k<w.heap.size
theorem InB.mono {w w':World} {S:Blks} (h:InB w S) (hs:w.heap.size<=w'.heap.size):InB w' S:=fun k hk=>xB (h k hk) hs

structure SlW {α:Type} (e:TypeId) (size:Nat) (R:ElemO α) (w:World) (v:Value) (xs:List α) (S:Blks) (cs:Nat->List Value) (T:Nat->Blks):Prop where
 own:w.ownsRow 0 e size v xs.length ((List.range xs.length).flatMap cs)
 len:∀i,i<xs.length->(cs i).length=size
 one:∀i,i<xs.length->∀u∈cs i,u.oneCell'=true
 el:∀i (h:i<xs.length),R w (cs i) xs[i] (T i)
 two:∀i j,i<xs.length->j<xs.length->i≠j->Apart (T i) (T j)
 off:∀i,i<xs.length->∀g,v.ownBlock=some g->¬ T i g
 blk:∀g,v.ownBlock=some g->S g
 sub:∀i,i<xs.length->∀k,T i k->S k
 inb:InB w S
def SlO {α:Type} (e:TypeId) (size:Nat) (R:ElemO α) (w:World) (v:Value) (xs:List α) (S:Blks):Prop:=∃cs T,SlW e size R w v xs S cs T

section
variable {α : Type} {e : TypeId} {size : Nat} {R : ElemO α} {w w' : World} {v : Value} {xs : List α} {S : Blks}
theorem SlO.nil (e:TypeId) (size:Nat) (R:ElemO α) (w:World) {S:Blks} (h:InB w S):SlO e size R w (.slice none 0 0) [] S:=
 ⟨fun _=>[],fun _ _=>False,World.ownsRow_nil _ _ _ _,fun i h=>(by simp at h),fun i h=>(by simp at h),fun i h=>(by simp at h),fun i j h=>(by simp at h),fun i h=>(by simp at h),fun g h=>(by cases h),fun i h=>(by simp at h),h⟩
theorem SlO.inb (h:SlO e size R w v xs S):InB w S:=by obtain⟨_,_,h⟩:=h;exact h.inb
theorem SlO.val (h:SlO e size R w v xs S):∃p c,v = .slice p xs.length c/\(p=none->xs.length=0/\c=0)/\xs.length<=c:=by
 obtain⟨_,_,h⟩:=h;rcases h.own.2 with⟨h1,h2⟩|⟨g,cap,cur,h1,_,_,hc,_⟩
 ·exact⟨none,0,by rw[h1,h2],fun _=>⟨h2,rfl⟩,by omega⟩
 exact⟨_,_,h1,fun e=>(by cases e),hc⟩
theorem SlO.loc (hR:kY R) (h:SlO e size R w v xs S) (hk:∀k,S k->w'.heap[k]?=w.heap[k]?) (hs:w.heap.size<=w'.heap.size):SlO e size R w' v xs S:=by
 obtain⟨cs,T,h⟩:=h;refine⟨cs,T,?_,h.len,h.one,fun i hi=>hR _ _ _ _ _ (h.el i hi) (fun k hk2=>hk k (h.sub i hi k hk2)) hs,h.two,h.off,h.blk,h.sub,h.inb.mono hs⟩;refine⟨h.own.1,?_⟩;rcases h.own.2 with h1|⟨g,cap,cur,hv,hb,hg,r⟩
 ·exact .inl h1
 exact .inr ⟨g,cap,cur,hv,hb,by rw[hk g (h.blk g (by rw[hv];rfl))];exact hg,r⟩
theorem SlO.kept {U:Blks} (hR:kY R) (h:SlO e size R w v xs S) (hk:Kept U w w') (ha:Apart U S):SlO e size R w' v xs S:=
 h.loc hR (fun k hs=>hk.block k (h.inb k hs) (fun hu=>ha k hu hs)) hk.size
theorem SlO.below (hR:kY R) (h:SlO e size R w v xs S) (hb:Below w.heap.size w w'):SlO e size R w' v xs S:=h.kept (U:=fun _=>False) hR (Kept.of_below hb) (fun _ h _=>h)
theorem SlO.grow (h:SlO e size R w v xs S) {S':Blks} (hs:∀k,S k->S' k) (hi:InB w S'):SlO e size R w v xs S':=by
 obtain⟨cs,T,h⟩:=h;exact⟨cs,T,h.own,h.len,h.one,h.el,h.two,h.off,fun g hg=>hs g (h.blk g hg),fun i hi k hk=>hs k (h.sub i hi k hk),hi⟩
end

theorem zR {cs:Nat->List Value} {size:Nat}:∀n,(∀i,i<n->(cs i).length=size)->((List.range n).flatMap cs).length=n*size
 | 0,_=>by simp
 | n+1,h=>by
  rw[yt,yn,yN,zR n (fun i hi=>h i bO),Nat.add_mul];simp[h n bO]
theorem xZ {cs:Nat->List Value} {size:Nat}:∀n,(∀i,i<n->(cs i).length=size)->∀i j,i<n->j<size->((List.range n).flatMap cs)[i*size+j]?=(cs i)[j]?
 | 0,_,i,j,hi,hj=>by omega
 | n+1,h,i,j,hi,hj=>by
  have hl:=zR n (fun i hi=>h i bO);rw[yt,yn];rcases yq i n with g|g
  ·have:i*size+j<n*size:=by
    have:(i+1)*size<=n*size:=ye _ g;rw[Nat.add_mul]at this;omega
   rw[List.getElem?_append_left (by rw[hl];exact this),xZ n (fun i hi=>h i bO) i j g hj]
  obtain rfl:i=n:=by omega
  rw[List.getElem?_append_right (by rw[hl];omega),hl];simp
theorem XK {n size:Nat} {cs ds:Nat->List Value} (_h1:∀i,i<n->(cs i).length=size) (h2:∀i,i<n->(ds i).length=size) (hsz:0<size) {l:List Value} (hl:l.length=n*size) (h:∀i j,i<n->j<size->l[i*size+j]?=(ds i)[j]?):l=(List.range n).flatMap ds:=by
 refine List.ext_getElem? fun k=>?_;rcases yq k (n*size)with g|g
 ·have hi:k / size<n:=Nat.div_lt_of_lt_mul (by rw[Nat.mul_comm];exact g);have hj:=Nat.mod_lt k hsz;have e:k=k / size*size+k % size:=by rw[Nat.mul_comm];exact(Nat.div_add_mod k size).symm
  rw[e,xZ n h2 _ _ hi hj];exact h _ _ hi hj
 rw[yk bO,yk (by rw[zR n h2];exact g)]

def RowPut (w w':World) (e:TypeId) (g o size:Nat) (cs:List Value):Prop:=
 ∃cur cur':Array Value,w.heap[g]?=some (.cells cur e (0,0))/\w'.heap[g]?=some (.cells cur' e (0,0))/\cur'.size=cur.size/\(∀j,j<size->cur'[o+j]?=cs[j]?)/\∀j,(j<o\/o+size<=j)->cur'[j]?=cur[j]?
theorem RowPut.same {w w':World} {e:TypeId} {g o size:Nat} {cs:List Value} {cur:Array Value} (h:w.heap[g]?=some (.cells cur e (0,0))) (h2:w'.heap[g]?=w.heap[g]?) (hc:∀j,j<size->w.cell? (J g (o+j))=cs[j]?):RowPut w w' e g o size cs:=
 ⟨cur,cur,h,h2.trans h,rfl,fun j hj=>by rw[←hc j hj,cell_of_row w g _ cur e (0,0) h],fun _ _=>rfl⟩
theorem VC {w:World} {g:Nat} {cur:Array Value} {e:TypeId} (h:w.heap[g]?=some (.cells cur e (0,0))) (i:Nat) (v:Value):(w.setCell (J g i) v).heap[g]?=some (.cells (cur.setIfInBounds i v) e (0,0)):=by
 unfold World.setCell;rw[Array.getElem?_modify,zZ rfl,h];rfl
theorem RowPut.set {w w':World} {e:TypeId} {g o size j:Nat} {cs:List Value} (h:RowPut w w' e g o size cs) (hl:cs.length=size) (hj:j<size) (v:Value):RowPut w (w'.setCell (J g (o+j)) v) e g o size (cs.set j v):=by
 obtain⟨cur,cur',h1,h2,h3,h4,h5⟩:=h;refine⟨cur,cur'.setIfInBounds (o+j) v,h1,VC h2 _ v,by simpa using h3,fun k hk=>?_,fun k hk=>?_⟩
 ·rw[Array.getElem?_setIfInBounds,List.getElem?_set]
  have hlt:o+j<cur'.size:=by
   rcases yq (o+j) cur'.size with a|a
   ·exact a
   have:=h4 j hj;rw[Array.getElem?_eq_none a,zj bO]at this;cases this
  by_cases e1:j=k
  ·subst e1;rw[zZ rfl,zZ rfl,zZ hlt,zZ bO]
  rw[zQ bO,zQ e1];exact h4 k hk
 rw[Array.getElem?_setIfInBounds,zQ bO];exact h5 k hk

section
variable {α : Type} {e : TypeId} {size : Nat} {R : ElemO α} {w : World} {v : Value} {xs : List α} {S : Blks}
theorem SlO.focus (hR:kY R) (hsz:0<size) (h:SlO e size R w v xs S) {i:Nat} (hi:i<xs.length):∃g c cs T,v = .slice (some (J g 0)) xs.length c/\g<w.heap.size/\S g/\cs.length=size/\R w cs xs[i] T/\¬ T g/\(∀k,T k->S k)/\
  (∀j,j<size->w.cell? (J g (i*size+j))=cs[j]?)/\(∀o,w.frozen? (J g o)=false)/\(∃cur,w.heap[g]?=some (.cells cur e (0,0)))/\
  ∀(w':World) (cs':List Value) (x':α) (T':Blks),RowPut w w' e g (i*size) size cs'->cs'.length=size->(∀u∈cs',u.oneCell'=true)->w.heap.size<=w'.heap.size->(∀k,S k->¬ T k->k≠g->w'.heap[k]?=w.heap[k]?)->
   R w' cs' x' T'->(∀k,T' k->(T k\/w.heap.size<=k)/\k<w'.heap.size)->SlO e size R w' v (xs.set i x') (fun k=>S k\/T' k):=by
 obtain⟨cs,T,h⟩:=h;rcases h.own.2 with⟨_,h2⟩|⟨g,cap,cur,hv,hb,hg,hc1,hc2,hc3,htk⟩
 ·omega
 have hgs:=(yL.1 hg).1
 have hcell:∀m j,m<xs.length->j<size->cur[m*size+j]?=(cs m)[j]?:=fun m j hm hj=>by
  have hlt:m*size+j<xs.length*size:=by
   have:(m+1)*size<=xs.length*size:=ye _ hm;rw[Nat.add_mul]at this;omega
  rw[←xZ xs.length h.len m j hm hj,←htk,List.getElem?_take_of_lt hlt,xJ]
 have hob:v.ownBlock=some g:=by rw[hv];rfl
 refine⟨g,cap,cs i,T i,hv,hgs,h.blk g hob,h.len i hi,h.el i hi,h.off i hi g hob,h.sub i hi,fun j hj=>?_,fun o=>(blk hg).2 o,⟨cur,hg⟩,?_⟩
 ·rw[cell_of_row w g _ cur e (0,0) hg];exact hcell i j hi hj
 rintro w' cs' x' T' ⟨cu,cur',p1,p2,p3,p4,p5⟩ hl' h1' hs hk hR' hT';rw[hg]at p1;cases p1;have hlen:(xs.set i x').length=xs.length:=by simp
 refine⟨fun m=>if m=i then cs' else cs m,fun m=>if m=i then T' else T m,?_,fun m hm=>?_,fun m hm=>?_,fun m hm=>?_,fun m n hm hn hmn=>?_,fun m hm g' hg'=>?_,fun g' hg'=>.inl (h.blk g' hg'),fun m hm k hk2=>?_,?_⟩
 ·rw[hlen]
  have hlc:∀m,m<xs.length->(if m=i then cs' else cs m).length=size:=fun m hm=>by
   split
   ·exact hl'
   exact h.len m hm
  refine⟨by rw[zR _ hlc],.inr ⟨g,cap,cur',hv,hb,p2,hc1,hc2,by rw[p3];exact hc3,?_⟩⟩;have hle:xs.length*size<=cap*size:=ye _ hc1;refine XK h.len hlc hsz bW fun m j hm hj=>?_
  have hlt:m*size+j<xs.length*size:=by
   have:(m+1)*size<=xs.length*size:=ye _ hm;rw[Nat.add_mul]at this;omega
  rw[List.getElem?_take_of_lt hlt,xJ]
  by_cases e1:m=i
  ·subst e1;rw[zZ rfl];exact p4 j hj
  rw[zQ e1,p5 _ ?_]
  ·exact hcell m j hm hj
  rcases yq m i with a|a
  ·left;have:(m+1)*size<=i*size:=ye _ a;rw[Nat.add_mul]at this;omega
  right;have:(i+1)*size<=m*size:=ye _ bO;rw[Nat.add_mul]at this;omega
 ·rw[hlen]at hm
  split
  ·exact hl'
  exact h.len m hm
 ·rw[hlen]at hm
  split
  ·exact h1'
  exact h.one m hm
 ·have hm2:m<xs.length:=by rw[←hlen];exact hm
  by_cases e1:m=i
  ·subst e1;simpa using hR'
  simp only[zQ e1,List.getElem_set_ne (Ne.symm e1)];refine hR _ _ _ _ _ (h.el m hm2) (fun k hk2=>hk k (h.sub m hm2 k hk2) (fun hk3=>h.two m i hm2 hi e1 k hk2 hk3) (fun e2=>h.off m hm2 g hob (by rw[←e2];exact hk2))) hs
 ·rw[hlen]at hm hn
  have key:∀m,m<xs.length->m≠i->Apart T' (T m):=fun m hm hmi k a b=>by
   rcases (hT' k a).1 with c|c
   ·exact h.two m i hm hi hmi k b c
   have:=h.inb k (h.sub m hm k b);omega
  split
  ·next e1=>
   rw[zQ bO];exact key n hn bO
  next e1=>
  split
  ·exact(key m hm e1).symm
  exact h.two m n hm hn hmn
 ·rw[hlen]at hm;rw[hob]at hg';cases hg'
  split
  ·intro a;rcases (hT' _ a).1 with c|c
   ·exact h.off i hi _ hob c
   omega
  exact h.off m hm _ hob
 ·rw[hlen]at hm
  split at hk2
  ·exact .inr hk2
  exact .inl (h.sub m hm k hk2)
 rintro k (a|a)
 ·exact(h.inb.mono hs) k a
 exact(hT' k a).2
theorem SlW.snoc {w':World} {v':Value} {c:List Value} {x:α} {T:Blks} {cs:Nat->List Value} {U:Nat->Blks} (hR:kY R) (h:SlW e size R w v xs S cs U) (hx:R w c x T) (hl:c.length=size) (h1:∀u∈c,u.oneCell'=true) (hT:Apart S T) (hTi:InB w T)
  (hown:w'.ownsRow 0 e size v' (xs.length+1) ((List.range xs.length).flatMap cs++c)) (hg:w.grownBy w' v.ownBlock) (hat:v'.ownBlock=v.ownBlock\/v'.ownBlock=some w.heap.size) :
  SlO e size R w' v' (xs++[x]) (fun k=>S k\/T k\/v'.ownBlock=some k):=by
 have hlen:(xs++[x]).length=xs.length+1:=by simp
 have hin:∀g,v'.ownBlock=some g->0<=g/\g<w'.heap.size:=hown.lt
 have hoff:∀k g,(S k/\v.ownBlock≠some k)\/T k->v'.ownBlock=some g->k≠g:=fun k g hk hg' ek=>by
  subst ek;rcases hat with a|a
  ·rcases hk with⟨_,b⟩|b
   ·exact b (a.symm.trans hg')
   exact hT k (h.blk k (a.symm.trans hg')) b
  have hks:k<w.heap.size:=by
   rcases hk with⟨b,_⟩|b
   ·exact h.inb k b
   exact hTi k b
  rw[a]at hg';injection hg' with hg';omega
 have hkeep:∀k,k<w.heap.size->v.ownBlock≠some k->w'.heap[k]?=w.heap[k]?:=fun k hk hn=>hg.block k hk (fun e1=>hn e1.symm);refine⟨fun m=>if m=xs.length then c else cs m,fun m=>if m=xs.length then T else U m,?_,fun m hm=>?_,fun m hm=>?_,fun m hm=>?_,fun m n hm hn hmn=>?_,fun m hm g' hg'=>?_,fun g' hg'=>.inr (.inr hg'),fun m hm k hk2=>?_,?_⟩
 ·rw[hlen,yt,yn]
  have e1:(List.range xs.length).flatMap (fun m=>if m=xs.length then c else cs m)=(List.range xs.length).flatMap cs:=by
   unfold List.flatMap;congr 1;refine ya fun m hm=>?_;have:=yR.1 hm;rw[zQ bO]
  rw[e1];simpa using hown
 ·split
  ·exact hl
  exact h.len m bO
 ·split
  ·exact h1
  exact h.one m bO
 ·by_cases e1:m=xs.length
  ·subst e1;simp only[if_true];have e2:(xs++[x])[xs.length]=x:=(by simp);rw[e2];exact hR _ _ _ _ _ hx (fun k hk=>hkeep k (hTi k hk) (fun e3=>hT k (h.blk k e3) hk)) hg.size
  have hm2:m<xs.length:=by omega
  simp only[zQ e1,List.getElem_append_left hm2];exact hR _ _ _ _ _ (h.el m hm2) (fun k hk=>hkeep k (h.inb k (h.sub m hm2 k hk)) (fun e3=>h.off m hm2 k e3 hk)) hg.size
 ·split
  ·next e1=>
   rw[zQ bO];exact fun k a b=>hT k (h.sub n bO k b) a
  next e1=>
  split
  ·exact fun k a b=>hT k (h.sub m bO k a) b
  exact h.two m n bO bO hmn
 ·split
  ·exact fun a=>hoff g' g' (.inr a) hg' rfl
  next e1=>
  intro a;refine hoff g' g' (.inl ⟨h.sub m bO g' a,fun e3=>h.off m bO g' e3 a⟩) hg' rfl
 ·split at hk2
  ·exact .inr (.inl hk2)
  exact .inl (h.sub m bO k hk2)
 rintro k (a|a|a)
 ·exact(h.inb.mono hg.size) k a
 ·exact(hTi.mono hg.size) k a
 exact(hin k a).2
end
def Snoc {α:Type} (e:TypeId) (size:Nat) (R:ElemO α) (w:World) (xs:List α) (S T:Blks) (v':Value) (w':World):Prop:=
 ∃S':Blks,SlO e size R w' v' xs S'/\(∀k,S' k->S k\/T k\/w.heap.size<=k)/\Kept S w w'
section
variable {P : Program} {α : Type} {R : ElemO α}
theorem Q3 (w:World) (t ty e:TypeId) (i:TypeInfo) (z:Value) (size bytes:Nat) (ht:P.underlying t=some (.slice e)) (hi:P.info? e=some i) (hz:i.zero=some z)
  (hsize:i.size=size) (hby:i.bytes=bytes) (hzs:z.cells.size=size) (hsz:0<size) (hR:kY R) {v:Value} {xs:List α} {S T:Blks} (hO:SlO e size R w v xs S)
  (ad:Addr) (cc:Nat) (c:List Value) (x:α) (hl:c.length=size) (hnews:∀j u,c[j]?=some u->w.cell? (ad.add j)=some u) (h1:∀u∈c,u.oneCell'=true) (hx:R w c x T) (hT:Apart S T) (hTi:InB w T)
  (h63:xs.length+1<=maxLen) (hbytes:(xs.length+1)*bytes<=140737488355328) :
  ∃v' w',(Builtin.append_ #[t,t] ty #[v,.slice (some ad) 1 cc]).run P w = .ok v' w'/\Snoc e size R w (xs++[x]) S T v' w':=by
 obtain⟨cs,U,h⟩:=hO;obtain⟨v',w',hr,h2,h3,_,h5⟩:=run_append_own_at (P:=P) w 0 t ty e i z size bytes ht hi hz hsize hby hzs hsz v _ _ h.own ad 1 cc c (by rw[hl,Nat.one_mul]) hnews h1 h63 hbytes (Nat.zero_le _);refine⟨v',w',hr,_,h.snoc hR hx hl h1 hT hTi h2 h3 h5,fun k hk=>?_,Kept.of_grown h3 h.blk⟩;rcases hk with a|a|a
 ·exact .inl a
 ·exact .inr (.inl a)
 rcases h5 with b|b
 ·exact .inl (h.blk k (b.symm.trans a))
 rw[b]at a;injection a with a;exact .inr (.inr bO)
theorem qH (w:World) {ops:Array Oper} {rest:List Oper} {o:Oper} {a:Act} {Q:Exit->Act->World->Prop} (hgd:o.guard=none) (s x:Operand) (t:TypeId)
  (ho:o.op = .call { callee:=.builtin .append,args:=#[s,x],argTypes:=#[t,t] })
  (e:TypeId) (i:TypeInfo) (z:Value) (size bytes:Nat) (ht:P.underlying t=some (.slice e)) (hi:P.info? e=some i) (hz:i.zero=some z)
  (hsize:i.size=size) (hby:i.bytes=bytes) (hzs:z.cells.size=size) (hsz:0<size) (hR:kY R)
  {v:Value} {xs:List α} {S T:Blks} (hs:a.eval s=v) (hO:SlO e size R w v xs S)
  (ad:Addr) (cc:Nat) (c:List Value) (y:α) (hx:a.eval x = .slice (some ad) 1 cc) (hl:c.length=size) (hnews:∀j u,c[j]?=some u->w.cell? (ad.add j)=some u) (h1:∀u∈c,u.oneCell'=true) (hy:R w c y T) (hT:Apart S T) (hTi:InB w T)
  (h63:xs.length+1<=maxLen) (hbytes:(xs.length+1)*bytes<=140737488355328)
  (h:∀v' w',Snoc e size R w (xs++[y]) S T v' w'->wpList P ops Q rest (a.put o.dst v') w') :
  wpList P ops Q (o::rest) a w:=by
 refine wpList_plain hgd fun K hK=>?_;obtain⟨v',w',hr,h2⟩:=Q3 (P:=P) w t o.type e i z size bytes ht hi hz hsize hby hzs hsz hR hO ad cc c y hl hnews h1 hy hT hTi h63 hbytes;unfold Oper.wp execOp;simp only[ho,resolve,invoke,builtin,Sem.run_bind,Sem.run_pure,Result.andThen_ok,List.map_toArray,yS,yw,hs,hx,hr];exact hK _ _ (h v' w' h2)
end
theorem zW (w:World) (c:List Value) (t:TypeId) {b:Nat} (hb:b=w.heap.size):∀j u,c[j]?=some u->(w.alloc (.cells c.toArray t)).cell? ((⟨b,0,none⟩:Addr).add j)=some u:=by
 intro j u hj;subst hb;rw[Kr,cell_of_row _ _ j c.toArray t (0,0) (heap_alloc_new w _)];simpa using hj

def jV:ElemO (Bool×Int):=fun _ cs v _=>kc cs v
def IntO:ElemO Int:=fun _ cs n _=>jM cs n
structure SlQ {α:Type} (e:TypeId) (size bytes:Nat) (R:ElemO α) (w:World) (v:Value) (xs:List α) (S:Blks):Prop where
 sl:SlO e size R w v xs S
 bd:xs.length*bytes<=reachBytes
def InsO:ElemO InsL:=fun w cs i S=>∃v,cs=[Z i.op,Z i.dst,.bool i.ar,Z i.an,.bool i.br,Z i.bn,Z i.fn,v]/\
 I64 i.op/\I64 i.dst/\I64 i.an/\I64 i.bn/\I64 i.fn/\SlQ 44 2 16 jV w v i.args S
def PhiO:ElemO PhiL:=fun w cs x S=>∃v,cs=[Z x.dst,v]/\I64 x.dst/\SlQ 44 2 16 jV w v x.src S
def BlkO:ElemO BlkL:=fun w cs x S=>∃v1 v2 v3 S1 S2 S3,cs=[v1,v2,Z x.fin.kind,.bool x.fin.onr,Z x.fin.onn,v3]/\I64 x.fin.kind/\I64 x.fin.onn/\
 SlQ 84 2 32 PhiO w v1 x.phis S1/\SlQ 51 8 80 InsO w v2 x.list S2/\SlQ 3 1 8 IntO w v3 x.fin.to S3/\Apart S1 S2/\Apart S1 S3/\Apart S2 S3/\(∀k,S1 k->S k)/\(∀k,S2 k->S k)/\∀k,S3 k->S k
def FunO:ElemO FunL:=fun w cs x S=>∃v,cs=[.string x.name,Z x.params,Z x.regs,v]/\x.name.size<=reachBytes/\I64 x.params/\I64 x.regs/\SlQ 49 6 96 BlkO w v x.blocks S
def GloO:ElemO GloL:=fun w cs x S=>∃v,cs=[.string x.name,Z x.size,v]/\x.name.size<=reachBytes/\I64 x.size/\SlQ 3 1 8 IntO w v x.init S

theorem zq:kY jV:=fun _ _ _ _ _ h _ _=>h
theorem xk:kY IntO:=fun _ _ _ _ _ h _ _=>h
theorem SlQ.loc {α:Type} {e:TypeId} {size bytes:Nat} {R:ElemO α} {w w':World} {v:Value} {xs:List α} {S T:Blks} (hR:kY R) (h:SlQ e size bytes R w v xs S) (hs:∀k,S k->T k) (hk:∀k,T k->w'.heap[k]?=w.heap[k]?) (hz:w.heap.size<=w'.heap.size):SlQ e size bytes R w' v xs S:=
 ⟨h.sl.loc hR (fun k g=>hk k (hs k g)) hz,h.bd⟩
theorem qT:kY InsO:=fun w w' cs x S h hk hs=>by
 obtain⟨v,h0,h1,h2,h3,h4,h5,h6⟩:=h;exact⟨v,h0,h1,h2,h3,h4,h5,h6.loc zq (fun _ g=>g) hk hs⟩
theorem x8:kY PhiO:=fun w w' cs x S h hk hs=>by
 obtain⟨v,h0,h1,h6⟩:=h;exact⟨v,h0,h1,h6.loc zq (fun _ g=>g) hk hs⟩
theorem qM:kY BlkO:=fun w w' cs x S h hk hs=>by
 obtain⟨v1,v2,v3,S1,S2,S3,h0,h1,h2,h3,h4,h5,a1,a2,a3,g1,g2,g3⟩:=h;exact⟨v1,v2,v3,S1,S2,S3,h0,h1,h2,h3.loc x8 g1 hk hs,h4.loc qT g2 hk hs,h5.loc xk g3 hk hs,a1,a2,a3,g1,g2,g3⟩
theorem qK:kY FunO:=fun w w' cs x S h hk hs=>by
 obtain⟨v,h0,h1,h2,h3,h6⟩:=h;exact⟨v,h0,h1,h2,h3,h6.loc qM (fun _ g=>g) hk hs⟩
theorem xl:kY GloO:=fun w w' cs x S h hk hs=>by
 obtain⟨v,h0,h1,h2,h6⟩:=h;exact⟨v,h0,h1,h2,h6.loc xk (fun _ g=>g) hk hs⟩

theorem SlF.outC {α:Type} {w:World} {size bytes:Nat} {R:List Value->α->Prop} {v:Value} {xs:List α} (h:SlF w size bytes R v xs):∃p c,v = .slice p xs.length c/\(p=none->xs.length=0/\c=0)/\xs.length<=c/\SliceAt w size R p xs:=by
 obtain⟨p,c,h1,h2,h3,_,h5⟩:=h;exact⟨p,c,h1,h2,h3,h5⟩
theorem SlF.bdC {α:Type} {w:World} {size bytes:Nat} {R:List Value->α->Prop} {v:Value} {xs:List α} (h:SlF w size bytes R v xs):xs.length*bytes<=reachBytes:=by
 obtain⟨p,c,_,_,_,h4,_⟩:=h;exact h4
/-! what is owned reads as data -/
theorem SlO.read {α:Type} {e:TypeId} {size:Nat} {R:ElemO α} {R':List Value->α->Prop} {w:World} {v:Value} {xs:List α} {S:Blks} (hR:kY R) (hsz:0<size) (h:SlO e size R w v xs S) (hr:∀cs x T,R w cs x T->R' cs x) :
  ∃p c,v = .slice p xs.length c/\(p=none->xs.length=0/\c=0)/\xs.length<=c/\SliceAt w size R' p xs:=by
 obtain⟨p,c,hv,h1,h2⟩:=h.val;refine⟨p,c,hv,h1,h2,?_⟩;rcases Nat.eq_zero_or_pos xs.length with h0|h0
 ·exact .inl (yd.1 h0)
 obtain⟨g,c',cs,T,hv',_⟩:=h.focus hR hsz h0;rw[hv]at hv';injection hv' with hp _ _;subst hp;refine .inr ⟨g,0,rfl,fun i hi=>?_⟩;obtain⟨g2,c2,cs2,T2,hv2,_,_,hl,hx,_,_,hc,_⟩:=h.focus hR hsz hi;rw[hv]at hv2;injection hv2 with hp2 _ _;cases hp2;refine⟨cs2,hl,fun j hj=>?_,hr _ _ _ hx⟩;rw[yx];exact hc j hj
theorem SlQ.read {α:Type} {e:TypeId} {size bytes:Nat} {R:ElemO α} {R':List Value->α->Prop} {w:World} {v:Value} {xs:List α} {S:Blks} (hR:kY R) (hsz:0<size) (h:SlQ e size bytes R w v xs S) (hr:∀cs x T,R w cs x T->R' cs x):SlF w size bytes R' v xs:=by
 obtain⟨p,c,hv,h1,h2,h3⟩:=h.sl.read hR hsz hr;exact⟨p,c,hv,h1,h2,h.bd,h3⟩
theorem InsO.read {w:World} {cs:List Value} {x:InsL} {S:Blks} (h:InsO w cs x S):InsR w cs x:=by
 obtain⟨v,h0,h1,h2,h3,h4,h5,h6⟩:=h;exact⟨v,h0,h1,h2,h3,h4,h5,h6.read zq bO fun _ _ _ h=>h⟩
theorem PhiO.read {w:World} {cs:List Value} {x:PhiL} {S:Blks} (h:PhiO w cs x S):PhiR w cs x:=by
 obtain⟨v,h0,h1,h6⟩:=h;exact⟨v,h0,h1,h6.read zq bO fun _ _ _ h=>h⟩
theorem BlkO.read {w:World} {cs:List Value} {x:BlkL} {S:Blks} (h:BlkO w cs x S):BlkR w cs x:=by
 obtain⟨v1,v2,v3,S1,S2,S3,h0,h1,h2,h3,h4,h5,_⟩:=h;exact⟨v1,v2,v3,h0,h1,h2,h3.read x8 bO fun _ _ _ h=>h.read,h4.read qT bO fun _ _ _ h=>h.read,h5.read xk bO fun _ _ _ h=>h⟩
theorem FunO.read {w:World} {cs:List Value} {x:FunL} {S:Blks} (h:FunO w cs x S):FunR w cs x:=by
 obtain⟨v,h0,h1,h2,h3,h6⟩:=h;exact⟨v,h0,h1,h2,h3,h6.read qM bO fun _ _ _ h=>h.read⟩
theorem GloO.read {w:World} {cs:List Value} {x:GloL} {S:Blks} (h:GloO w cs x S):GloR w cs x:=by
 obtain⟨v,h0,h1,h2,h6⟩:=h;exact⟨v,h0,h1,h2,h6.read xk bO fun _ _ _ h=>h⟩

theorem SlO.flat {α:Type} {e:TypeId} {size base:Nat} {R:ElemO α} {w:World} {v:Value} {xs:List α} {cs:Nat->List Value} (h:w.ownsRow base e size v xs.length ((List.range xs.length).flatMap cs)) (hl:∀i,i<xs.length->(cs i).length=size) (h1:∀i,i<xs.length->∀u∈cs i,u.oneCell'=true)
  (hx:∀i (hi:i<xs.length),R w (cs i) xs[i] (fun _=>False)):SlO e size R w v xs (fun k=>v.ownBlock=some k):=by
 refine⟨cs,fun _ _=>False,⟨ki h (Nat.zero_le _),hl,h1,hx,fun _ _ _ _ _ _ a _=>a,fun _ _ _ _ a=>a,fun _ hg=>hg,fun _ _ _ a=>a.elim,fun k hk=>(h.lt k hk).2⟩⟩

def LoB (B:Nat) (S:Blks):Prop:=∀k,S k->B<=k
def Qn (xs:List (Bool×Int)) (i:Nat):List Value:=[.bool (xs.getD i (false,0)).1,Z (xs.getD i (false,0)).2]
def Zt (xs:List Int) (i:Nat):List Value:=[Z (xs.getD i 0)]
theorem vU:(Tryz.prog.info? 44).map (fun i=>(i.zero,i.size,i.bytes))=some (some (.agg #[.bool false,Z 0]),2,16):=by kernel_rfl
theorem Ks:(Tryz.prog.info? 3).map (fun i=>(i.zero,i.size,i.bytes))=some (some (Z 0),1,8):=by kernel_rfl
theorem vV {w:World} {e:TypeId} {B g size:Nat} (h:w.heap[g]?=some (.cells #[] e (0,0))) (hB:B<=g):w.ownsRow B e size (.slice (some (J g 0)) 0 0) 0 []:=
 ⟨by simp,.inr ⟨g,0,#[],rfl,hB,h,by simp,by simp,by simp,by simp⟩⟩
theorem XL (xs:List (Bool×Int)) (i:Nat):∀u∈Qn xs i,u.oneCell'=true:=by
 intro u hu;simp only[Qn,yC,yG,yl]at hu;rcases hu with rfl|rfl<;>rfl
theorem VD (xs:List Int) (i:Nat):∀u∈Zt xs i,u.oneCell'=true:=by
 intro u hu;simp only[Zt,yC,yG,yl]at hu;rw[hu];rfl
theorem ji {cs:Nat->List Value} {n:Nat} {P:Value->Prop} (h:∀i,i<n->∀u∈cs i,P u):∀u∈(List.range n).flatMap cs,P u:=by
 intro u hu;obtain⟨i,hi,h2⟩:=yU.1 hu;exact h i (yR.1 hi) u h2
theorem vC (b o j:Nat):(⟨b,o,none⟩:Addr).add j=⟨b,o+j,none⟩:=by
 by_cases hz:j=0<;>simp[Addr.add,hz]
theorem QO {α:Type} {w:World} {size:Nat} {R:List Value->α->Prop} {a:Addr} {xs:List α} {cs:Nat->List Value} (h:SliceAt w size R (some a) xs) (hsz:0<size) (hl:∀i,i<xs.length->(cs i).length=size) (hc:∀i (hi:i<xs.length) c,R c xs[i]->c=cs i) :
  ∀j u,((List.range xs.length).flatMap cs)[j]?=some u->w.cell? (a.add j)=some u:=by
 intro j u hu;rcases h with rfl|⟨b,o,ha,h⟩
 ·simp at hu
 cases ha
 have hj:j<xs.length*size:=by
  rw[←zR _ hl];exact(List.getElem?_eq_some_iff.1 hu).1
 have hi:j / size<xs.length:=Nat.div_lt_of_lt_mul (by rw[Nat.mul_comm];exact hj);have hm:=Nat.mod_lt j hsz;have e:j=j / size*size+j % size:=by rw[Nat.mul_comm];exact(Nat.div_add_mod j size).symm
 obtain⟨c,_,hcell,hr⟩:=h _ hi;have h1:=hcell _ hm;rw[hc _ hi c hr]at h1;rw[e,xZ _ hl _ _ hi hm]at hu
 have ea:(⟨b,o,none⟩:Addr).add j=⟨b,o+j / size*size+j % size,none⟩:=by
  have e3:o+j / size*size+j % size=o+j:=by omega
  rw[e3];exact vC b o j
 rw[ea,h1,hu]

theorem kI (xs:List (Bool×Int)) (p:Option Addr) (c:Nat) (w:World) (h:SliceAt w 2 kc p xs) (hp:p=none->xs.length=0/\c=0) (hl:xs.length*16<=reachBytes) :
  Calls Tryz.prog 90 #[.slice p xs.length c] w fun e w'=>∃p' c',e = .returned (.slice p' xs.length c')/\(∃S,SlQ 44 2 16 jV w' (.slice p' xs.length c') xs S/\LoB w.heap.size S)/\Below w.heap.size w w':=by
 have hlr:xs.length*16<=140737488351232:=hl;rcases p with _|a
 ·obtain⟨h0,rfl⟩:=hp rfl;obtain rfl:=yd.1 h0;have he:∀w:World,(binOp .eql 40 (.slice none 0 0) (.slice none 0 0)).run Tryz.prog w = .ok (.bool true) w:=fun _=>rfl
  go_enter Tryz.func90,Tryz.ntmps90
  go_wp2_with fail
  go_ret
  exact⟨none,0,rfl,⟨fun _=>False,⟨SlO.nil _ _ _ _ (fun _ h=>h.elim),by simp⟩,fun _ h=>h.elim⟩,zI _ _⟩
 obtain⟨i1,k1,k2,k3,k4⟩:=info_parts vU;have HT:=q8 h
 have HV:Hid (∀i (hi:i<xs.length) cs,kc cs xs[i]->cs=Qn xs i):=q8 fun i hi cs hr=>by
  obtain⟨e,_⟩:=hr;rw[e];unfold Qn;simp[List.getD,hi]
 have HL:Hid (∀i,i<xs.length->(Qn xs i).length=2):=q8 fun _ _=>rfl
 have HX:Hid (∀i (hi:i<xs.length),I64 xs[i].2):=q8 fun i hi=>by
  rcases h with rfl|⟨b,o,_,h⟩
  ·simp at hi
  obtain⟨_,_,_,hr⟩:=h i hi;exact hr.2
 have he:∀w:World,(binOp .eql 40 (.slice (some a) xs.length c) (.slice none 0 0)).run Tryz.prog w = .ok (.bool false) w:=fun _=>rfl;clear h
 go_enter Tryz.func90,Tryz.ntmps90
 go_wp2_with (at_builtin;refine wpList_append_own _ rfl (.tmp 5) (.tmp 6) 40 rfl w.heap.size 44 i1 _ 2 16 Tryz.underlying40 k1 k2 k3 k4 rfl (by decide) _ 0 [] rfl ?c0 a xs.length c ((List.range xs.length).flatMap (Qn xs)) rfl ?c1 ?c2 ?c3 ?c4 ?c5 ?c6 ?_)
 case c0=>exact vV (qB _ _) (zK _)
 case c1=>exact zR _ HL.out
 case c2=>exact QO (HT.out.mono ((zI _ w).alloc (zK _) _) bO fun _ _ g=>g) bO HL.out HV.out
 case c3=>exact ji fun i _=>XL xs i
 case c4=>unfold maxLen;omega
 case c5=>omega
 case c6=>simp
 intro v' w' hown hg _
 have hval:∃p' c',v' = .slice p' xs.length c':=by
  rcases hown.2 with⟨h1,h2⟩|⟨g,cap,cur,h1,_⟩
  ·exact⟨none,0,by rw[h1,show xs.length=0 by omega]⟩
  exact⟨some (J g 0),cap,by rw[h1]⟩
 obtain⟨p',c',rfl⟩:=hval
 go_wp2
 refine zk (v:=.slice p' xs.length c') ?_ rfl ⟨p',c',rfl,⟨_,⟨SlO.flat (base:=w.heap.size) (cs:=Qn xs) (by simpa using hown) HL.out (fun i _=>XL xs i) (fun i hi=>?_),hl⟩,fun k hk=>(hown.lt k hk).1⟩,?_⟩
 ·simp[results,Tryz.results90,go_sem]
 ·have hx:=HX.out i hi;unfold jV kc Qn;simp[List.getD,hi,hx]
 exact Below.grown bZ hg bV (fun b e=>by cases e;exact zK _)

theorem kJ (xs:List (Int)) (p:Option Addr) (c:Nat) (w:World) (h:SliceAt w 1 jM p xs) (hp:p=none->xs.length=0/\c=0) (hl:xs.length*8<=reachBytes) :
  Calls Tryz.prog 42 #[.slice p xs.length c] w fun e w'=>∃p' c',e = .returned (.slice p' xs.length c')/\(∃S,SlQ 3 1 8 IntO w' (.slice p' xs.length c') xs S/\LoB w.heap.size S)/\Below w.heap.size w w':=by
 have hlr:xs.length*8<=140737488351232:=hl;rcases p with _|a
 ·obtain⟨h0,rfl⟩:=hp rfl;obtain rfl:=yd.1 h0;have he:∀w:World,(binOp .eql 45 (.slice none 0 0) (.slice none 0 0)).run Tryz.prog w = .ok (.bool true) w:=fun _=>rfl
  go_enter Tryz.func42,Tryz.ntmps42
  go_wp2_with fail
  go_ret
  exact⟨none,0,rfl,⟨fun _=>False,⟨SlO.nil _ _ _ _ (fun _ h=>h.elim),by simp⟩,fun _ h=>h.elim⟩,zI _ _⟩
 obtain⟨i1,k1,k2,k3,k4⟩:=info_parts Ks;have HT:=q8 h
 have HV:Hid (∀i (hi:i<xs.length) cs,jM cs xs[i]->cs=Zt xs i):=q8 fun i hi cs hr=>by
  obtain⟨e,_⟩:=hr;rw[e];unfold Zt;simp[List.getD,hi]
 have HL:Hid (∀i,i<xs.length->(Zt xs i).length=1):=q8 fun _ _=>rfl
 have HX:Hid (∀i (hi:i<xs.length),I64 xs[i]):=q8 fun i hi=>by
  rcases h with rfl|⟨b,o,_,h⟩
  ·simp at hi
  obtain⟨_,_,_,hr⟩:=h i hi;exact hr.2
 have he:∀w:World,(binOp .eql 45 (.slice (some a) xs.length c) (.slice none 0 0)).run Tryz.prog w = .ok (.bool false) w:=fun _=>rfl;clear h
 go_enter Tryz.func42,Tryz.ntmps42
 go_wp2_with (at_builtin;refine wpList_append_own _ rfl (.tmp 5) (.tmp 6) 45 rfl w.heap.size 3 i1 _ 1 8 Tryz.underlying45 k1 k2 k3 k4 rfl (by decide) _ 0 [] rfl ?c0 a xs.length c ((List.range xs.length).flatMap (Zt xs)) rfl ?c1 ?c2 ?c3 ?c4 ?c5 ?c6 ?_)
 case c0=>exact vV (qB _ _) (zK _)
 case c1=>exact zR _ HL.out
 case c2=>exact QO (HT.out.mono ((zI _ w).alloc (zK _) _) bO fun _ _ g=>g) bO HL.out HV.out
 case c3=>exact ji fun i _=>VD xs i
 case c4=>unfold maxLen;omega
 case c5=>omega
 case c6=>simp
 intro v' w' hown hg _
 have hval:∃p' c',v' = .slice p' xs.length c':=by
  rcases hown.2 with⟨h1,h2⟩|⟨g,cap,cur,h1,_⟩
  ·exact⟨none,0,by rw[h1,show xs.length=0 by omega]⟩
  exact⟨some (J g 0),cap,by rw[h1]⟩
 obtain⟨p',c',rfl⟩:=hval
 go_wp2
 refine zk (v:=.slice p' xs.length c') ?_ rfl ⟨p',c',rfl,⟨_,⟨SlO.flat (base:=w.heap.size) (cs:=Zt xs) (by simpa using hown) HL.out (fun i _=>VD xs i) (fun i hi=>?_),hl⟩,fun k hk=>(hown.lt k hk).1⟩,?_⟩
 ·simp[results,Tryz.results42,go_sem]
 ·have hx:=HX.out i hi;unfold IntO jM Zt;simp[List.getD,hi,hx]
 exact Below.grown bZ hg bV (fun b e=>by cases e;exact zK _)

theorem XM:(Tryz.prog.info? 84).map (fun i=>(i.zero,i.size,i.bytes))=some (some (.agg #[Z 0,.slice none 0 0]),2,32):=by kernel_rfl
theorem v6:(Tryz.prog.info? 51).map (fun i=>(i.zero,i.size,i.bytes))=some (some (.agg #[Z 0,Z 0,.bool false,Z 0,.bool false,Z 0,Z 0,.slice none 0 0]),8,80):=by kernel_rfl
theorem SliceAt.get {α:Type} {w:World} {size:Nat} {R:List Value->α->Prop} {p:Option Addr} {xs:List α} (h:SliceAt w size R p xs) {i:Nat} (hi:i<xs.length):∃b o cs,p=some (J b o)/\cs.length=size/\(∀j,j<size->w.cell? (J b (o+i*size+j))=cs[j]?)/\R cs xs[i]:=by
 rcases h with rfl|⟨b,o,hp,h⟩
 ·simp at hi
 obtain⟨cs,hl,hc,hr⟩:=h i hi;exact⟨b,o,cs,hp,hl,hc,hr⟩
theorem SlO.set_alloc {α:Type} {e:TypeId} {size:Nat} {R:ElemO α} (hR:kY R) {w:World} {v:Value} {xs:List α} {S:Blks} (h:SlO e size R w v xs S) {n j:Nat} (hS:¬ S n) (u:Value) (o:Obj):SlO e size R ((w.setCell (J n j) u).alloc o) v xs S:=
 h.loc hR (fun k hk=>(xG _ o k (by rw[yK];exact h.inb k hk)).trans (zJ w ⟨n,j,none⟩ u k (fun e=>hS (by rw[←show k=n from e];exact hk)))) (by simp[World.setCell])
theorem SlQ.set_alloc {α:Type} {e:TypeId} {size bytes:Nat} {R:ElemO α} (hR:kY R) {w:World} {v:Value} {xs:List α} {S:Blks} (h:SlQ e size bytes R w v xs S) {n j:Nat} (hS:¬ S n) (u:Value) (o:Obj):SlQ e size bytes R ((w.setCell (J n j) u).alloc o) v xs S:=⟨h.sl.set_alloc hR hS u o,h.bd⟩
theorem InB.set_alloc {w:World} {S:Blks} (h:InB w S) (a:Addr) (u:Value) (o:Obj):InB ((w.setCell a u).alloc o) S:=h.mono (by simp[World.setCell])

theorem VE (b:BlkL) (q1 q2 q3:Option Addr) (e1 e2 e3:Nat) (w:World) (hn:SlF w 2 32 (PhiR w) (.slice q1 b.phis.length e1) b.phis) (hI:SlF w 8 80 (InsR w) (.slice q2 b.list.length e2) b.list) (hT:SlF w 1 8 jM (.slice q3 b.fin.to.length e3) b.fin.to) (i1:I64 b.fin.kind) (i2:I64 b.fin.onn) :
  Calls Tryz.prog 73 #[.agg #[.slice q1 b.phis.length e1,.slice q2 b.list.length e2,Z b.fin.kind,.bool b.fin.onr,Z b.fin.onn,.slice q3 b.fin.to.length e3]] w fun e w'=>(∃p1 c1 p2 c2 p3 c3,e = .returned (.agg #[.slice p1 b.phis.length c1,.slice p2 b.list.length c2,Z b.fin.kind,.bool b.fin.onr,Z b.fin.onn,.slice p3 b.fin.to.length c3])/\
   ∃S,BlkO w' [.slice p1 b.phis.length c1,.slice p2 b.list.length c2,Z b.fin.kind,.bool b.fin.onr,Z b.fin.onn,.slice p3 b.fin.to.length c3] b S/\LoB w.heap.size S)/\Below w.heap.size w w':=by
 obtain⟨iP,k1,k2,k3,k4⟩:=info_parts XM;obtain⟨iI,l1,l2,l3,l4⟩:=info_parts v6;have hlp:b.phis.length*32<=140737488351232:=hn.out.elim fun _ h=>h.elim fun _ h=>h.2.1;have hli:b.list.length*80<=140737488351232:=hI.out.elim fun _ h=>h.elim fun _ h=>h.2.1
 have hnp:SliceAt w 2 (PhiR w) q1 b.phis:=by
  obtain⟨p,c,e,_,_,h⟩:=hn.outC;cases e;exact h
 have hni:SliceAt w 8 (InsR w) q2 b.list:=by
  obtain⟨p,c,e,_,_,h⟩:=hI.outC;cases e;exact h
 have HN:=q8 hnp;have HI:=q8 hni;have HT:=q8 hT;have HI1:=q8 i1;have HI2:=q8 i2;have HBd:=q8 (zh hn.bdC (zh hI.bdC hT.bdC));clear hn hI hT i1 i2 hnp hni
 go_enter Tryz.func73,Tryz.ntmps73
 go_wp2_with fail
 obtain⟨W0,hW0⟩:=nZ ((w.alloc (.cells #[.slice q1 b.phis.length e1,.slice q2 b.list.length e2,Z b.fin.kind,.bool b.fin.onr,Z b.fin.onn,.slice q3 b.fin.to.length e3] 49)).alloc (.cells #[.slice none 0 0,.slice none 0 0,Z 0,.bool false,Z 0,.slice none 0 0] 49));rw[←hW0];have hz0:W0.heap.size=w.heap.size+1+1:=by rw[hW0];simp
 have HB0:Hid (Below w.heap.size w W0):=q8 (by rw[hW0];exact bZ);have HA:Hid (W0.heap[w.heap.size]?=some (.cells #[.slice q1 b.phis.length e1,.slice q2 b.list.length e2,Z b.fin.kind,.bool b.fin.onr,Z b.fin.onn,.slice q3 b.fin.to.length e3] 49 (0,0))):=q8 (by rw[hW0];exact qh (qr rfl));have HZ:Hid (W0.heap[w.heap.size+1]?=some (.cells #[.slice none 0 0,.slice none 0 0,Z 0,.bool false,Z 0,.slice none 0 0] 49 (0,0))):=q8 (by rw[hW0];exact qr bV);clear hW0
 go_loopw [3,12] (fun v i wr=>∃k:Nat,k<=b.phis.length/\i=Z k/\(∃S,SlO 84 2 PhiO wr v (b.phis.take k) S/\LoB W0.heap.size S)/\Below W0.heap.size W0 wr) (fun _ i _=>b.phis.length - (intOf i).toNat)
 case atStart=>exact⟨0,by omega,rfl,⟨fun _=>False,SlO.nil _ _ _ _ (fun _ h=>h.elim),fun _ h=>h.elim⟩,zI _ _⟩
 case round=>
  obtain⟨k,hk,rfl,⟨S,hO,hL⟩,hb⟩:=hrel;obtain⟨vpA,vcA,hv,_⟩:=hO.val;rw[List.length_take_of_le hk]at hv;subst hv;have HO:=q8 hO;have HL:=q8 hL;have HB:=q8 hb;have hsz:=hb.size;have HBw:Hid (Below w.heap.size w wr):=HB0.out.trans (hb.mono bO);clear hO hL hb
  by_cases hlt:k<b.phis.length
  ·obtain⟨bp,op,cs,hp,_,hc,pv,rfl,hd,hs⟩:=HN.out.get hlt;subst hp;obtain⟨q,c,rfl,hq0,_,hql,hqs⟩:=hs;have hc0:=hc 0 bO;have hc1:=hc 1 bO;have hbp:=q9 hc0;have c0:=(HBw.out.cell (p:=(J bp _)) hbp).trans hc0;have c1:=(HBw.out.cell (p:=(J bp _)) hbp).trans hc1;simp only[zB,zD,yJ]at c0 c1;have HQ0:=q8 hq0;have HQl:=q8 hql;have HQs:=q8 hqs;have HD:=q8 hd;clear hc hc0 hc1 hq0 hql hqs hd
   go_wp2_with fail
   refine(kI b.phis[k].src q c _ (HQs.out.mono (HBw.out.trans bZ) bO fun _ _ g=>g) HQ0.out HQl.out).mono ?_;rintro e w5 ⟨p',c',rfl,⟨S2,hS2,hL2⟩,hb5⟩;have hr5:Below wr.heap.size wr w5:=yo bZ (hb5.mono bV);have hu:=qg hb5 (k:=wr.heap.size) bV (qB wr _);obtain⟨hu0,hu1⟩:=blk hu;have zu:=(yL.1 hu).1;have hN5:¬ S wr.heap.size:=fun h=>by have:=HO.out.inb _ h;omega
   have hL2':∀k,S2 k->wr.heap.size+1<=k:=fun k h=>by have:=hL2 k h;simpa using this
   have hN2:¬ S2 wr.heap.size:=fun h=>by have:=hL2' _ h;omega
   have HO5:=q8 (HO.out.below x8 hr5);have HS2:=q8 hS2;have HL2:=q8 hL2';have HR5:=q8 hr5;have HNN:=q8 (zh hN5 hN2);have hgM:=hr5.size;clear hb5 hr5 hu hS2 hL2 hL2' hN5 hN2
   go_wp2_with (at_builtin;refine qH _ rfl _ _ 41 rfl 84 iP _ 2 32 Tryz.underlying41 k1 k2 k3 k4 rfl (by decide) x8 rfl (HO5.out.set_alloc x8 HNN.out.1 _ _) ⟨w5.heap.size,0,none⟩ 1 [Z b.phis[k].dst,.slice p' b.phis[k].src.length c'] b.phis[k] rfl rfl ?hn ?ho (T:=S2) ⟨_,rfl,HD.out,HS2.out.set_alloc zq HNN.out.2 _ _⟩ ?ha ?ht ?hm ?hb ?_)
   case hn=>exact zW _ _ _ (by simp[World.setCell])
   case ho=>intro u hu;simp only[yC,yG,yl]at hu;rcases hu with rfl|rfl<;>rfl
   case ha=>exact fun k h1 h2=>by have:=HO.out.inb k h1;have:=HL2.out k h2;omega
   case ht=>exact HS2.out.sl.inb.set_alloc _ _ _
   case hm=>unfold maxLen;simp;omega
   case hb=>simp;omega
   intro v2 w8 ⟨S',hO8,hsub,hK⟩
   have hrel:(∃S,SlO 84 2 PhiO w8 v2 (b.phis.take (k+1)) S/\LoB W0.heap.size S)/\Below W0.heap.size W0 w8:=by
    refine⟨⟨S',by first|exact hO8|(rw[yA hlt];exact hO8),fun k hk=>?_⟩,?_⟩
    ·rcases hsub k hk with h|h|h
     ·exact HL.out k h
     ·have:=HL2.out k h;omega
     simp[World.setCell]at h;omega
    refine(((HB.out.trans (HR5.out.mono hsz)).setCell hsz _).alloc (by simp[World.setCell];omega) _).trans (hK.below (by simp[World.setCell];omega) HL.out)
   have ha7:=q8 hrel;clear hO8 hsub hK hrel
   go_wp2_with fail
   exact⟨⟨k+1,by omega,by go_num,ha7.out.1,ha7.out.2⟩,by simp[intOf];omega⟩
  obtain rfl:k=b.phis.length:=by omega
  rw[yP]at HO;have HOp:=q8 HO.out;have HLp:=q8 HL.out;clear HO HL;obtain⟨W1,hW1⟩:=nZ wr;rw[←hW1];rw[←hW1]at HOp HB HBw hsz;have HB1:=q8 HBw.out;have hjR:=q8 HB.out;obtain⟨Sp,hSp⟩:=nZ S;rw[←hSp]at HOp HLp;have hu1:=qg hjR.out (k:=w.heap.size) bO HA.out;have k1c:W1.cell? (J w.heap.size 1)=some (.slice q2 b.list.length e2):=(blk hu1).1 1;have zz1:w.heap.size<W1.heap.size:=by omega
  clear HB HBw hW1 hSp hu1
  go_wp2_with fail
  go_loopw [6,28] (fun v i wr=>∃k:Nat,k<=b.list.length/\i=Z k/\(∃S,SlO 51 8 InsO wr v (b.list.take k) S/\LoB W1.heap.size S)/\Below W1.heap.size W1 wr) (fun _ i _=>b.list.length - (intOf i).toNat)
  case atStart=>exact⟨0,by omega,rfl,⟨fun _=>False,SlO.nil _ _ _ _ (fun _ h=>h.elim),fun _ h=>h.elim⟩,zI _ _⟩
  case round=>
   obtain⟨k,hk,rfl,⟨S,hO,hL⟩,hb⟩:=hrel;obtain⟨vpB,vcB,hv,_⟩:=hO.val;rw[List.length_take_of_le hk]at hv;subst hv;have HO:=q8 hO;have HL:=q8 hL;have HB:=q8 hb;have hsz:=hb.size;have HBw:Hid (Below w.heap.size w wr):=HB1.out.trans (hb.mono bO);clear hO hL hb
   by_cases hlt:k<b.list.length
   ·obtain⟨bp,op,cs,hp,_,hc,pv,rfl,hd1,hd2,hd3,hd4,hd5,hs⟩:=HI.out.get hlt;subst hp;obtain⟨q,c,rfl,hq0,_,hql,hqs⟩:=hs;have hc0:=hc 0 bO;have hc1:=hc 1 bO;have hc2:=hc 2 bO;have hc3:=hc 3 bO;have hc4:=hc 4 bO;have hc5:=hc 5 bO;have hc6:=hc 6 bO;have hc7:=hc 7 bO;have hbp:=q9 hc0;have c0:=(HBw.out.cell (p:=(J bp _)) hbp).trans hc0;have c1:=(HBw.out.cell (p:=(J bp _)) hbp).trans hc1;have c2:=(HBw.out.cell (p:=(J bp _)) hbp).trans hc2;have c3:=(HBw.out.cell (p:=(J bp _)) hbp).trans hc3;have c4:=(HBw.out.cell (p:=(J bp _)) hbp).trans hc4;have c5:=(HBw.out.cell (p:=(J bp _)) hbp).trans hc5;have c6:=(HBw.out.cell (p:=(J bp _)) hbp).trans hc6;have c7:=(HBw.out.cell (p:=(J bp _)) hbp).trans hc7;simp only[zB,zD,yJ]at c0 c1 c2 c3 c4 c5 c6 c7;have HQ0:=q8 hq0;have HQl:=q8 hql;have HQs:=q8 hqs;have HD:=q8 (zh hd1 (zh hd2 (zh hd3 (zh hd4 hd5))));clear hc hc0 hc1 hc2 hc3 hc4 hc5 hc6 hc7 hq0 hql hqs hd1 hd2 hd3 hd4 hd5
    go_wp2_with fail
    refine(kI b.list[k].args q c _ (HQs.out.mono (HBw.out.trans bZ) bO fun _ _ g=>g) HQ0.out HQl.out).mono ?_;rintro e w5 ⟨p',c',rfl,⟨S2,hS2,hL2⟩,hb5⟩;have hr5:Below wr.heap.size wr w5:=yo bZ (hb5.mono bV);have hu:=qg hb5 (k:=wr.heap.size) bV (qB wr _);obtain⟨hu0,hu1⟩:=blk hu;have zu:=(yL.1 hu).1;have hN5:¬ S wr.heap.size:=fun h=>by have:=HO.out.inb _ h;omega
    have hL2':∀k,S2 k->wr.heap.size+1<=k:=fun k h=>by have:=hL2 k h;simpa using this
    have hN2:¬ S2 wr.heap.size:=fun h=>by have:=hL2' _ h;omega
    have HO5:=q8 (HO.out.below qT hr5);have HS2:=q8 hS2;have HL2:=q8 hL2';have HR5:=q8 hr5;have HNN:=q8 (zh hN5 hN2);have hgM:=hr5.size;clear hb5 hr5 hu hS2 hL2 hL2' hN5 hN2
    go_wp2_with (at_builtin;refine qH _ rfl _ _ 42 rfl 51 iI _ 8 80 Tryz.underlying42 l1 l2 l3 l4 rfl (by decide) qT rfl (HO5.out.set_alloc qT HNN.out.1 _ _) ⟨w5.heap.size,0,none⟩ 1 [Z b.list[k].op,Z b.list[k].dst,.bool b.list[k].ar,Z b.list[k].an,.bool b.list[k].br,Z b.list[k].bn,Z b.list[k].fn,.slice p' b.list[k].args.length c'] b.list[k] rfl rfl ?hn ?ho (T:=S2) ⟨_,rfl,HD.out.1,HD.out.2.1,HD.out.2.2.1,HD.out.2.2.2.1,HD.out.2.2.2.2,HS2.out.set_alloc zq HNN.out.2 _ _⟩ ?ha ?ht ?hm ?hb ?_)
    case hn=>exact zW _ _ _ (by simp[World.setCell])
    case ho=>intro u hu;simp only[yC,yG,yl]at hu;rcases hu with rfl|rfl|rfl|rfl|rfl|rfl|rfl|rfl<;>rfl
    case ha=>exact fun k h1 h2=>by have:=HO.out.inb k h1;have:=HL2.out k h2;omega
    case ht=>exact HS2.out.sl.inb.set_alloc _ _ _
    case hm=>unfold maxLen;simp;omega
    case hb=>simp;omega
    intro v2 w8 ⟨S',hO8,hsub,hK⟩
    have hrel:(∃S,SlO 51 8 InsO w8 v2 (b.list.take (k+1)) S/\LoB W1.heap.size S)/\Below W1.heap.size W1 w8:=by
     refine⟨⟨S',by first|exact hO8|(rw[yA hlt];exact hO8),fun k hk=>?_⟩,?_⟩
     ·rcases hsub k hk with h|h|h
      ·exact HL.out k h
      ·have:=HL2.out k h;omega
      simp[World.setCell]at h;omega
     refine(((HB.out.trans (HR5.out.mono hsz)).setCell hsz _).alloc (by simp[World.setCell];omega) _).trans (hK.below (by simp[World.setCell];omega) HL.out)
    have ha7:=q8 hrel;clear hO8 hsub hK hrel
    go_wp2_with fail
    exact⟨⟨k+1,by omega,by go_num,ha7.out.1,ha7.out.2⟩,by simp[intOf];omega⟩
   obtain rfl:k=b.list.length:=(by omega);rw[yP]at HO;have HOl:=q8 HO.out;have HLl:=q8 HL.out;clear HO HL;obtain⟨W2,hW2⟩:=nZ wr;rw[←hW2];rw[←hW2]at HOl HB HBw hsz;obtain⟨Sl,hSl⟩:=nZ S;rw[←hSl]at HOl HLl;have hdI:=q8 HB.out;have hA2:=qg HB.out (k:=w.heap.size) bO (qg hjR.out (k:=w.heap.size) bO HA.out);have hZ2:=qg HB.out (k:=w.heap.size+1) bO (qg hjR.out (k:=w.heap.size+1) bO HZ.out);obtain⟨ka,fa⟩:=blk hA2;have kc0:W2.cell? (J w.heap.size 0)=some (.slice q1 b.phis.length e1):=ka 0;have kc1:W2.cell? (J w.heap.size 1)=some (.slice q2 b.list.length e2):=ka 1;have kc5:W2.cell? (J w.heap.size 5)=some (.slice q3 b.fin.to.length e3):=ka 5;have HA2:=q8 hA2;have HZ2:=q8 hZ2;have zz2:w.heap.size<W2.heap.size:=(by omega);have zz3:w.heap.size+1<W2.heap.size:=(by omega);clear HB hW2 hSl hA2 hZ2 ka k1c zz1
   go_wp2_with fail
   obtain⟨W3,hW3⟩:=nZ ((W2.setCell (J w.heap.size 0) (.slice vpA b.phis.length vcA)).setCell (J w.heap.size 1) (.slice vpB b.list.length vcB));rw[←hW3]
   have hA3:W3.heap[w.heap.size]?=some (.cells #[.slice vpA b.phis.length vcA,.slice vpB b.list.length vcB,Z b.fin.kind,.bool b.fin.onr,Z b.fin.onn,.slice q3 b.fin.to.length e3] 49 (0,0)):=by
    rw[hW3,qj (qj HA2.out 0 _) 1 _];rfl
   have hO3:∀k,k≠w.heap.size->W3.heap[k]?=W2.heap[k]?:=fun k hk=>by
    rw[hW3];exact(zJ _ ⟨w.heap.size,1,none⟩ _ k hk).trans (zJ _ ⟨w.heap.size,0,none⟩ _ k hk)
   have hs3:W3.heap.size=W2.heap.size:=(by rw[hW3,yK,yK]);have hB3:Below w.heap.size w W3:=(by rw[hW3];exact(HBw.out.setCell (zK _) _).setCell (zK _) _);obtain⟨q3',e3',hq3,hqn,_,hql,hqs⟩:=HT.out;cases hq3;have HO3:=q8 hO3;have HB3:=q8 hB3;have HA3:=q8 hA3;have HQn:=q8 hqn;have HQl:=q8 hql;have HQs:=q8 hqs;clear hO3 hB3 hA3 hqn hql hqs hW3 kc0 kc1 kc5 fa HT;refine(kJ b.fin.to q3 e3 W3 (HQs.out.mono HB3.out bO fun _ _ g=>g) HQn.out HQl.out).mono ?_;rintro e w9 ⟨p3,c3,rfl,⟨S3,hS3,hL3⟩,hb9⟩;have hA9:=qg hb9 (k:=w.heap.size) bO HA3.out;have hZ9:=qg hb9 (k:=w.heap.size+1) bO ((HO3.out (w.heap.size+1) bO).trans HZ2.out);obtain⟨ka,fa⟩:=blk hA9;obtain⟨kz,fz⟩:=blk hZ9;have zz4:=(yL.1 hA9).1;have zz5:=(yL.1 hZ9).1;have HA9:=q8 hA9;have HZ9:=q8 hZ9;have HS3:=q8 hS3;have HL3:=q8 hL3;have HB9:=q8 hb9;clear hA9 hZ9 hS3 hL3 hb9
   go_wp2_with fail
   obtain⟨WF,hWF⟩:=nZ (((((((w9.setCell (J w.heap.size 5) (.slice p3 b.fin.to.length c3)).setCell (J (w.heap.size+1) 0) (.slice vpA b.phis.length vcA)).setCell (J (w.heap.size+1) 1) (.slice vpB b.list.length vcB)).setCell (J (w.heap.size+1) 2) (Z b.fin.kind)).setCell (J (w.heap.size+1) 3) (.bool b.fin.onr)).setCell (J (w.heap.size+1) 4) (Z b.fin.onn)).setCell (J (w.heap.size+1) 5) (.slice p3 b.fin.to.length c3));rw[←hWF]
   have hF1:WF.heap[w.heap.size+1]?=some (.cells #[.slice vpA b.phis.length vcA,.slice vpB b.list.length vcB,Z b.fin.kind,.bool b.fin.onr,Z b.fin.onn,.slice p3 b.fin.to.length c3] 49 (0,0)):=by
    rw[hWF,qj (qj (qj (qj (qj (qj ((zJ w9 ⟨w.heap.size,5,none⟩ _ (w.heap.size+1) (fun e=>by have e2:w.heap.size+1=w.heap.size:=e;omega)).trans HZ9.out) 0 _) 1 _) 2 _) 3 _) 4 _) 5 _];rfl
   have hFo:∀k,k≠w.heap.size->k≠w.heap.size+1->WF.heap[k]?=w9.heap[k]?:=fun k h1 h2=>by
    rw[hWF]
    repeat rw[zJ _ _ _ _ (by assumption)]
   have hFs:WF.heap.size=w9.heap.size:=by rw[hWF];simp[World.setCell]
   have hFb:Below w.heap.size w9 WF:=by
    rw[hWF];exact bZ
   have hz9:=HB9.out.size;have huK:=hdI.out.size;have k0:=(blk hF1).1 0;have k1':=(blk hF1).1 1;have k2':=(blk hF1).1 2;have k3':=(blk hF1).1 3;have k4':=(blk hF1).1 4;have k5':=(blk hF1).1 5;clear hWF;refine zk (v:=.agg #[.slice vpA b.phis.length vcA,.slice vpB b.list.length vcB,Z b.fin.kind,.bool b.fin.onr,Z b.fin.onn,.slice p3 b.fin.to.length c3]) ?_ rfl ⟨⟨vpA,vcA,vpB,vcB,p3,c3,rfl,fun k=>Sp k\/Sl k\/S3 k,?_,?_⟩,?_⟩
   ·simp[results,Tryz.results73,go_sem,k0,k1',k2',k3',k4',k5']
   ·have f29:∀k,w.heap.size+1<k->k<W2.heap.size->WF.heap[k]?=W2.heap[k]?:=fun k h1 h2=>(hFo k bO bO).trans ((HB9.out.block k bO).trans (HO3.out k bO));have hOp:=(HOp.out.below x8 hdI.out).loc (w':=WF) x8 (fun k hk=>f29 k (by have:=HLp.out k hk;omega) (by have:=HOp.out.inb k hk;omega)) bO;have hOl:=HOl.out.loc (w':=WF) qT (fun k hk=>f29 k (by have:=HLl.out k hk;omega) (HOl.out.inb k hk)) bO;have hO3:=HS3.out.sl.loc (w':=WF) xk (fun k hk=>hFo k (by have:=HL3.out k hk;omega) (by have:=HL3.out k hk;omega)) bO;refine⟨_,_,_,Sp,Sl,S3,rfl,HI1.out,HI2.out,⟨hOp,HBd.out.1⟩,⟨hOl,HBd.out.2.1⟩,⟨hO3,HBd.out.2.2⟩,fun k a c=>?_,fun k a c=>?_,fun k a c=>?_,fun _ h=>.inl h,fun _ h=>.inr (.inl h),fun _ h=>.inr (.inr h)⟩
    ·have:=HOp.out.inb k a;have:=HLl.out k c;omega
    ·have:=HOp.out.inb k a;have:=HL3.out k c;omega
    have:=HOl.out.inb k a;have:=HL3.out k c;omega
   ·rintro k (h|h|h)
    ·have:=HLp.out k h;omega
    ·have:=HLl.out k h;omega
    have:=HL3.out k h;omega
   exact(HB3.out.trans (HB9.out.mono bO)).trans hFb
end Go.Proofs.YtgjjhadbjmcnpaaGreatDoor
namespace Go.Proofs.YtgjjhadbjmcnpaaGreatDoor
open Go.RowKit Go.Shelf
attribute [local go_sem] Oper.semAt_some

def allIns (f:FunL):List InsL:=f.blocks.flatMap fun b=>b.list
theorem Zf (a:Option Addr) (w:World) :
  Calls Tryz.prog 45 #[.pointer a] w fun e w'=>e = .returned (.func (.func 74) #[] #[.pointer (some (J w.heap.size 0))])/\w'=w.alloc (.cells #[.pointer a] 53):=by
 go_enter Tryz.func45,Tryz.ntmps45
 go_wp2
 go_ret
 exact⟨rfl,rfl⟩

end Go.Proofs.YtgjjhadbjmcnpaaGreatDoor
namespace Go.Proofs.YtgjjhadbjmcnpaaGreatDoor
open Go.RowKit Go.Shelf

theorem X7 {l n:Nat} {P:Program} {ops:Array Oper} {Q:Exit->Act->World->Prop} (hL:¬ LetsOut Q) (hnd:∀(i:Nat) (o:Oper),ops[i]?=some o->∀c,o.op≠.defer c) {i:Nat} {K K':Act->World->Prop} (hK:∀a w,K a w->K' a w) {a:Act} {w:World}
  (h:wpOp P ops Q i K a w):wpOpIn (Fence.wide.inRound l) n P ops Q i K' a w:=by
 unfold wpOp at h;unfold wpOpIn;cases ho:ops[i]? with
 | none=>
  rw[ho]at h;exact hK _ _ h
 | some o=>
  rw[ho]at h;simp only at h ⊢
  split
  ·rename_i hw
   rw[zZ hw]at h;rcases h with h|⟨_,hl⟩
   rotate_left
   ·exact absurd hl hL
   unfold Oper.wp at h;unfold Oper.wpIn;refine⟨fun _ _=>trivial,?_⟩;rw[Oper.semAt_plain _ _ _ (hnd i o ho)];generalize (execOp a.eval o).run P w=r at h;cases r with
   | ok x w'=>
    cases x<;>simp only[Oper.upon]at h<;>simp only[Oper.uponIn]
    case value v=>exact hK _ _ h
    case skip=>exact hK _ _ h
    case defer d=>exact hK _ _ h
    case enter f args=>
     refine⟨fun e=>(by simp[Fence.wide]at e),CallsIn.inRound l (callsIn_wide.2 (h.mono fun e w'' he=>?_))⟩;cases e with
     | returned v=>exact hK _ _ he
     | panicked c=>exact he
     | outgrown=>exact he
    case row row args=>
     refine⟨fun e=>(by simp[Fence.wide]at e),fun c cs _=>?_⟩;obtain⟨v,w'',r,s⟩:=h c cs;exact⟨v,w'',hK _ _ r,stepsIn_wide.2 s⟩
   | halt x w'=>
    cases x<;>simp only[Oper.upon]at h<;>simp only[Oper.uponIn]
    case panic v=>exact h
  rename_i hw
  rw[zQ hw]at h;exact⟨fun _ _=>trivial,hK _ _ h⟩
theorem jF {l n:Nat} {P:Program} {md:Region.Mode} {ops:Array Oper} {Q:Exit->Act->World->Prop} (hL:¬ LetsOut Q) (hnd:∀(i:Nat) (o:Oper),ops[i]?=some o->∀c,o.op≠.defer c) :
  ∀(fuel:Nat) (listed:Array Bool) (a:Act) (w:World),wpAny P md ops Q fuel listed a w->wpAnyIn (Fence.wide.inRound l) n P md ops Q fuel listed a w
 | 0,_,_,_,h=>h
 | fuel+1,_,_,_,h=>⟨h.1,fun i hi=>X7 hL hnd (fun _ _ hh=>jF hL hnd fuel _ _ _ hh) (h.2 i hi)⟩
theorem XN {P:Program} {ops:Array Oper} {Q:Exit->Act->World->Prop} {i:Nat} {o:Oper} {K:Act->World->Prop} {a:Act} {w:World} (ho:ops[i]?=some o) (hg:o.guard=none) (h:o.wp P a w K Q):wpOp P ops Q i K a w:=by
 unfold wpOp;rw[ho];simp only[Region.wanted,hg];exact .inl h
section
variable {P : Program} {md : Region.Mode} {ops : Array Oper} {Q : Exit → Act → World → Prop} {S : World → Prop} {z : Nat}
def qZ (P:Program) (md:Region.Mode) (ops:Array Oper) (Q:Exit->Act->World->Prop) (S:World->Prop) (z:Nat):Nat->Array Bool->Act->World->Prop
 | 0,listed,a,w=>Region.ready md ops listed=[]/\Q .normal a w
 | fuel+1,listed,a,w=>
  (Region.ready md ops listed=[]->Q .normal a w)/\
  ∀i∈Region.ready md ops listed,wpOp P ops Q i (fun a' w'=>(i≠z->S w')/\qZ P md ops Q S z fuel (listed.setIfInBounds i true) a' w') a w
theorem QP:∀(fuel:Nat) (listed:Array Bool) (a:Act) (w:World),qZ P md ops Q S z fuel listed a w->wpAny P md ops Q fuel listed a w
 | 0,_,_,_,h=>h
 | fuel+1,_,_,_,h=>⟨h.1,fun i hi=>wpOp_mono (fun a' w' h'=>QP fuel _ a' w' h'.2) (h.2 i hi)⟩
theorem JJ {i:Nat} {oi oz:Oper} {v:Value} (hi:ops[i]?=some oi) (hz:ops[z]?=some oz) (hiz:i≠z) (hw:∃e∈oz.after,Region.binds md e=true/\e.on=i) (hsel:∀(j:Nat) (o:Oper) cs b,ops[j]?=some o->o.op≠.select cs b)
  (hQ:∀c a w,Q (.panic c) (a.put oi.dst v) w->Q (.panic c) a w) :
  ∀(fuel:Nat) (listed:Array Bool) (a:Act) (w:World),
   (∀j oj,ops[j]?=some oj->j≠i->listed.getD j true=false->(∀e∈oj.after,Region.binds md e=true->e.on≠i)->oi.apart ops oj=true)->
   i∈Region.ready md ops listed->YieldsIf P ops S oi v a->S w->
   qZ P md ops Q S z fuel (listed.setIfInBounds i true) (a.put oi.dst v) w->qZ P md ops Q S z (fuel+1) listed a w:=by
 intro fuel
 induction fuel with
 | zero=>
  intro listed a w _ hr hy hS H;refine⟨fun h=>(by rw[h]at hr;cases hr),fun j hj=>?_⟩
  by_cases hji:j=i
  ·subst hji;exact hy.wpOp hi hS ⟨fun _=>hS,H⟩
  have:=ready_mono hj hji;rw[H.1]at this;cases this
 | succ fuel ih=>
  intro listed a w hfree hr hy hS H;refine⟨fun h=>(by rw[h]at hr;cases hr),fun j hj=>?_⟩
  by_cases hji:j=i
  ·subst hji;exact hy.wpOp hi hS ⟨fun _=>hS,H⟩
  have h1:=H.2 j (ready_mono hj hji);obtain⟨hjun,oj,hoj,hall⟩:=mem_ready.1 hj
  have hnot:∀e∈oj.after,Region.binds md e=true->e.on≠i:=fun e he hb heq=>by
   have h1:=hall e he hb;have h0:=(mem_ready.1 hr).1;rw[heq]at h1;rcases yq i listed.size with h'|h'
   ·simp[h']at h0 h1;rw[h0]at h1;cases h1
   simp[Array.getElem?_eq_none h']at h1
  have hjz:j≠z:=fun e=>by
   subst e;rw[hoj]at hz;cases hz;obtain⟨e,he,hb,hon⟩:=hw;exact hnot e he hb hon
  have h2:=wpOp_putIf hoj (hfree j oj hoj hji hjun hnot) (fun cs b=>hsel i oi cs b hi) (fun cs b=>hsel j oj cs b hoj) hQ hy h1
  have hfree':∀k ok,ops[k]?=some ok->k≠i->(listed.setIfInBounds j true).getD k true=false->
    (∀e∈ok.after,Region.binds md e=true->e.on≠i)->oi.apart ops ok=true:=fun k ok hk hki hun hno=>by
   refine hfree k ok hk hki ?_ hno
   by_cases hjk:j=k
   ·subst hjk;exact hjun
   rw[getD_set_ne true hjk]at hun;exact hun
  refine wpOp_mono (fun a' w' h3=>⟨fun _=>h3.2.1 hjz,ih (listed.setIfInBounds j true) a' w' hfree' (ready_mono hr (Ne.symm hji)) h3.1 (h3.2.1 hjz) ?_⟩) h2;rw[Array.setIfInBounds_comm _ _ hji];exact h3.2.2
def Kt (md:Region.Mode) (ops:Array Oper) (z i:Nat):Bool:=decide (i≠z)&&match ops[z]? with|some o=>o.after.any fun e=>Region.binds md e&&e.on == i|none=>false
theorem VF {i:Nat} {oi:Oper} {v:Value} {fuel:Nat} {listed:Array Bool} {a:Act} {w:World} (hi:ops[i]?=some oi) (hw:Kt md ops z i=true)
  (hs:Region.noSelect ops=true) (hf:Region.free md ops listed i=true) (hr:(Region.ready md ops listed).contains i=true)
  (hQ:∀c a w,Q (.panic c) (a.put oi.dst v) w->Q (.panic c) a w) (hy:YieldsIf P ops S oi v a) (hS:S w)
  (h:qZ P md ops Q S z fuel (listed.setIfInBounds i true) (a.put oi.dst v) w):qZ P md ops Q S z (fuel+1) listed a w:=by
 unfold Kt at hw;rw[Bool.and_eq_true]at hw;obtain⟨h1,h2⟩:=hw;cases hz:ops[z]? with
 | none=>rw[hz]at h2;cases h2
 | some oz=>
  rw[hz]at h2;simp only[Array.any_eq_true',Bool.and_eq_true,beq_iff_eq]at h2;obtain⟨e,he,hb,hon⟩:=h2;exact JJ hi hz (of_decide_eq_true h1) ⟨e,he,hb,hon⟩ (Region.noSelect_spec hs) hQ fuel listed a w (Region.free_spec hi hf) (by simpa using hr) hy hS h
theorem QQ {rs:List Nat} {fuel:Nat} {listed:Array Bool} {a:Act} {w:World} (hr:Region.ready md ops listed=rs) (hne:rs≠[])
  (h:∀i∈rs,wpOp P ops Q i (fun a' w'=>(i≠z->S w')/\qZ P md ops Q S z fuel (listed.setIfInBounds i true) a' w') a w):qZ P md ops Q S z (fuel+1) listed a w:=
 ⟨fun h0=>absurd (hr ▸ h0) hne,hr ▸ h⟩
theorem qL {listed:Array Bool} {a:Act} {w:World} (hr:Region.ready md ops listed=[]) (h:Q .normal a w) :
  ∀fuel,qZ P md ops Q S z fuel listed a w
 | 0=>⟨hr,h⟩
 | _+1=>⟨fun _=>h,by rw[hr];simp⟩
end

def VG (ops:Array Oper):Bool:=ops.toList.all fun o=>match o.op with|.defer _=>false|_=>true
theorem Z3 {ops:Array Oper} (h:VG ops=true):∀(i:Nat) (o:Oper),ops[i]?=some o->∀c,o.op≠.defer c:=by
 intro i o ho c hc
 have hm:o∈ops.toList:=by
  rw[Array.mem_toList_iff];exact Array.mem_of_getElem? ho
 have:=List.all_eq_true.1 h o hm;rw[hc]at this;cases this
theorem zi {l n:Nat} {P:Program} {id:Nat} {ops:Array Oper} {Q:Exit->Act->World->Prop} {S:World->Prop} {a:Act} {w:World} (hm:P.follows .mixedOrders=true) (hL:¬ LetsOut Q) (hnd:VG ops=true)
  (z:Nat) (h:qZ P .any ops Q S z ops.size (Array.replicate ops.size false) a w.drew):(Code.region id ops true).wpIn (Fence.wide.inRound l) n P Q a w:=
 wpIn_region_any hm (jF hL (Z3 hnd) _ _ _ _ (QP _ _ _ _ h))
theorem VH {P:Program} {id:Nat} {ops:Array Oper} {Q:Exit->Act->World->Prop} {S:World->Prop} {a:Act} {w:World} (hm:P.follows .mixedOrders=true)
  (z:Nat) (h:qZ P .any ops Q S z ops.size (Array.replicate ops.size false) a w.drew):(Code.region id ops true).wp P Q a w:=
 wp_region_any hm (QP _ _ _ _ h)
def calm (Q:Exit->Act->World->Prop):Exit->Act->World->Prop
 | .panic _,_,_=>False
 | e,a,w=>Q e a w
theorem qA {P:Program} {id:Nat} {ops:Array Oper} {Q:Exit->Act->World->Prop} {S:World->Prop} {a:Act} {w:World} (hm:P.follows .mixedOrders=true)
  (z:Nat) (h:qZ P .any ops (calm Q) S z ops.size (Array.replicate ops.size false) a w.drew):(Code.region id ops true).wp P Q a w:=
 Code.wp_mono (Q:=calm Q) (fun e a w h=>by cases e<;>first|exact h|exact h.elim) (VH hm z h)
theorem wp_of_run {P:Program} {o:Oper} {a:Act} {w w':World} {v:Value} {K:Act->World->Prop} {Q:Exit->Act->World->Prop} (h:(execOp a.eval o).run P w = .ok (.value v) w') (hk:K (a.put o.dst v) w'):o.wp P a w K Q:=by
 unfold Oper.wp;rw[h];exact hk
theorem Ym {P:Program} {o:Oper} {a:Act} {w w':World} {K:Act->World->Prop} {Q:Exit->Act->World->Prop} (h:(execOp a.eval o).run P w = .ok .skip w') (hk:K (a.put o.dst undef) w'):o.wp P a w K Q:=by
 unfold Oper.wp;rw[h];exact hk
end Go.Proofs.YtgjjhadbjmcnpaaGreatDoor
