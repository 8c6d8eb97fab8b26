/-
  Plain: a list of rows of numbers that a call makes: the outer slice and each row own memor
-/
import Derived.Test.YtecdphhdmjmmnaaGreatDoorJChkQ
import Derived.Deep.RegionHeld3
set_option maxRecDepth 100000
set_option maxHeartbeats 16000000
namespace Go.Proofs.YtecdphhdmjmmnaaGreatDoor
open Go.RowKit

theorem XL:Tryz.prog.underlying 66=some (.slice 9):=by kernel_rfl
theorem infoStr:(Tryz.prog.info? 9).map (fun i=>(i.zero,i.size,i.bytes))=some (some (.string ⟨#[]⟩),1,16):=by kernel_rfl

theorem QL (u:UniL):mainAt u=vQ u.funcs:=rfl
theorem chk_big {u:UniL} (h:10<u.globals.length∨10<u.funcs.length):chk u=(2,0):=by
 unfold chk chkO
 rw[if_pos h];rfl
theorem QM {u:UniL} {k:Nat} {e:Int} (h1:u.globals.length≤10) (h2:u.funcs.length≤10) (hk:k<u.globals.length) (h0:∀j,j<k→XI u j=0) (h:XI u k=e) (he:e≠0):chk u=(e,(k:Int)):=by
 unfold chk chkO
 rw[if_neg (by omega),kc hk h0 (by rw[h];exact he),h];rfl
theorem chk_head {u:UniL} {k:Nat} {e:Int} (h1:u.globals.length≤10) (h2:u.funcs.length≤10) (hg:∀j,j<u.globals.length→XI u j=0) (hk:k<u.funcs.length) (h0:∀j,j<k→ko u j=0) (h:ko u k=e) (he:e≠0):chk u=(e,(k:Int)):=by
 unfold chk chkO
 rw[if_neg (by omega),zk hg]
 simp only
 rw[kc hk h0 (by rw[h];exact he),h];rfl
theorem chk_body {u:UniL} {k:Nat} {e:Int} (h1:u.globals.length≤10) (h2:u.funcs.length≤10) (hg:∀j,j<u.globals.length→XI u j=0) (hh:∀j,j<u.funcs.length→ko u j=0) (hk:k<u.funcs.length) (h0:∀j,j<k→kS u j=0) (h:kS u k=e) (he:e≠0):chk u=(e,(k:Int)):=by
 unfold chk chkO
 rw[if_neg (by omega),zk hg]
 simp only
 rw[zk hh]
 simp only
 rw[kc hk h0 (by rw[h];exact he),h];rfl
theorem chk_main {u:UniL} (h1:u.globals.length≤10) (h2:u.funcs.length≤10) (hg:∀j,j<u.globals.length→XI u j=0) (hh:∀j,j<u.funcs.length→ko u j=0) (hb:∀j,j<u.funcs.length→kS u j=0) :
  chk u=match vQ u.funcs with|none=>(6,0)|some m=>if 0<Zn u m then(5,(m:Int)) else(0,0):=by
 unfold chk chkO
 rw[if_neg (by omega),zk hg]
 simp only
 rw[zk hh]
 simp only
 rw[zk hb,QL]
 simp only
 cases vQ u.funcs with
 | none=>rfl
 | some m=>
  simp only
  split<;>rfl
theorem gloI_eq {u:UniL} {k:Nat} (hk:k<u.globals.length):XI u k=JO (ji u k) (jh u k) u.globals[k]:=by
 unfold XI
 rw[List.getElem?_eq_getElem hk]
theorem kp {u:UniL} {k:Nat} (hk:k<u.funcs.length):ko u k=v8 (xU u k) u.funcs[k]:=by
 unfold ko
 rw[List.getElem?_eq_getElem hk]
theorem X1 {u:UniL} {k:Nat} (hk:k<u.funcs.length):kS u k=jW u u.funcs[k]:=by
 unfold kS
 rw[List.getElem?_eq_getElem hk]
theorem Qd {u:UniL} {k:Nat} (hk:k<u.globals.length):jh u (k+1)=jh u k+u.globals[k].size:=by
 unfold jh
 rw[List.take_succ_eq_append_getElem hk,List.map_append,List.sum_append]
 simp
theorem JP {u:UniL} {k:Nat} (hk:k<u.globals.length):ji u (k+1)=ji u k++[u.globals[k].name]:=by
 unfold ji
 rw[List.take_succ_eq_append_getElem hk,List.map_append]
 rfl
theorem JQ {u:UniL} {k:Nat} (hk:k<u.funcs.length):xU u (k+1)=xU u k++[u.funcs[k].name]:=by
 unfold xU
 rw[List.take_succ_eq_append_getElem hk,List.map_append,List.append_assoc]
 rfl
theorem Zy {names:List ByteArray} {f:FunL} (h:v8 names f=0):(0≤f.params∧f.params≤6)∧(f.params≤f.regs∧f.regs≤100)∧(1≤f.blocks.length∧f.blocks.length≤40)∧zr f≤300:=by
 unfold v8 at h
 split at h
 ·cases h
 split at h
 ·cases h
 split at h
 ·cases h
 split at h
 ·cases h
 omega

theorem strs_own {w:World} {base:Nat} {t:TypeId} {v:Value} {S:List ByteArray} (h:w.ownsRow base t 1 v S.length (S.map .string)):∃p c,v = .slice p S.length c∧kn w p S:=by
 rcases h.2 with⟨h1,h2⟩|⟨g,cap,cur,h1,_⟩
 ·refine⟨none,0,?_,.inl ?_⟩
  ·rw[h1,show S.length=0 by simpa using h2]
  simpa using h2
 refine⟨_,_,h1,.inr ⟨g,0,rfl,fun i hi=>?_⟩⟩
 have h2:=h.cells (g:=g) (by rw[h1];rfl) i (.string S[i]) (by simp[hi])
 have h3:(⟨g,0,none⟩:Addr).add i=⟨g,i,none⟩:=by unfold Addr.add;split<;>simp_all
 rw[h3]at h2
 rw[Nat.zero_add]
 exact h2

theorem X2 (p:Option Addr) (c n:Nat) (S:List ByteArray) (v:ByteArray) (w:World) (hl:S.length=n) (hn:n≤9223372036854775807) (h:kn w p S) :
  Calls Tryz.prog 26 #[.slice p n c,.string v] w fun e w'=>e = .returned (.bool (JI S v))∧w=w':=by
 subst hl
 exact jZ _ _ _ _ _ hn h
theorem xu (w:World) (x:Value) (t:TypeId) (k:Nat) (hk:w.heap.size=k):∀j u,[x][j]?=some u→(w.alloc (.cells #[x] t)).cell? ((⟨k,0,none⟩:Addr).add j)=some u:=by
 subst hk
 exact cell_one_new w x t
theorem jM {W:World} {base:Nat} {e:TypeId} {size:Nat} {v:Value} {k:Nat} {xs:List Value} (h:W.ownsRow base e size v (k+1) xs):∃g cap,v = .slice (some ⟨g,0,none⟩) (k+1) cap:=by
 rcases h.2 with⟨_,h0⟩|⟨g,cap,_,rfl,_⟩
 ·omega
 exact⟨g,cap,rfl⟩
theorem gloE_12 {names:List ByteArray} {words:Int} {g:GloL} (h:(!jY g.name)=true):JO names words g=12:=by
 unfold JO
 rw[if_pos (by simpa using h)]
theorem gloE_7 {names:List ByteArray} {words:Int} {g:GloL} (h:(!jY g.name)=false) (h2:JI names g.name=true):JO names words g=7:=by
 unfold JO
 rw[if_neg (by simpa using h),if_pos h2]
theorem gloE_3 {names:List ByteArray} {words:Int} {g:GloL} (h:(!jY g.name)=false) (h2:JI names g.name=false) (h3:(!zS g.size 1 200)=true):JO names words g=3:=by
 unfold JO
 simp only[zS,Bool.not_eq_true',decide_eq_false_iff_not]at h3
 rw[if_neg (by simpa using h),if_neg (by simp[h2]),if_pos h3]
theorem X3 {n lo hi:Int} (h:(!zS n lo hi)=false):lo≤n∧n≤hi:=by
 simpa[zS]using h
theorem gloE_9 {names:List ByteArray} {words:Int} {g:GloL} (h:(!jY g.name)=false) (h2:JI names g.name=false) (h3:(!zS g.size 1 200)=false) (h4:g.size<g.init.length):JO names words g=9:=by
 have h3:=X3 h3
 unfold JO
 rw[if_neg (by simpa using h),if_neg (by simp[h2]),if_neg (by omega),if_pos h4]
theorem gloE_10 {names:List ByteArray} {words:Int} {g:GloL} (h:(!jY g.name)=false) (h2:JI names g.name=false) (h3:(!zS g.size 1 200)=false) (h4:¬g.size<g.init.length) (h6:0≤words∧words≤200) (h5:200<wrap64 (words+g.size)):JO names words g=10:=by
 have h3:=X3 h3
 rw[IntWalk.wrap64_in _ ⟨by omega,by omega⟩]at h5
 unfold JO
 rw[if_neg (by simpa using h),if_neg (by simp[h2]),if_neg (by omega),if_neg h4,if_pos h5]
theorem gloE_0 {names:List ByteArray} {words:Int} {g:GloL} (h:(!jY g.name)=false) (h2:JI names g.name=false) (h3:(!zS g.size 1 200)=false) (h4:¬g.size<g.init.length) (h6:0≤words∧words≤200) (h5:wrap64 (words+g.size)≤200):JO names words g=0∧wrap64 (words+g.size)=words+g.size∧0≤words+g.size∧words+g.size≤200:=by
 have h3:=X3 h3
 rw[IntWalk.wrap64_in _ ⟨by omega,by omega⟩]at h5 ⊢
 unfold JO
 rw[if_neg (by simpa using h),if_neg (by simp[h2]),if_neg (by omega),if_neg h4,if_neg (by omega)]
 exact⟨rfl,rfl,by omega,h5⟩
theorem res_two {w:World} {R:Nat} {T:TypeId} (h:w.heap[R]?=some (.cells #[.int .i64 0,.int .i64 0] T (0,0))) (o1 o2:Obj) (e a:Int) (j:Nat) :
  ((((w.setCell ⟨R,0,none⟩ (.int .i64 e)).setCell ⟨R,1,none⟩ (.int .i64 a)).alloc o1).alloc o2).cell? ⟨R,j,none⟩=(#[.int .i64 e,.int .i64 a]:Array Value)[j]?:=
 (blk (qh (qh (qg (qg h 0 _) 1 _)))).1 j
theorem JR {w:World} {R:Nat} {T:TypeId} (h:w.heap[R]?=some (.cells #[.int .i64 0,.int .i64 0] T (0,0))) (o1:Obj) (e a:Int) (j:Nat) :
  (((w.setCell ⟨R,0,none⟩ (.int .i64 e)).setCell ⟨R,1,none⟩ (.int .i64 a)).alloc o1).cell? ⟨R,j,none⟩=(#[.int .i64 e,.int .i64 a]:Array Value)[j]?:=
 (blk (qh (qg (qg h 0 _) 1 _))).1 j
theorem JS (w:World) (A:Array Value) (t:TypeId) (j:Nat) {v:Value} (h:A[j]?=some v):(w.alloc (.cells A t)).cell? ⟨w.heap.size,j,none⟩=some v:=
 ((blk (qm w _)).1 j).trans h
theorem head_any2 (f:FunL) (names:List ByteArray) (g1 fp bp np:Option Addr) (g2 g3 fl fc bc nc n:Nat) (w:World) (hn:names.length=n)
  (hs:f.name.size≤maxLen) (hr1:I64 f.params) (hr2:I64 f.regs) (hbl:f.blocks.length*96≤140737488351232) (hb:SliceAt w 6 (BlkR w) bp f.blocks) (hnl:n≤9223372036854775807) (hN:kn w np names) :
  Calls Tryz.prog 28 #[.agg #[.slice g1 g2 g3,.slice fp fl fc,.string f.name,.int .i64 f.params,.int .i64 f.regs,.slice bp f.blocks.length bc,.slice none 0 0],.slice np n nc] w fun e w'=>e = .returned (.int .i64 (v8 names f))∧Below w.heap.size w w':=by
 subst hn
 exact head_any f names _ _ _ _ _ _ _ _ _ _ w hs hr1 hr2 hbl hb hnl hN
theorem QN {w:World} {p:Option Addr} {xs:List BlkL} (h:SliceAt w 6 (BlkR w) p xs) (o1 o2:Obj):SliceAt ((w.alloc o1).alloc o2) 6 (BlkR ((w.alloc o1).alloc o2)) p xs:=
 have hb:Below w.heap.size w ((w.alloc o1).alloc o2):=((Below.refl _ _).alloc (Nat.le_refl _) _).alloc (by simp) _
 h.mono hb (by omega) fun _ _ h=>h.below hb
theorem JT {w:World} {p:Option Addr} {xs:List FunL} (h:SliceAt w 4 (FunR w) p xs) (o1 o2:Obj):SliceAt ((w.alloc o1).alloc o2) 4 (FunR ((w.alloc o1).alloc o2)) p xs:=
 have hb:Below w.heap.size w ((w.alloc o1).alloc o2):=((Below.refl _ _).alloc (Nat.le_refl _) _).alloc (by simp) _
 h.mono hb (by omega) fun _ _ h=>h.below hb
theorem X4 {w w':World} {base:Nat} {e:TypeId} {size:Nat} {v:Value} {n:Nat} {xs:List Value} (h:w.ownsRow base e size v n xs) (hb:Below w.heap.size w w'):w'.ownsRow base e size v n xs:=by
 refine h.kept (row:=none) ⟨hb.os,hb.tape,hb.output,hb.size,fun k hk _=>hb.block k hk⟩ ?_
 cases v.ownBlock with
 | none=>exact .inl rfl
 | some k=>exact .inr (by simp)
theorem res_zero {w:World} {R:Nat} {T:TypeId} (h:w.heap[R]?=some (.cells #[.int .i64 0,.int .i64 0] T (0,0))) (j:Nat) :
  ((w.setCell ⟨R,0,none⟩ (.int .i64 0)).setCell ⟨R,1,none⟩ (.int .i64 0)).cell? ⟨R,j,none⟩=(#[.int .i64 0,.int .i64 0]:Array Value)[j]?:=
 (blk (qg (qg h 0 _) 1 _)).1 j
theorem XM {w:World} {base k:Nat} {t:TypeId} {v:Value} {S:List ByteArray} (hl:S.length=k) (h:w.ownsRow base t 1 v k (S.map .string)):∃p c,v = .slice p k c∧kn w p S:=by
 subst hl
 exact strs_own h

theorem vh (u:UniL) (gp fp:Option Addr) (gc fc:Nat) (w:World) (hgl:u.globals.length*48≤140737488351232) (hG:SliceAt w 3 (GloR w) gp u.globals) (hfl:u.funcs.length*56≤140737488351232) (hF:SliceAt w 4 (FunR w) fp u.funcs) (hw0:Ways w) :
  Calls Tryz.prog 10 #[.agg #[.slice gp u.globals.length gc,.slice fp u.funcs.length fc]] w fun e w'=>e = .returned (.agg #[.int .i64 (chk u).1,.int .i64 (chk u).2])∧Below w.heap.size w w':=by
 obtain⟨i1,k1,k2,k3,k4⟩:=info_parts infoStr
 have HG:=q7 hG
 have HF:=q7 hF
 have HW:=q7 hw0
 clear hG hF hw0
 by_cases hbig:10<u.globals.length∨10<u.funcs.length
 ·have HV:=q7 (chk_big hbig)
  by_cases h1:10<u.globals.length
  ·clear hbig
   go_enter Tryz.func10,Tryz.ntmps10
   go_wp2_with (go_at_call 24;refine(xL _ _ _).mono ?_;rintro e w3 ⟨rfl,rfl⟩)
   refine bodyPost_ret (v:=.agg #[.int .i64 2,.int .i64 0]) ?_ rfl ⟨by rw[HV.out],?_⟩
   ·simp[results,Tryz.results10,go_sem]
   exact bZ
  have h2:10<u.funcs.length:=by omega
  clear hbig
  go_enter Tryz.func10,Tryz.ntmps10
  go_wp2_with (go_at_call 24;refine(xL _ _ _).mono ?_;rintro e w3 ⟨rfl,rfl⟩)
  refine bodyPost_ret (v:=.agg #[.int .i64 2,.int .i64 0]) ?_ rfl ⟨by rw[HV.out],?_⟩
  ·simp[results,Tryz.results10,go_sem]
  exact bZ
 have h1:u.globals.length≤10:=by omega
 have h2:u.funcs.length≤10:=by omega
 have hd1:decide (10<(u.globals.length:Int))=false:=by simp;omega
 have hd2:decide (10<(u.funcs.length:Int))=false:=by simp;omega
 clear hbig
 go_enter Tryz.func10,Tryz.ntmps10
 go_wp2_with fail
 go_loopw [3,4,31] (fun nm wd i wr=>∃k:Nat,k≤u.globals.length∧i = .int .i64 k∧wd = .int .i64 (jh u k)∧(0≤jh u k∧jh u k≤200)∧wr.ownsRow (w.heap.size+1+1) 9 1 nm k ((ji u k).map .string)∧(∀j,j<k→XI u j=0)∧Below (w.heap.size+1+1) ((w.alloc (.cells #[.slice gp u.globals.length gc,.slice fp u.funcs.length fc] 25)).alloc (.cells #[.int .i64 0,.int .i64 0] 27)) wr) (fun _ _ i _=>u.globals.length - (intOf i).toNat)
 case atStart=>exact⟨0,by omega,rfl,rfl,by simp[jh],World.ownsRow_nil _ _ _ _,fun j h=>by omega,Below.refl _ _⟩
 case round=>
  obtain⟨k,hk,rfl,rfl,⟨hw1,hw2⟩,hown,hV,hb⟩:=hrel
  have HO:=q7 hown
  have HV:=q7 hV
  have HBw:=q7 hb
  have hz:w.heap.size+1<wr.heap.size:=by have:=hb.size;simp at this;omega
  have hz2:w.heap.size<wr.heap.size:=by omega
  have HBx:Hid (Below w.heap.size w wr):=(((Below.refl _ _).alloc (Nat.le_refl _) _).alloc (by simp) _).trans (hb.mono (by omega))
  obtain⟨hcc,hcf⟩:=blk (qd hb (by omega) (qh (qm w _)))
  have hx:=res_two (qd hb (k:=w.heap.size+1) (by omega) (qj (w:=w.alloc (.cells #[.slice gp u.globals.length gc,.slice fp u.funcs.length fc] 25)) (by simp)))
  obtain⟨haO,haR⟩:=blk (qd hb (k:=w.heap.size+1) (by omega) (qj (w:=w.alloc (.cells #[.slice gp u.globals.length gc,.slice fp u.funcs.length fc] 25)) (by simp)))
  obtain⟨np,nc,rfl,hS⟩:∃p c,u3 = .slice p k c∧kn wr p (ji u k):=by
   exact XM (by simp[ji];omega) hown
  have HS:=q7 hS
  clear hown hV hb hS
  by_cases hlt:k<u.globals.length
  ·obtain⟨b2,o2,q,c,hp,e0,e1,e2,hns,hgs,hil,_⟩:=gloGet HG.out HBx.out hlt
   have hqu:=hgs.1
   have hqw:=hgs.2
   clear hgs
   subst hp
   have HE:Hid (XI u k=JO (ji u k) (jh u k) u.globals[k]):=gloI_eq hlt
   have hnl:(ji u k).length=k:=by simp[ji];omega
   go_wp2_with (first|(go_at_call 25;refine(Qs _ _ (by unfold maxLen;omega)).mono ?_;rintro e w1 ⟨rfl,rfl⟩)|(go_at_call 26;refine(X2 _ _ _ _ _ _ hnl (by omega) (vE HS.out ((Below.refl _ _).alloc (Nat.le_refl _) _))).mono ?_;rintro e w1 ⟨rfl,rfl⟩)|(go_at_call 27;refine(qD _ _ _ _).mono ?_;rintro e w1 ⟨rfl,rfl⟩)|(go_at_call 24;refine(xL _ _ _).mono ?_;rintro e w3 ⟨rfl,rfl⟩)|(at_builtin;refine wpList_append_own_at _ rfl _ _ 66 rfl (w.heap.size+1+1) 9 i1 (.string ⟨#[]⟩) 1 16 XL k1 k2 k3 k4 rfl (by decide) _ _ _ rfl ((HO.out.alloc _).alloc _) ⟨wr.heap.size+1,0,none⟩ 1 1 [.string u.globals[k].name] rfl rfl (xu _ _ _ _ (by simp)) (by simp[Value.oneCell']) (by unfold maxLen;omega) (by omega) ?c1 ?_))
   case c1=>simp;omega
   rotate_right
   ·intro v' w1 hown' hgrow _ _
    obtain⟨g',cap',rfl⟩:=jM hown'
    have HO2:Hid (w1.ownsRow (w.heap.size+1+1) 9 1 (.slice (some ⟨g',0,none⟩) (k+1) cap') (k+1) ((ji u (k+1)).map .string)):=by
     show World.ownsRow _ _ _ _ _ _ _
     rw[JP hlt,List.map_append]
     exact hown'
    have HB2:Hid (Below (w.heap.size+1+1) ((w.alloc (.cells #[.slice (some ⟨b2,o2,none⟩) u.globals.length gc,.slice fp u.funcs.length fc] 25)).alloc (.cells #[.int .i64 0,.int .i64 0] 27)) w1):=by
     refine((HBw.out.alloc (by omega) _).alloc (by simp;omega) _).grown hgrow (by simp;omega) (fun kk e=>?_)
     exact(HO.out.lt kk e).1
    have hb3:w1.cell? ⟨wr.heap.size,1,none⟩=some (.int .i64 u.globals[k].size):=by
     refine hgrow.cell (a:=⟨wr.heap.size,1,none⟩) ?_ (fun e=>?_)
     ·rw[World.cell?_of_block (Below.heap_alloc _ _ _ (by simp))]
      exact JS _ _ _ _ rfl
     have:=(HO.out.lt _ e.symm).2
     exact Nat.lt_irrefl _ this
    obtain⟨hg0,hg1,hg2,hg3⟩:=gloE_0 (by assumption) (by assumption) (by assumption) (by omega) ⟨hw1,hw2⟩ (by assumption)
    have HG0:=q7 hg0
    have HG1:=q7 hg1
    clear hown' hgrow hg0 hg1
    go_wp2
    refine⟨⟨k+1,by omega,by go_num,?_,?_,HO2.out,fun j hj=>?_,HB2.out⟩,by simp[intOf];omega⟩
    ·rw[Qd hlt,←HG1.out]
    ·rw[Qd hlt]
     exact⟨hg2,hg3⟩
    by_cases hj2:j<k
    ·exact HV.out j hj2
    obtain rfl:j=k:=by omega
    exact HE.out.trans HG0.out
   all_goals
    have HB1:=HBx
    have HX:=q7 hx
    clear hx
    first
     | (have HC:=q7 (QM h1 h2 hlt HV.out (HE.out.trans (gloE_12 (by assumption))) (by decide)))
     | (have HC:=q7 (QM h1 h2 hlt HV.out (HE.out.trans (gloE_7 (by assumption) (by assumption))) (by decide)))
     | (have HC:=q7 (QM h1 h2 hlt HV.out (HE.out.trans (gloE_3 (by assumption) (by assumption) (by assumption))) (by decide)))
     | (have HC:=q7 (QM h1 h2 hlt HV.out (HE.out.trans (gloE_9 (by assumption) (by assumption) (by assumption) (by assumption))) (by decide)))
     | (have HC:=q7 (QM h1 h2 hlt HV.out (HE.out.trans (gloE_10 (by assumption) (by assumption) (by assumption) (by omega) ⟨hw1,hw2⟩ (by assumption))) (by decide)))
    refine bodyPost_ret (v:=.agg #[.int .i64 (chk u).1,.int .i64 (chk u).2]) ?_ rfl ⟨rfl,?_⟩
    ·have hx:=HX.out
     rw[HC.out]
     simp[results,Tryz.results10,go_sem,hx]
    exact bZ
  have HGZ:Hid (∀j,j<u.globals.length→XI u j=0):=fun j hj=>HV.out j (by omega)
  have hkk:k=u.globals.length:=by omega
  have HN0:Hid (wr.ownsRow (w.heap.size+1+1) 9 1 (.slice np k nc) (u.globals.length+0) ((xU u 0).map .string)):=by
   have:=HO.out
   rw[hkk]at this ⊢
   have hn:xU u 0=ji u u.globals.length:=by simp[xU,ji]
   rw[hn]
   exact this
  clear HV HO HS hkk hx
  go_wp2_with fail
  go_loopw [3,82] (fun nm i wr=>∃k:Nat,k≤u.funcs.length∧i = .int .i64 k∧wr.ownsRow (w.heap.size+1+1) 9 1 nm (u.globals.length+k) ((xU u k).map .string)∧(∀j,j<k→ko u j=0)∧Below (w.heap.size+1+1) ((w.alloc (.cells #[.slice gp u.globals.length gc,.slice fp u.funcs.length fc] 25)).alloc (.cells #[.int .i64 0,.int .i64 0] 27)) wr) (fun _ i _=>u.funcs.length - (intOf i).toNat)
  case atStart=>exact⟨0,by omega,rfl,HN0.out,fun j h=>by omega,HBw.out⟩
  case round=>
   clear HN0 HBw hcc hcf haO haR HBx hz hz2
   obtain⟨k,hk,rfl,hown,hV,hb⟩:=hrel
   have HO:=q7 hown
   have HV:=q7 hV
   have HBw:=q7 hb
   have hz:w.heap.size+1<wr.heap.size:=by have:=hb.size;simp at this;omega
   have hz2:w.heap.size<wr.heap.size:=by omega
   have HBx:Hid (Below w.heap.size w wr):=(((Below.refl _ _).alloc (Nat.le_refl _) _).alloc (by simp) _).trans (hb.mono (by omega))
   obtain⟨hcc,hcf⟩:=blk (qd hb (by omega) (qh (qm w _)))
   have hRr:=qd hb (k:=w.heap.size+1) (by omega) (qj (w:=w.alloc (.cells #[.slice gp u.globals.length gc,.slice fp u.funcs.length fc] 25)) (o:=.cells #[.int .i64 0,.int .i64 0] 27) (by simp))
   obtain⟨haO,haR⟩:=blk hRr
   have HRr:=q7 hRr
   have hnl:(xU u k).length=u.globals.length+k:=by simp[xU];omega
   obtain⟨np,nc,hnm,hS⟩:=XM hnl hown
   subst hnm
   have HS:=q7 hS
   clear hown hV hb hS hRr
   by_cases hlt:k<u.funcs.length
   ·obtain⟨b2,o2,q,c,hp,e0,e1,e2,e3,hns,hr1,hr2,hbl,hbs⟩:=vX HF.out HBx.out hlt
    subst hp
    have HBS:=q7 hbs
    have HR1:=q7 hr1
    have HR2:=q7 hr2
    have HE:Hid (ko u k=v8 (xU u k) u.funcs[k]):=kp hlt
    clear hbs hr1 hr2
    go_wp2_with fail
    refine(head_any2 _ _ _ _ _ _ _ _ _ _ _ _ _ _ hnl (by unfold maxLen;omega) HR1.out HR2.out hbl ?_ (by omega) ?_).mono ?_
    ·exact QN HBS.out _ _
    ·exact vE HS.out (((Below.refl _ _).alloc (Nat.le_refl _) _).alloc (by simp) _)
    rintro e w3 ⟨rfl,hb3⟩
    generalize hE:v8 (xU u k) u.funcs[k]=ee
    have HE2:Hid (ko u k=ee):=HE.out.trans hE
    have HW3:Hid (Below wr.heap.size wr w3):=(((Below.refl _ _).alloc (Nat.le_refl _) _).alloc (by simp) _).trans (hb3.mono (by simp;omega))
    have hn3:w3.cell? ⟨wr.heap.size,0,none⟩=some (.string u.funcs[k].name):=by
     rw[(blk (qd hb3 (by simp;omega) (qh (qm wr _)))).1 0];rfl
    have hR3:=qd HW3.out hz HRr.out
    have hx:=JR hR3
    have HB1:Hid (Below w.heap.size w w3):=HBx.out.trans (HW3.out.mono (by omega))
    have hz3:wr.heap.size<w3.heap.size:=by have:=hb3.size;simp at this;omega
    have hz4:w.heap.size+1<w3.heap.size:=by omega
    clear haO haR hcc hcf
    obtain⟨haO,haR⟩:=blk hR3
    clear hE HE hb3 hR3
    by_cases hz0:ee=0
    ·have hzb:(ee != 0)=false:=by simp[hz0]
     have HZ:=q7 hz0
     have HO3:=q7 (X4 HO.out HW3.out)
     clear hz0 hx
     go_wp2_with (at_builtin;refine wpList_append_own_at _ rfl _ _ 66 rfl (w.heap.size+1+1) 9 i1 (.string ⟨#[]⟩) 1 16 XL k1 k2 k3 k4 rfl (by decide) _ _ _ rfl (HO3.out.alloc _) ⟨w3.heap.size,0,none⟩ 1 1 [.string u.funcs[k].name] rfl rfl (xu _ _ _ _ (by simp)) (by simp[Value.oneCell']) (by unfold maxLen;omega) (by omega) ?_ ?_)
     ·simp;omega
     intro v' w1 hown' hgrow _ _
     obtain⟨g',cap',rfl⟩:=jM hown'
     have HO2:Hid (w1.ownsRow (w.heap.size+1+1) 9 1 (.slice (some ⟨g',0,none⟩) (u.globals.length+k+1) cap') (u.globals.length+(k+1)) ((xU u (k+1)).map .string)):=by
      show World.ownsRow _ _ _ _ _ _ _
      rw[JQ hlt,List.map_append]
      exact hown'
     have HB2:Hid (Below (w.heap.size+1+1) ((w.alloc (.cells #[.slice gp u.globals.length gc,.slice (some ⟨b2,o2,none⟩) u.funcs.length fc] 25)).alloc (.cells #[.int .i64 0,.int .i64 0] 27)) w1):=by
      refine((HBw.out.trans (HW3.out.mono (by omega))).alloc (by omega) _).grown hgrow (by simp;omega) (fun kk e=>?_)
      exact(HO.out.lt kk e).1
     clear hown' hgrow
     go_wp2_with fail
     refine⟨⟨k+1,by omega,by go_num,HO2.out,fun j hj=>?_,HB2.out⟩,by simp[intOf];omega⟩
     by_cases hj2:j<k
     ·exact HV.out j hj2
     obtain rfl:j=k:=by omega
     exact HE2.out.trans HZ.out
    have hzb:(ee != 0)=true:=by simp[hz0]
    have HZ:=q7 hz0
    have HX:=q7 hx
    have HC:=q7 (chk_head h1 h2 HGZ.out hlt HV.out HE2.out hz0)
    clear hz0 hx
    go_wp2_with (go_at_call 24;refine(xL _ _ _).mono ?_;rintro e w4 ⟨rfl,rfl⟩)
    refine bodyPost_ret (v:=.agg #[.int .i64 (chk u).1,.int .i64 (chk u).2]) ?_ rfl ⟨rfl,?_⟩
    ·have hx:=HX.out
     rw[HC.out]
     simp[results,Tryz.results10,go_sem,hx]
    exact bZ
   have HHZ:Hid (∀j,j<u.funcs.length→ko u j=0):=fun j hj=>HV.out j (by omega)
   clear HV HO HS
   go_wp2_with fail
   go_loopw [107] (fun i wr=>∃k:Nat,k≤u.funcs.length∧i = .int .i64 k∧(∀j,j<k→kS u j=0)∧Below (w.heap.size+1+1) ((w.alloc (.cells #[.slice gp u.globals.length gc,.slice fp u.funcs.length fc] 25)).alloc (.cells #[.int .i64 0,.int .i64 0] 27)) wr) (fun i _=>u.funcs.length - (intOf i).toNat)
   case atStart=>exact⟨0,by omega,rfl,fun j h=>by omega,HBw.out⟩
   case round=>
    clear HBw hcc hcf haO haR HBx hz hz2 HRr
    obtain⟨k,hk,rfl,hV,hb⟩:=hrel
    have HV:=q7 hV
    have HBw:=q7 hb
    have hz:w.heap.size+1<wr.heap.size:=by have:=hb.size;simp at this;omega
    have hz2:w.heap.size<wr.heap.size:=by omega
    have HBx:Hid (Below w.heap.size w wr):=(((Below.refl _ _).alloc (Nat.le_refl _) _).alloc (by simp) _).trans (hb.mono (by omega))
    obtain⟨hcc,hcf⟩:=blk (qd hb (by omega) (qh (qm w _)))
    have hRr:=qd hb (k:=w.heap.size+1) (by omega) (qj (w:=w.alloc (.cells #[.slice gp u.globals.length gc,.slice fp u.funcs.length fc] 25)) (o:=.cells #[.int .i64 0,.int .i64 0] 27) (by simp))
    obtain⟨haO,haR⟩:=blk hRr
    have HRr:=q7 hRr
    clear hV hb hRr
    by_cases hlt:k<u.funcs.length
    ·obtain⟨b2,o2,q,c,hp,e0,e1,e2,e3,hns,hr1,hr2,hbl,hbs⟩:=vX HF.out HBx.out hlt
     subst hp
     obtain⟨⟨hp0,hp1⟩,⟨hp2,hp3⟩,⟨hp4,hp5⟩,_⟩:=Zy ((kp hlt).symm.trans (HHZ.out k hlt))
     obtain⟨qb,qo,rfl⟩:∃qb qo,q=some ⟨qb,qo,none⟩:=by
      rcases hbs with h0|⟨b,o,hp,_⟩
      ·rw[h0]at hp4;simp at hp4
      exact⟨b,o,hp⟩
     have HBS:=q7 hbs
     have HE:Hid (kS u k=jW u u.funcs[k]):=X1 hlt
     clear hbs hr1 hr2
     go_wp2_with fail
     refine(body_any u u.funcs[k] _ _ _ _ _ _ _ _ _ (by omega) (by omega) hp4 hp5 h2 ?_ ?_ ?_).mono ?_
     ·exact JT (HF.out.mono HBx.out (by omega) fun _ _ h=>h.below HBx.out) _ _
     ·exact QN HBS.out _ _
     ·exact HW.out.below ((HBx.out.alloc (by omega) _).alloc (by simp;omega) _)
     rintro e w3 ⟨rfl,hb3⟩
     generalize hE:jW u u.funcs[k]=ee
     have HE2:Hid (kS u k=ee):=HE.out.trans hE
     have HW3:Hid (Below wr.heap.size wr w3):=(((Below.refl _ _).alloc (Nat.le_refl _) _).alloc (by simp) _).trans (hb3.mono (by simp;omega))
     have hR3:=qd HW3.out hz HRr.out
     have hx:=JR hR3
     have HB1:Hid (Below w.heap.size w w3):=HBx.out.trans (HW3.out.mono (by omega))
     have hz4:w.heap.size+1<w3.heap.size:=by have:=hb3.size;simp at this;omega
     clear haO haR hcc hcf
     obtain⟨haO,haR⟩:=blk hR3
     clear hE HE hb3 hR3
     by_cases hz0:ee=0
     ·have hzb:(ee != 0)=false:=by simp[hz0]
      have HZ:=q7 hz0
      clear hz0 hx
      go_wp2_with fail
      refine⟨⟨k+1,by omega,by go_num,fun j hj=>?_,HBw.out.trans (HW3.out.mono (by omega))⟩,by simp[intOf];omega⟩
      by_cases hj2:j<k
      ·exact HV.out j hj2
      obtain rfl:j=k:=by omega
      exact HE2.out.trans HZ.out
     have hzb:(ee != 0)=true:=by simp[hz0]
     have HZ:=q7 hz0
     have HX:=q7 hx
     have HC:=q7 (chk_body h1 h2 HGZ.out HHZ.out hlt HV.out HE2.out hz0)
     clear hz0 hx
     go_wp2_with (go_at_call 24;refine(xL _ _ _).mono ?_;rintro e w4 ⟨rfl,rfl⟩)
     refine bodyPost_ret (v:=.agg #[.int .i64 (chk u).1,.int .i64 (chk u).2]) ?_ rfl ⟨rfl,?_⟩
     ·have hx:=HX.out
      rw[HC.out]
      simp[results,Tryz.results10,go_sem,hx]
     exact bZ
    have HC:=q7 (chk_main h1 h2 HGZ.out HHZ.out (fun j hj=>HV.out j (by omega)))
    clear HV
    go_wp2_with fail
    refine(X0 u.funcs _ _ _ (by omega) (HF.out.mono HBx.out (by omega) fun _ _ h=>h.below HBx.out)).mono ?_
    rintro e w3 ⟨rfl,hb3⟩
    have hR3:=qd hb3 hz HRr.out
    have hx:=JR hR3
    have hx0:=res_zero hR3
    have hqy:=(blk (qd hb3 hz2 (qd HBw.out (by omega) (qh (qm w _))))).1
    have HB1:Hid (Below w.heap.size w w3):=HBx.out.trans (hb3.mono (by omega))
    have hz4:w.heap.size+1<w3.heap.size:=by have:=hb3.size;omega
    have hz5:w.heap.size<w3.heap.size:=by omega
    clear haO haR hcc hcf
    obtain⟨haO,haR⟩:=blk hR3
    clear hb3 hR3
    cases hm:vQ u.funcs with
    | none=>
     have HC2:Hid (chk u=(6,0)):=by
      show _=_
      rw[HC.out,hm]
     have ho:optI none = -1:=rfl
     rw[ho]
     have HX:=q7 hx
     clear hm HC hx hx0 ho
     go_wp2_with (go_at_call 24;refine(xL _ _ _).mono ?_;rintro e w4 ⟨rfl,rfl⟩)
     refine bodyPost_ret (v:=.agg #[.int .i64 (chk u).1,.int .i64 (chk u).2]) ?_ rfl ⟨rfl,?_⟩
     ·have hx:=HX.out
      rw[HC2.out]
      simp[results,Tryz.results10,go_sem,hx]
     exact bZ
    | some m=>
     have hml:m<u.funcs.length:=List.mem_range.1 (List.mem_of_find?_eq_some hm)
     obtain⟨b2,o2,q,c,hp,e0,e1,e2,e3,hns,hr1,hr2,hbl,hbs⟩:=vX HF.out HB1.out hml
     subst hp
     have hcD:Zn u m=u.funcs[m].params:=by simp[Zn,List.getD,hml]
     have HC2:Hid (chk u=if 0<u.funcs[m].params then(5,(m:Int)) else(0,0)):=by
      show _=_
      rw[HC.out,hm]
      simp only
      rw[hcD]
     have ho:optI (some m)=(m:Int):=rfl
     rw[ho]
     have HX:=q7 hx
     have HX0:=q7 hx0
     clear hm HC hx hx0 ho hcD hbs hr1 hr2
     by_cases hpm:0<u.funcs[m].params
     ·have HC3:=HC2.out
      rw[if_pos hpm]at HC3
      have HC4:=q7 HC3
      clear HC2 HC3
      go_wp2_with (go_at_call 24;refine(xL _ _ _).mono ?_;rintro e w4 ⟨rfl,rfl⟩)
      refine bodyPost_ret (v:=.agg #[.int .i64 (chk u).1,.int .i64 (chk u).2]) ?_ rfl ⟨rfl,?_⟩
      ·have hx:=HX.out
       rw[HC4.out]
       simp[results,Tryz.results10,go_sem,hx]
      exact bZ
     have HC3:=HC2.out
     rw[if_neg hpm]at HC3
     have HC4:=q7 HC3
     clear HC2 HC3
     go_wp2_with fail
     refine bodyPost_ret (v:=.agg #[.int .i64 (chk u).1,.int .i64 (chk u).2]) ?_ rfl ⟨rfl,?_⟩
     ·have hx:=HX0.out
      rw[HC4.out]
      simp[results,Tryz.results10,go_sem,hx]
     exact bZ

structure ChkOk (u:UniL):Prop where
 ng:u.globals.length≤10
 nf:u.funcs.length≤10
 glo:∀j,j<u.globals.length→XI u j=0
 head:∀j,j<u.funcs.length→ko u j=0
 body:∀j,j<u.funcs.length→kS u j=0
 main:∃m,vQ u.funcs=some m∧Zn u m≤0

theorem vj {n:Nat} {g:Nat→Int} {r:Int×Int} (h:xG n g=some r):r.1≠0:=by
 unfold xG at h
 rw[Option.map_eq_some_iff]at h
 obtain⟨i,hi,rfl⟩:=h
 have:=List.find?_some hi
 simpa using this

theorem XN (u:UniL):(chk u=(0,0)∧ChkOk u)∨(chk u).1≠0:=by
 unfold chk chkO
 split
 ·exact .inr (by simp)
 rename_i hs
 cases hg:xG u.globals.length (XI u) with
 | some r=>exact .inr (by simpa using vj hg)
 | none=>
  simp only
  cases hh:xG u.funcs.length (ko u) with
  | some r=>exact .inr (by simpa using vj hh)
  | none=>
   simp only
   cases hb:xG u.funcs.length (kS u) with
   | some r=>exact .inr (by simpa using vj hb)
   | none=>
    simp only
    rw[QL]
    cases hm:vQ u.funcs with
    | none=>exact .inr (by simp)
    | some m=>
     simp only
     split
     ·exact .inr (by simp)
     rename_i hp
     exact .inl ⟨rfl,by omega,by omega,kb hg,kb hh,kb hb,m,hm,by omega⟩
theorem vk {u:UniL} (h:(chk u).1=0):chk u=(0,0)∧ChkOk u:=(XN u).resolve_right (by simp[h])

theorem ChkOk.fn {u:UniL} (h:ChkOk u) {k:Nat} (hk:k<u.funcs.length):(0≤u.funcs[k].params∧u.funcs[k].params≤6)∧(u.funcs[k].params≤u.funcs[k].regs∧u.funcs[k].regs≤100)∧(1≤u.funcs[k].blocks.length∧u.funcs[k].blocks.length≤40)∧zr u.funcs[k]≤300:=
 Zy ((kp hk).symm.trans (h.head k hk))

def IntsR (w:World) (cs:List Value) (xs:List Int):Prop:=∃q c,cs=[.slice q xs.length c]∧xs.length≤140737488355328∧SliceAt w 1 xT q xs
theorem IntsR.below {w w':World} {cs:List Value} {xs:List Int} (h:IntsR w cs xs) (hb:Below w.heap.size w w'):IntsR w' cs xs:=by
 obtain⟨q,c,h1,h2,h3⟩:=h
 exact⟨q,c,h1,h2,h3.mono hb (by omega) fun _ _ h=>h⟩
theorem rowGet {w w':World} {p:Option Addr} {xs:List (List Int)} (h:SliceAt w 1 (IntsR w) p xs) (hb:Below w.heap.size w w') {i:Nat} (hi:i<xs.length) :
  ∃b o q c,p=some ⟨b,o,none⟩∧w'.cell? ⟨b,o+i,none⟩=some (.slice q xs[i].length c)∧xs[i].length≤140737488355328∧SliceAt w' 1 xT q xs[i]:=by
 rcases h with rfl|⟨b,o,hp,h⟩
 ·simp at hi
 obtain⟨cs,_,hc,q,c,rfl,hl,hs⟩:=h i hi
 have h0:=hc 0 (by omega)
 simp only[Nat.mul_one,Nat.add_zero,List.getElem?_cons_zero]at h0
 exact⟨b,o,q,c,hp,(hb.cell (p:=⟨b,o+i,none⟩) (q8 h0)).trans h0,hl,hs.mono hb (by omega) fun _ _ h=>h⟩

theorem same_no {α:Type} [DecidableEq α] {xs ys:List α} {k:Nat} (h1:k<xs.length) (h2:k<ys.length) (h:xs[k]≠ys[k]):decide (xs=ys)=false:=by
 rw[decide_eq_false_iff_not]
 rintro rfl
 exact h rfl

theorem ints_any (xs ys:List Int) (p q:Option Addr) (c d:Nat) (w:World) (hx:xs.length≤140737488355328) (hy:ys.length≤140737488355328) (hX:SliceAt w 1 xT p xs) (hY:SliceAt w 1 xT q ys) :
  Calls Tryz.prog 67 #[.slice p xs.length c,.slice q ys.length d] w fun e w'=>e = .returned (.bool (decide (xs=ys)))∧Below w.heap.size w w':=by
 have HX:=q7 hX
 have HY:=q7 hY
 clear hX hY
 by_cases hl:xs.length=ys.length
 rotate_left
 ·have hlb:((xs.length:Int) != ys.length)=true:=by simp;omega
  have HE:Hid (decide (xs=ys)=false):=by
   show _=_
   rw[decide_eq_false_iff_not]
   rintro rfl
   exact hl rfl
  clear hl
  go_enter Tryz.func67,Tryz.ntmps67
  go_wp2
  go_ret
  exact⟨by rw[HE.out];rfl,Below.refl _ _⟩
 have hlb:((xs.length:Int) != ys.length)=false:=by simp[hl]
 have hl1:xs.length≤ys.length:=by omega
 have hl2:ys.length≤xs.length:=by omega
 have HL:=q7 hl
 clear hl
 go_enter Tryz.func67,Tryz.ntmps67
 go_wp2
 go_loopw [5] (fun i wr=>∃k:Nat,k≤xs.length∧i = .int .i64 k∧(∀j (h1:j<xs.length) (h2:j<ys.length),j<k→xs[j]=ys[j])∧Below w.heap.size w wr) (fun i _=>xs.length - (intOf i).toNat)
 case atStart=>exact⟨0,by omega,rfl,fun j _ _ h=>by omega,Below.refl _ _⟩
 case round=>
  obtain⟨k,hk,rfl,hV,hb⟩:=hrel
  have HV:=q7 hV
  have HB:=q7 hb
  clear hV hb
  by_cases hlt:k<xs.length
  rotate_left
  ·go_wp2
   go_ret
   refine⟨?_,HB.out⟩
   rw[decide_eq_true (List.ext_getElem HL.out fun j h1 h2=>HV.out j h1 h2 (by omega))]
   rfl
  have hlt2:k<ys.length:=by omega
  obtain⟨b1,o1,hp,e0,_⟩:=kl HX.out HB.out hlt
  obtain⟨b2,o2,hq,f0,_⟩:=kl HY.out HB.out hlt2
  subst hp hq
  have g1:(0:Int)≤(k:Int):=by omega
  have g2:(k:Int)<xs.length:=by omega
  have g3:(k:Int)<ys.length:=by omega
  by_cases he:xs[k]=ys[k]
  ·have hne:(xs[k] != ys[k])=false:=by simp[he]
   have HE:=q7 he
   clear he
   go_wp2
   go_quiet (fail)
   go_wp2
   refine⟨⟨k+1,by omega,by go_num,fun j h1 h2 hj=>?_,below_drewN HB.out _⟩,by simp[intOf];omega⟩
   by_cases hj2:j<k
   ·exact HV.out j h1 h2 hj2
   obtain rfl:j=k:=by omega
   exact HE.out
  have hne:(xs[k] != ys[k])=true:=by simp[he]
  have HE:=q7 (same_no hlt hlt2 he)
  clear he
  go_wp2
  go_quiet (fail)
  go_wp2
  go_ret
  exact⟨by rw[HE.out];rfl,below_drewN HB.out _⟩

theorem Vz (g i:Nat):(⟨g,0,none⟩:Addr).add i=⟨g,i,none⟩:=by unfold Addr.add;split<;>simp_all

theorem jt {w:World} {B B':Nat} {e:TypeId} {size:Nat} {v:Value} {n:Nat} {xs:List Value} (h:w.ownsRow B' e size v n xs) (hb:B≤B'):w.ownsRow B e size v n xs:=by
 refine⟨h.1,?_⟩
 rcases h.2 with h2|⟨g,cap,cur,h1,h2,h3⟩
 ·exact .inl h2
 exact .inr ⟨g,cap,cur,h1,by omega,h3⟩
theorem zZ {w:World} {B:Nat} {e:TypeId} {v:Value} {n:Nat} {xs:List Value} (h:w.ownsRow B e 1 v n xs):∃p c,v = .slice p n c:=by
 rcases h.2 with⟨h1,h2⟩|⟨g,cap,cur,h1,_⟩
 ·exact⟨none,0,by rw[h1,h2]⟩
 exact⟨_,_,h1⟩
theorem jN {w:World} {B:Nat} {e:TypeId} {p:Option Addr} {n c:Nat} {xs:List Value} (h:w.ownsRow B e 1 (.slice p n c) n xs) {i:Nat} (hi:i<n):∃g,p=some ⟨g,0,none⟩∧B≤g∧g<w.heap.size∧w.cell? ⟨g,i,none⟩=xs[i]?:=by
 have hl:xs.length=n:=by simpa using h.1
 rcases h.2 with⟨h1,h2⟩|⟨g,cap,cur,h1,hb,hh,hr⟩
 ·omega
 cases h1
 refine⟨g,rfl,hb,(Array.getElem?_eq_some_iff.1 hh).1,?_⟩
 have:=h.cells (g:=g) rfl i xs[i] (List.getElem?_eq_getElem _)
 rw[Vz]at this
 rw[this,List.getElem?_eq_getElem]
theorem VA {w:World} {B:Nat} {e:TypeId} {v:Value} {n:Nat} {xs:List Int} (hl:xs.length=n) (h:w.ownsRow B e 1 v n (xs.map (.int .i64))) (hI:∀x∈xs,I64 x):∃p c,v = .slice p xs.length c∧SliceAt w 1 xT p xs:=by
 obtain⟨p,c,rfl⟩:=zZ h
 refine⟨p,c,by rw[hl],?_⟩
 rcases Nat.eq_zero_or_pos n with h0|h0
 ·exact .inl (List.length_eq_zero_iff.1 (hl.trans h0))
 obtain⟨g,rfl,_⟩:=jN h h0
 refine .inr ⟨g,0,rfl,fun i hi=>⟨[.int .i64 xs[i]],rfl,fun j hj=>?_,rfl,hI _ (List.getElem_mem hi)⟩⟩
 obtain rfl:j=0:=by omega
 obtain⟨g',hg,_,_,hc⟩:=jN h (i:=i) (by omega)
 cases hg
 simp only[Nat.zero_add,Nat.mul_one,Nat.add_zero]
 rw[hc]
 simp[hi]

theorem xP {w w':World} {base:Nat} {e:TypeId} {size:Nat} {v:Value} {n:Nat} {xs:List Value} (h:w.ownsRow base e size v n xs) (hb:Below w.heap.size w w'):w'.ownsRow base e size v n xs:=by
 refine h.kept (row:=none) ⟨hb.os,hb.tape,hb.output,hb.size,fun k hk _=>hb.block k hk⟩ ?_
 cases v.ownBlock with
 | none=>exact .inl rfl
 | some k=>exact .inr (by simp)
end Go.Proofs.YtecdphhdmjmmnaaGreatDoor
