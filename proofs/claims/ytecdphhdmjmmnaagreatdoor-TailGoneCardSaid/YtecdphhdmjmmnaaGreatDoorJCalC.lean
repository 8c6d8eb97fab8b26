/-
  Plain: a list of rows of numbers that a call makes: the outer slice and each row own memor
-/
import Derived.Test.YtecdphhdmjmmnaaGreatDoorJChkQ
import Derived.Deep.RegionHeld3
set_option maxRecDepth 100000
set_option maxHeartbeats 16000000
namespace Go.Proofs.YtecdphhdmjmmnaaGreatDoor
open Go.RowKit

theorem X6:Tryz.prog.underlying 66=some (.slice 9):=by kernel_rfl
theorem infoStr:(Tryz.prog.info? 9).map (fun i=>(i.zero,i.size,i.bytes))=some (some (.string ⟨#[]⟩),1,16):=by kernel_rfl

theorem Qb (u:UniL):mainAt u=vA u.funcs:=rfl
theorem chk_big {u:UniL} (h:10<u.globals.length∨10<u.funcs.length):chk u=(2,0):=by
 unfold chk chkO
 rw[if_pos h];rfl
theorem Qc {u:UniL} {k:Nat} {e:Int} (h1:u.globals.length≤10) (h2:u.funcs.length≤10) (hk:k<u.globals.length) (h0:∀j,j<k→X3 u j=0) (h:X3 u k=e) (he:e≠0):chk u=(e,(k:Int)):=by
 unfold chk chkO
 rw[if_neg (by omega),vO hk h0 (by rw[h];exact he),h];rfl
theorem chk_head {u:UniL} {k:Nat} {e:Int} (h1:u.globals.length≤10) (h2:u.funcs.length≤10) (hg:∀j,j<u.globals.length→X3 u j=0) (hk:k<u.funcs.length) (h0:∀j,j<k→vX u j=0) (h:vX u k=e) (he:e≠0):chk u=(e,(k:Int)):=by
 unfold chk chkO
 rw[if_neg (by omega),zi hg]
 simp only
 rw[vO hk h0 (by rw[h];exact he),h];rfl
theorem chk_body {u:UniL} {k:Nat} {e:Int} (h1:u.globals.length≤10) (h2:u.funcs.length≤10) (hg:∀j,j<u.globals.length→X3 u j=0) (hh:∀j,j<u.funcs.length→vX u j=0) (hk:k<u.funcs.length) (h0:∀j,j<k→kv u j=0) (h:kv u k=e) (he:e≠0):chk u=(e,(k:Int)):=by
 unfold chk chkO
 rw[if_neg (by omega),zi hg]
 simp only
 rw[zi hh]
 simp only
 rw[vO hk h0 (by rw[h];exact he),h];rfl
theorem chk_main {u:UniL} (h1:u.globals.length≤10) (h2:u.funcs.length≤10) (hg:∀j,j<u.globals.length→X3 u j=0) (hh:∀j,j<u.funcs.length→vX u j=0) (hb:∀j,j<u.funcs.length→kv u j=0) :
  chk u=match vA u.funcs with|none=>(6,0)|some m=>if 0<QP u m then(5,(m:Int)) else(0,0):=by
 unfold chk chkO
 rw[if_neg (by omega),zi hg]
 simp only
 rw[zi hh]
 simp only
 rw[zi hb,Qb]
 simp only
 cases vA u.funcs with
 | none=>rfl
 | some m=>
  simp only
  split<;>rfl
theorem gloI_eq {u:UniL} {k:Nat} (hk:k<u.globals.length):X3 u k=J1 (xT u k) (xS u k) u.globals[k]:=by
 unfold X3
 rw[List.getElem?_eq_getElem hk]
theorem vY {u:UniL} {k:Nat} (hk:k<u.funcs.length):vX u k=jK (xE u k) u.funcs[k]:=by
 unfold vX
 rw[List.getElem?_eq_getElem hk]
theorem Zl {u:UniL} {k:Nat} (hk:k<u.funcs.length):kv u k=jG u u.funcs[k]:=by
 unfold kv
 rw[List.getElem?_eq_getElem hk]
theorem kN {u:UniL} {k:Nat} (hk:k<u.globals.length):xS u (k+1)=xS u k+u.globals[k].size:=by
 unfold xS
 rw[List.take_succ_eq_append_getElem hk,List.map_append,List.sum_append]
 simp
theorem J2 {u:UniL} {k:Nat} (hk:k<u.globals.length):xT u (k+1)=xT u k++[u.globals[k].name]:=by
 unfold xT
 rw[List.take_succ_eq_append_getElem hk,List.map_append]
 rfl
theorem J3 {u:UniL} {k:Nat} (hk:k<u.funcs.length):xE u (k+1)=xE u k++[u.funcs[k].name]:=by
 unfold xE
 rw[List.take_succ_eq_append_getElem hk,List.map_append,List.append_assoc]
 rfl
theorem QU {names:List ByteArray} {f:FunL} (h:jK names f=0):(0≤f.params∧f.params≤6)∧(f.params≤f.regs∧f.regs≤100)∧(1≤f.blocks.length∧f.blocks.length≤40)∧z6 f≤300:=by
 unfold jK at h
 split at h
 ·cases h
 split at h
 ·cases h
 split at h
 ·cases h
 split at h
 ·cases h
 omega

theorem strs_own {w:World} {base:Nat} {t:TypeId} {v:Value} {S:List ByteArray} (h:w.ownsRow base t 1 v S.length (S.map .string)):∃p c,v = .slice p S.length c∧vW w p S:=by
 rcases h.2 with⟨h1,h2⟩|⟨g,cap,cur,h1,_⟩
 ·refine⟨none,0,?_,.inl ?_⟩
  ·rw[h1,show S.length=0 by simpa using h2]
  simpa using h2
 refine⟨_,_,h1,.inr ⟨g,0,rfl,fun i hi=>?_⟩⟩
 have h2:=h.cells (g:=g) (by rw[h1];rfl) i (.string S[i]) (by simp[hi])
 have h3:(⟨g,0,none⟩:Addr).add i=⟨g,i,none⟩:=by unfold Addr.add;split<;>simp_all
 rw[h3]at h2
 rw[Nat.zero_add]
 exact h2

theorem Zm (p:Option Addr) (c n:Nat) (S:List ByteArray) (v:ByteArray) (w:World) (hl:S.length=n) (hn:n≤9223372036854775807) (h:vW w p S) :
  Calls Tryz.prog 26 #[.slice p n c,.string v] w fun e w'=>e = .returned (.bool (XU S v))∧w=w':=by
 subst hl
 exact jJ _ _ _ _ _ hn h
theorem xg (w:World) (x:Value) (t:TypeId) (k:Nat) (hk:w.heap.size=k):∀j u,[x][j]?=some u→(w.alloc (.cells #[x] t)).cell? ((⟨k,0,none⟩:Addr).add j)=some u:=by
 subst hk
 exact cell_one_new w x t
theorem jy {W:World} {base:Nat} {e:TypeId} {size:Nat} {v:Value} {k:Nat} {xs:List Value} (h:W.ownsRow base e size v (k+1) xs):∃g cap,v = .slice (some ⟨g,0,none⟩) (k+1) cap:=by
 rcases h.2 with⟨_,h0⟩|⟨g,cap,_,rfl,_⟩
 ·omega
 exact⟨g,cap,rfl⟩
theorem gloE_12 {names:List ByteArray} {words:Int} {g:GloL} (h:(!jI g.name)=true):J1 names words g=12:=by
 unfold J1
 rw[if_pos (by simpa using h)]
theorem gloE_7 {names:List ByteArray} {words:Int} {g:GloL} (h:(!jI g.name)=false) (h2:XU names g.name=true):J1 names words g=7:=by
 unfold J1
 rw[if_neg (by simpa using h),if_pos h2]
theorem gloE_3 {names:List ByteArray} {words:Int} {g:GloL} (h:(!jI g.name)=false) (h2:XU names g.name=false) (h3:(!zJ g.size 1 200)=true):J1 names words g=3:=by
 unfold J1
 simp only[zJ,Bool.not_eq_true',decide_eq_false_iff_not]at h3
 rw[if_neg (by simpa using h),if_neg (by simp[h2]),if_pos h3]
theorem Zn {n lo hi:Int} (h:(!zJ n lo hi)=false):lo≤n∧n≤hi:=by
 simpa[zJ]using h
theorem gloE_9 {names:List ByteArray} {words:Int} {g:GloL} (h:(!jI g.name)=false) (h2:XU names g.name=false) (h3:(!zJ g.size 1 200)=false) (h4:g.size<g.init.length):J1 names words g=9:=by
 have h3:=Zn h3
 unfold J1
 rw[if_neg (by simpa using h),if_neg (by simp[h2]),if_neg (by omega),if_pos h4]
theorem gloE_10 {names:List ByteArray} {words:Int} {g:GloL} (h:(!jI g.name)=false) (h2:XU names g.name=false) (h3:(!zJ g.size 1 200)=false) (h4:¬g.size<g.init.length) (h6:0≤words∧words≤200) (h5:200<wrap64 (words+g.size)):J1 names words g=10:=by
 have h3:=Zn h3
 rw[IntWalk.wrap64_in _ ⟨by omega,by omega⟩]at h5
 unfold J1
 rw[if_neg (by simpa using h),if_neg (by simp[h2]),if_neg (by omega),if_neg h4,if_pos h5]
theorem gloE_0 {names:List ByteArray} {words:Int} {g:GloL} (h:(!jI g.name)=false) (h2:XU names g.name=false) (h3:(!zJ g.size 1 200)=false) (h4:¬g.size<g.init.length) (h6:0≤words∧words≤200) (h5:wrap64 (words+g.size)≤200):J1 names words g=0∧wrap64 (words+g.size)=words+g.size∧0≤words+g.size∧words+g.size≤200:=by
 have h3:=Zn h3
 rw[IntWalk.wrap64_in _ ⟨by omega,by omega⟩]at h5 ⊢
 unfold J1
 rw[if_neg (by simpa using h),if_neg (by simp[h2]),if_neg (by omega),if_neg h4,if_neg (by omega)]
 exact⟨rfl,rfl,by omega,h5⟩
theorem res_two {w:World} {R:Nat} {T:TypeId} (h:w.heap[R]?=some (.cells #[.int .i64 0,.int .i64 0] T (0,0))) (o1 o2:Obj) (e a:Int) (j:Nat) :
  ((((w.setCell ⟨R,0,none⟩ (.int .i64 e)).setCell ⟨R,1,none⟩ (.int .i64 a)).alloc o1).alloc o2).cell? ⟨R,j,none⟩=(#[.int .i64 e,.int .i64 a]:Array Value)[j]?:=
 (blk (qj (qj (qd (qd h 0 _) 1 _)))).1 j
theorem J4 {w:World} {R:Nat} {T:TypeId} (h:w.heap[R]?=some (.cells #[.int .i64 0,.int .i64 0] T (0,0))) (o1:Obj) (e a:Int) (j:Nat) :
  (((w.setCell ⟨R,0,none⟩ (.int .i64 e)).setCell ⟨R,1,none⟩ (.int .i64 a)).alloc o1).cell? ⟨R,j,none⟩=(#[.int .i64 e,.int .i64 a]:Array Value)[j]?:=
 (blk (qj (qd (qd h 0 _) 1 _))).1 j
theorem J5 (w:World) (A:Array Value) (t:TypeId) (j:Nat) {v:Value} (h:A[j]?=some v):(w.alloc (.cells A t)).cell? ⟨w.heap.size,j,none⟩=some v:=
 ((blk (qm w _)).1 j).trans h
theorem head_any2 (f:FunL) (names:List ByteArray) (g1 fp bp np:Option Addr) (g2 g3 fl fc bc nc n:Nat) (w:World) (hn:names.length=n)
  (hs:f.name.size≤maxLen) (hr1:I64 f.params) (hr2:I64 f.regs) (hbl:f.blocks.length*96≤140737488351232) (hb:SliceAt w 6 (BlkR w) bp f.blocks) (hnl:n≤9223372036854775807) (hN:vW w np names) :
  Calls Tryz.prog 28 #[.agg #[.slice g1 g2 g3,.slice fp fl fc,.string f.name,.int .i64 f.params,.int .i64 f.regs,.slice bp f.blocks.length bc,.slice none 0 0],.slice np n nc] w fun e w'=>e = .returned (.int .i64 (jK names f))∧Below w.heap.size w w':=by
 subst hn
 exact head_any f names _ _ _ _ _ _ _ _ _ _ w hs hr1 hr2 hbl hb hnl hN
theorem Qd {w:World} {p:Option Addr} {xs:List BlkL} (h:SliceAt w 6 (BlkR w) p xs) (o1 o2:Obj):SliceAt ((w.alloc o1).alloc o2) 6 (BlkR ((w.alloc o1).alloc o2)) p xs:=
 have hb:Below w.heap.size w ((w.alloc o1).alloc o2):=((Below.refl _ _).alloc (Nat.le_refl _) _).alloc (by simp) _
 h.mono hb (by omega) fun _ _ h=>h.below hb
theorem J6 {w:World} {p:Option Addr} {xs:List FunL} (h:SliceAt w 4 (FunR w) p xs) (o1 o2:Obj):SliceAt ((w.alloc o1).alloc o2) 4 (FunR ((w.alloc o1).alloc o2)) p xs:=
 have hb:Below w.heap.size w ((w.alloc o1).alloc o2):=((Below.refl _ _).alloc (Nat.le_refl _) _).alloc (by simp) _
 h.mono hb (by omega) fun _ _ h=>h.below hb
theorem Zo {w w':World} {base:Nat} {e:TypeId} {size:Nat} {v:Value} {n:Nat} {xs:List Value} (h:w.ownsRow base e size v n xs) (hb:Below w.heap.size w w'):w'.ownsRow base e size v n xs:=by
 refine h.kept (row:=none) ⟨hb.os,hb.tape,hb.output,hb.size,fun k hk _=>hb.block k hk⟩ ?_
 cases v.ownBlock with
 | none=>exact .inl rfl
 | some k=>exact .inr (by simp)
theorem res_zero {w:World} {R:Nat} {T:TypeId} (h:w.heap[R]?=some (.cells #[.int .i64 0,.int .i64 0] T (0,0))) (j:Nat) :
  ((w.setCell ⟨R,0,none⟩ (.int .i64 0)).setCell ⟨R,1,none⟩ (.int .i64 0)).cell? ⟨R,j,none⟩=(#[.int .i64 0,.int .i64 0]:Array Value)[j]?:=
 (blk (qd (qd h 0 _) 1 _)).1 j
theorem X7 {w:World} {base k:Nat} {t:TypeId} {v:Value} {S:List ByteArray} (hl:S.length=k) (h:w.ownsRow base t 1 v k (S.map .string)):∃p c,v = .slice p k c∧vW w p S:=by
 subst hl
 exact strs_own h

theorem vZ (u:UniL) (gp fp:Option Addr) (gc fc:Nat) (w:World) (hgl:u.globals.length*48≤140737488351232) (hG:SliceAt w 3 (GloR w) gp u.globals) (hfl:u.funcs.length*56≤140737488351232) (hF:SliceAt w 4 (FunR w) fp u.funcs) (hw0:Ways w) :
  Calls Tryz.prog 10 #[.agg #[.slice gp u.globals.length gc,.slice fp u.funcs.length fc]] w fun e w'=>e = .returned (.agg #[.int .i64 (chk u).1,.int .i64 (chk u).2])∧Below w.heap.size w w':=by
 obtain⟨i1,k1,k2,k3,k4⟩:=info_parts infoStr
 have HG:=q7 hG
 have HF:=q7 hF
 have HW:=q7 hw0
 clear hG hF hw0
 by_cases hbig:10<u.globals.length∨10<u.funcs.length
 ·have HV:=q7 (chk_big hbig)
  by_cases h1:10<u.globals.length
  ·clear hbig
   go_enter Tryz.func10,Tryz.ntmps10
   go_wp2_with (go_at_call 24;refine(xx _ _ _).mono ?_;rintro e w3 ⟨rfl,rfl⟩)
   refine bodyPost_ret (v:=.agg #[.int .i64 2,.int .i64 0]) ?_ rfl ⟨by rw[HV.out],?_⟩
   ·simp[results,Tryz.results10,go_sem]
   exact bZ
  have h2:10<u.funcs.length:=by omega
  clear hbig
  go_enter Tryz.func10,Tryz.ntmps10
  go_wp2_with (go_at_call 24;refine(xx _ _ _).mono ?_;rintro e w3 ⟨rfl,rfl⟩)
  refine bodyPost_ret (v:=.agg #[.int .i64 2,.int .i64 0]) ?_ rfl ⟨by rw[HV.out],?_⟩
  ·simp[results,Tryz.results10,go_sem]
  exact bZ
 have h1:u.globals.length≤10:=by omega
 have h2:u.funcs.length≤10:=by omega
 have hd1:decide (10<(u.globals.length:Int))=false:=by simp;omega
 have hd2:decide (10<(u.funcs.length:Int))=false:=by simp;omega
 clear hbig
 go_enter Tryz.func10,Tryz.ntmps10
 go_wp2_with fail
 go_loopw [3,4,31] (fun nm wd i wr=>∃k:Nat,k≤u.globals.length∧i = .int .i64 k∧wd = .int .i64 (xS u k)∧(0≤xS u k∧xS u k≤200)∧wr.ownsRow (w.heap.size+1+1) 9 1 nm k ((xT u k).map .string)∧(∀j,j<k→X3 u j=0)∧Below (w.heap.size+1+1) ((w.alloc (.cells #[.slice gp u.globals.length gc,.slice fp u.funcs.length fc] 25)).alloc (.cells #[.int .i64 0,.int .i64 0] 27)) wr) (fun _ _ i _=>u.globals.length - (intOf i).toNat)
 case atStart=>exact⟨0,by omega,rfl,rfl,by simp[xS],World.ownsRow_nil _ _ _ _,fun j h=>by omega,Below.refl _ _⟩
 case round=>
  obtain⟨k,hk,rfl,rfl,⟨hw1,hw2⟩,hown,hV,hb⟩:=hrel
  have HO:=q7 hown
  have HV:=q7 hV
  have HBw:=q7 hb
  have hz:w.heap.size+1<wr.heap.size:=by have:=hb.size;simp at this;omega
  have hz2:w.heap.size<wr.heap.size:=by omega
  have HBx:Hid (Below w.heap.size w wr):=(((Below.refl _ _).alloc (Nat.le_refl _) _).alloc (by simp) _).trans (hb.mono (by omega))
  obtain⟨hcc,hcf⟩:=blk (qg hb (by omega) (qj (qm w _)))
  have hx:=res_two (qg hb (k:=w.heap.size+1) (by omega) (qh (w:=w.alloc (.cells #[.slice gp u.globals.length gc,.slice fp u.funcs.length fc] 25)) (by simp)))
  obtain⟨haS,haT⟩:=blk (qg hb (k:=w.heap.size+1) (by omega) (qh (w:=w.alloc (.cells #[.slice gp u.globals.length gc,.slice fp u.funcs.length fc] 25)) (by simp)))
  obtain⟨np,nc,rfl,hS⟩:∃p c,u3 = .slice p k c∧vW wr p (xT u k):=by
   exact X7 (by simp[xT];omega) hown
  have HS:=q7 hS
  clear hown hV hb hS
  by_cases hlt:k<u.globals.length
  ·obtain⟨b2,o2,q,c,hp,e0,e1,e2,hns,hgs,hil,_⟩:=gloGet HG.out HBx.out hlt
   have hqG:=hgs.1
   have hqH:=hgs.2
   clear hgs
   subst hp
   have HE:Hid (X3 u k=J1 (xT u k) (xS u k) u.globals[k]):=gloI_eq hlt
   have hnl:(xT u k).length=k:=by simp[xT];omega
   go_wp2_with (first|(go_at_call 25;refine(kX _ _ (by unfold maxLen;omega)).mono ?_;rintro e w1 ⟨rfl,rfl⟩)|(go_at_call 26;refine(Zm _ _ _ _ _ _ hnl (by omega) (v8 HS.out ((Below.refl _ _).alloc (Nat.le_refl _) _))).mono ?_;rintro e w1 ⟨rfl,rfl⟩)|(go_at_call 27;refine(qC _ _ _ _).mono ?_;rintro e w1 ⟨rfl,rfl⟩)|(go_at_call 24;refine(xx _ _ _).mono ?_;rintro e w3 ⟨rfl,rfl⟩)|(at_builtin;refine wpList_append_own_at _ rfl _ _ 66 rfl (w.heap.size+1+1) 9 i1 (.string ⟨#[]⟩) 1 16 X6 k1 k2 k3 k4 rfl (by decide) _ _ _ rfl ((HO.out.alloc _).alloc _) ⟨wr.heap.size+1,0,none⟩ 1 1 [.string u.globals[k].name] rfl rfl (xg _ _ _ _ (by simp)) (by simp[Value.oneCell']) (by unfold maxLen;omega) (by omega) ?c1 ?_))
   case c1=>simp;omega
   rotate_right
   ·intro v' w1 hown' hgrow _ _
    obtain⟨g',cap',rfl⟩:=jy hown'
    have HO2:Hid (w1.ownsRow (w.heap.size+1+1) 9 1 (.slice (some ⟨g',0,none⟩) (k+1) cap') (k+1) ((xT u (k+1)).map .string)):=by
     show World.ownsRow _ _ _ _ _ _ _
     rw[J2 hlt,List.map_append]
     exact hown'
    have HB2:Hid (Below (w.heap.size+1+1) ((w.alloc (.cells #[.slice (some ⟨b2,o2,none⟩) u.globals.length gc,.slice fp u.funcs.length fc] 25)).alloc (.cells #[.int .i64 0,.int .i64 0] 27)) w1):=by
     refine((HBw.out.alloc (by omega) _).alloc (by simp;omega) _).grown hgrow (by simp;omega) (fun kk e=>?_)
     exact(HO.out.lt kk e).1
    have hb3:w1.cell? ⟨wr.heap.size,1,none⟩=some (.int .i64 u.globals[k].size):=by
     refine hgrow.cell (a:=⟨wr.heap.size,1,none⟩) ?_ (fun e=>?_)
     ·rw[World.cell?_of_block (Below.heap_alloc _ _ _ (by simp))]
      exact J5 _ _ _ _ rfl
     have:=(HO.out.lt _ e.symm).2
     exact Nat.lt_irrefl _ this
    obtain⟨hg0,hg1,hg2,hg3⟩:=gloE_0 (by assumption) (by assumption) (by assumption) (by omega) ⟨hw1,hw2⟩ (by assumption)
    have HG0:=q7 hg0
    have HG1:=q7 hg1
    clear hown' hgrow hg0 hg1
    go_wp2
    refine⟨⟨k+1,by omega,by go_num,?_,?_,HO2.out,fun j hj=>?_,HB2.out⟩,by simp[intOf];omega⟩
    ·rw[kN hlt,←HG1.out]
    ·rw[kN hlt]
     exact⟨hg2,hg3⟩
    by_cases hj2:j<k
    ·exact HV.out j hj2
    obtain rfl:j=k:=by omega
    exact HE.out.trans HG0.out
   all_goals
    have HB1:=HBx
    have HX:=q7 hx
    clear hx
    first
     | (have HC:=q7 (Qc h1 h2 hlt HV.out (HE.out.trans (gloE_12 (by assumption))) (by decide)))
     | (have HC:=q7 (Qc h1 h2 hlt HV.out (HE.out.trans (gloE_7 (by assumption) (by assumption))) (by decide)))
     | (have HC:=q7 (Qc h1 h2 hlt HV.out (HE.out.trans (gloE_3 (by assumption) (by assumption) (by assumption))) (by decide)))
     | (have HC:=q7 (Qc h1 h2 hlt HV.out (HE.out.trans (gloE_9 (by assumption) (by assumption) (by assumption) (by assumption))) (by decide)))
     | (have HC:=q7 (Qc h1 h2 hlt HV.out (HE.out.trans (gloE_10 (by assumption) (by assumption) (by assumption) (by omega) ⟨hw1,hw2⟩ (by assumption))) (by decide)))
    refine bodyPost_ret (v:=.agg #[.int .i64 (chk u).1,.int .i64 (chk u).2]) ?_ rfl ⟨rfl,?_⟩
    ·have hx:=HX.out
     rw[HC.out]
     simp[results,Tryz.results10,go_sem,hx]
    exact bZ
  have HGZ:Hid (∀j,j<u.globals.length→X3 u j=0):=fun j hj=>HV.out j (by omega)
  have hkk:k=u.globals.length:=by omega
  have HN0:Hid (wr.ownsRow (w.heap.size+1+1) 9 1 (.slice np k nc) (u.globals.length+0) ((xE u 0).map .string)):=by
   have:=HO.out
   rw[hkk]at this ⊢
   have hn:xE u 0=xT u u.globals.length:=by simp[xE,xT]
   rw[hn]
   exact this
  clear HV HO HS hkk hx
  go_wp2_with fail
  go_loopw [3,82] (fun nm i wr=>∃k:Nat,k≤u.funcs.length∧i = .int .i64 k∧wr.ownsRow (w.heap.size+1+1) 9 1 nm (u.globals.length+k) ((xE u k).map .string)∧(∀j,j<k→vX u j=0)∧Below (w.heap.size+1+1) ((w.alloc (.cells #[.slice gp u.globals.length gc,.slice fp u.funcs.length fc] 25)).alloc (.cells #[.int .i64 0,.int .i64 0] 27)) wr) (fun _ i _=>u.funcs.length - (intOf i).toNat)
  case atStart=>exact⟨0,by omega,rfl,HN0.out,fun j h=>by omega,HBw.out⟩
  case round=>
   clear HN0 HBw hcc hcf haS haT HBx hz hz2
   obtain⟨k,hk,rfl,hown,hV,hb⟩:=hrel
   have HO:=q7 hown
   have HV:=q7 hV
   have HBw:=q7 hb
   have hz:w.heap.size+1<wr.heap.size:=by have:=hb.size;simp at this;omega
   have hz2:w.heap.size<wr.heap.size:=by omega
   have HBx:Hid (Below w.heap.size w wr):=(((Below.refl _ _).alloc (Nat.le_refl _) _).alloc (by simp) _).trans (hb.mono (by omega))
   obtain⟨hcc,hcf⟩:=blk (qg hb (by omega) (qj (qm w _)))
   have hRr:=qg hb (k:=w.heap.size+1) (by omega) (qh (w:=w.alloc (.cells #[.slice gp u.globals.length gc,.slice fp u.funcs.length fc] 25)) (o:=.cells #[.int .i64 0,.int .i64 0] 27) (by simp))
   obtain⟨haS,haT⟩:=blk hRr
   have HRr:=q7 hRr
   have hnl:(xE u k).length=u.globals.length+k:=by simp[xE];omega
   obtain⟨np,nc,hnm,hS⟩:=X7 hnl hown
   subst hnm
   have HS:=q7 hS
   clear hown hV hb hS hRr
   by_cases hlt:k<u.funcs.length
   ·obtain⟨b2,o2,q,c,hp,e0,e1,e2,e3,hns,hr1,hr2,hbl,hbs⟩:=vU HF.out HBx.out hlt
    subst hp
    have HBS:=q7 hbs
    have HR1:=q7 hr1
    have HR2:=q7 hr2
    have HE:Hid (vX u k=jK (xE u k) u.funcs[k]):=vY hlt
    clear hbs hr1 hr2
    go_wp2_with fail
    refine(head_any2 _ _ _ _ _ _ _ _ _ _ _ _ _ _ hnl (by unfold maxLen;omega) HR1.out HR2.out hbl ?_ (by omega) ?_).mono ?_
    ·exact Qd HBS.out _ _
    ·exact v8 HS.out (((Below.refl _ _).alloc (Nat.le_refl _) _).alloc (by simp) _)
    rintro e w3 ⟨rfl,hb3⟩
    generalize hE:jK (xE u k) u.funcs[k]=ee
    have HE2:Hid (vX u k=ee):=HE.out.trans hE
    have HW3:Hid (Below wr.heap.size wr w3):=(((Below.refl _ _).alloc (Nat.le_refl _) _).alloc (by simp) _).trans (hb3.mono (by simp;omega))
    have hn3:w3.cell? ⟨wr.heap.size,0,none⟩=some (.string u.funcs[k].name):=by
     rw[(blk (qg hb3 (by simp;omega) (qj (qm wr _)))).1 0];rfl
    have hR3:=qg HW3.out hz HRr.out
    have hx:=J4 hR3
    have HB1:Hid (Below w.heap.size w w3):=HBx.out.trans (HW3.out.mono (by omega))
    have hz3:wr.heap.size<w3.heap.size:=by have:=hb3.size;simp at this;omega
    have hz4:w.heap.size+1<w3.heap.size:=by omega
    clear haS haT hcc hcf
    obtain⟨haS,haT⟩:=blk hR3
    clear hE HE hb3 hR3
    by_cases hz0:ee=0
    ·have hzb:(ee != 0)=false:=by simp[hz0]
     have HZ:=q7 hz0
     have HO3:=q7 (Zo HO.out HW3.out)
     clear hz0 hx
     go_wp2_with (at_builtin;refine wpList_append_own_at _ rfl _ _ 66 rfl (w.heap.size+1+1) 9 i1 (.string ⟨#[]⟩) 1 16 X6 k1 k2 k3 k4 rfl (by decide) _ _ _ rfl (HO3.out.alloc _) ⟨w3.heap.size,0,none⟩ 1 1 [.string u.funcs[k].name] rfl rfl (xg _ _ _ _ (by simp)) (by simp[Value.oneCell']) (by unfold maxLen;omega) (by omega) ?_ ?_)
     ·simp;omega
     intro v' w1 hown' hgrow _ _
     obtain⟨g',cap',rfl⟩:=jy hown'
     have HO2:Hid (w1.ownsRow (w.heap.size+1+1) 9 1 (.slice (some ⟨g',0,none⟩) (u.globals.length+k+1) cap') (u.globals.length+(k+1)) ((xE u (k+1)).map .string)):=by
      show World.ownsRow _ _ _ _ _ _ _
      rw[J3 hlt,List.map_append]
      exact hown'
     have HB2:Hid (Below (w.heap.size+1+1) ((w.alloc (.cells #[.slice gp u.globals.length gc,.slice (some ⟨b2,o2,none⟩) u.funcs.length fc] 25)).alloc (.cells #[.int .i64 0,.int .i64 0] 27)) w1):=by
      refine((HBw.out.trans (HW3.out.mono (by omega))).alloc (by omega) _).grown hgrow (by simp;omega) (fun kk e=>?_)
      exact(HO.out.lt kk e).1
     clear hown' hgrow
     go_wp2_with fail
     refine⟨⟨k+1,by omega,by go_num,HO2.out,fun j hj=>?_,HB2.out⟩,by simp[intOf];omega⟩
     by_cases hj2:j<k
     ·exact HV.out j hj2
     obtain rfl:j=k:=by omega
     exact HE2.out.trans HZ.out
    have hzb:(ee != 0)=true:=by simp[hz0]
    have HZ:=q7 hz0
    have HX:=q7 hx
    have HC:=q7 (chk_head h1 h2 HGZ.out hlt HV.out HE2.out hz0)
    clear hz0 hx
    go_wp2_with (go_at_call 24;refine(xx _ _ _).mono ?_;rintro e w4 ⟨rfl,rfl⟩)
    refine bodyPost_ret (v:=.agg #[.int .i64 (chk u).1,.int .i64 (chk u).2]) ?_ rfl ⟨rfl,?_⟩
    ·have hx:=HX.out
     rw[HC.out]
     simp[results,Tryz.results10,go_sem,hx]
    exact bZ
   have HHZ:Hid (∀j,j<u.funcs.length→vX u j=0):=fun j hj=>HV.out j (by omega)
   clear HV HO HS
   go_wp2_with fail
   go_loopw [107] (fun i wr=>∃k:Nat,k≤u.funcs.length∧i = .int .i64 k∧(∀j,j<k→kv u j=0)∧Below (w.heap.size+1+1) ((w.alloc (.cells #[.slice gp u.globals.length gc,.slice fp u.funcs.length fc] 25)).alloc (.cells #[.int .i64 0,.int .i64 0] 27)) wr) (fun i _=>u.funcs.length - (intOf i).toNat)
   case atStart=>exact⟨0,by omega,rfl,fun j h=>by omega,HBw.out⟩
   case round=>
    clear HBw hcc hcf haS haT HBx hz hz2 HRr
    obtain⟨k,hk,rfl,hV,hb⟩:=hrel
    have HV:=q7 hV
    have HBw:=q7 hb
    have hz:w.heap.size+1<wr.heap.size:=by have:=hb.size;simp at this;omega
    have hz2:w.heap.size<wr.heap.size:=by omega
    have HBx:Hid (Below w.heap.size w wr):=(((Below.refl _ _).alloc (Nat.le_refl _) _).alloc (by simp) _).trans (hb.mono (by omega))
    obtain⟨hcc,hcf⟩:=blk (qg hb (by omega) (qj (qm w _)))
    have hRr:=qg hb (k:=w.heap.size+1) (by omega) (qh (w:=w.alloc (.cells #[.slice gp u.globals.length gc,.slice fp u.funcs.length fc] 25)) (o:=.cells #[.int .i64 0,.int .i64 0] 27) (by simp))
    obtain⟨haS,haT⟩:=blk hRr
    have HRr:=q7 hRr
    clear hV hb hRr
    by_cases hlt:k<u.funcs.length
    ·obtain⟨b2,o2,q,c,hp,e0,e1,e2,e3,hns,hr1,hr2,hbl,hbs⟩:=vU HF.out HBx.out hlt
     subst hp
     obtain⟨⟨hp0,hp1⟩,⟨hp2,hp3⟩,⟨hp4,hp5⟩,_⟩:=QU ((vY hlt).symm.trans (HHZ.out k hlt))
     obtain⟨qb,qo,rfl⟩:∃qb qo,q=some ⟨qb,qo,none⟩:=by
      rcases hbs with h0|⟨b,o,hp,_⟩
      ·rw[h0]at hp4;simp at hp4
      exact⟨b,o,hp⟩
     have HBS:=q7 hbs
     have HE:Hid (kv u k=jG u u.funcs[k]):=Zl hlt
     clear hbs hr1 hr2
     go_wp2_with fail
     refine(body_any u u.funcs[k] _ _ _ _ _ _ _ _ _ (by omega) (by omega) hp4 hp5 h2 ?_ ?_ ?_).mono ?_
     ·exact J6 (HF.out.mono HBx.out (by omega) fun _ _ h=>h.below HBx.out) _ _
     ·exact Qd HBS.out _ _
     ·exact HW.out.below ((HBx.out.alloc (by omega) _).alloc (by simp;omega) _)
     rintro e w3 ⟨rfl,hb3⟩
     generalize hE:jG u u.funcs[k]=ee
     have HE2:Hid (kv u k=ee):=HE.out.trans hE
     have HW3:Hid (Below wr.heap.size wr w3):=(((Below.refl _ _).alloc (Nat.le_refl _) _).alloc (by simp) _).trans (hb3.mono (by simp;omega))
     have hR3:=qg HW3.out hz HRr.out
     have hx:=J4 hR3
     have HB1:Hid (Below w.heap.size w w3):=HBx.out.trans (HW3.out.mono (by omega))
     have hz4:w.heap.size+1<w3.heap.size:=by have:=hb3.size;simp at this;omega
     clear haS haT hcc hcf
     obtain⟨haS,haT⟩:=blk hR3
     clear hE HE hb3 hR3
     by_cases hz0:ee=0
     ·have hzb:(ee != 0)=false:=by simp[hz0]
      have HZ:=q7 hz0
      clear hz0 hx
      go_wp2_with fail
      refine⟨⟨k+1,by omega,by go_num,fun j hj=>?_,HBw.out.trans (HW3.out.mono (by omega))⟩,by simp[intOf];omega⟩
      by_cases hj2:j<k
      ·exact HV.out j hj2
      obtain rfl:j=k:=by omega
      exact HE2.out.trans HZ.out
     have hzb:(ee != 0)=true:=by simp[hz0]
     have HZ:=q7 hz0
     have HX:=q7 hx
     have HC:=q7 (chk_body h1 h2 HGZ.out HHZ.out hlt HV.out HE2.out hz0)
     clear hz0 hx
     go_wp2_with (go_at_call 24;refine(xx _ _ _).mono ?_;rintro e w4 ⟨rfl,rfl⟩)
     refine bodyPost_ret (v:=.agg #[.int .i64 (chk u).1,.int .i64 (chk u).2]) ?_ rfl ⟨rfl,?_⟩
     ·have hx:=HX.out
      rw[HC.out]
      simp[results,Tryz.results10,go_sem,hx]
     exact bZ
    have HC:=q7 (chk_main h1 h2 HGZ.out HHZ.out (fun j hj=>HV.out j (by omega)))
    clear HV
    go_wp2_with fail
    refine(Zk u.funcs _ _ _ (by omega) (HF.out.mono HBx.out (by omega) fun _ _ h=>h.below HBx.out)).mono ?_
    rintro e w3 ⟨rfl,hb3⟩
    have hR3:=qg hb3 hz HRr.out
    have hx:=J4 hR3
    have hx0:=res_zero hR3
    have hqI:=(blk (qg hb3 hz2 (qg HBw.out (by omega) (qj (qm w _))))).1
    have HB1:Hid (Below w.heap.size w w3):=HBx.out.trans (hb3.mono (by omega))
    have hz4:w.heap.size+1<w3.heap.size:=by have:=hb3.size;omega
    have hz5:w.heap.size<w3.heap.size:=by omega
    clear haS haT hcc hcf
    obtain⟨haS,haT⟩:=blk hR3
    clear hb3 hR3
    cases hm:vA u.funcs with
    | none=>
     have HC2:Hid (chk u=(6,0)):=by
      show _=_
      rw[HC.out,hm]
     have ho:optI none = -1:=rfl
     rw[ho]
     have HX:=q7 hx
     clear hm HC hx hx0 ho
     go_wp2_with (go_at_call 24;refine(xx _ _ _).mono ?_;rintro e w4 ⟨rfl,rfl⟩)
     refine bodyPost_ret (v:=.agg #[.int .i64 (chk u).1,.int .i64 (chk u).2]) ?_ rfl ⟨rfl,?_⟩
     ·have hx:=HX.out
      rw[HC2.out]
      simp[results,Tryz.results10,go_sem,hx]
     exact bZ
    | some m=>
     have hml:m<u.funcs.length:=List.mem_range.1 (List.mem_of_find?_eq_some hm)
     obtain⟨b2,o2,q,c,hp,e0,e1,e2,e3,hns,hr1,hr2,hbl,hbs⟩:=vU HF.out HB1.out hml
     subst hp
     have haL:QP u m=u.funcs[m].params:=by simp[QP,List.getD,hml]
     have HC2:Hid (chk u=if 0<u.funcs[m].params then(5,(m:Int)) else(0,0)):=by
      show _=_
      rw[HC.out,hm]
      simp only
      rw[haL]
     have ho:optI (some m)=(m:Int):=rfl
     rw[ho]
     have HX:=q7 hx
     have HX0:=q7 hx0
     clear hm HC hx hx0 ho haL hbs hr1 hr2
     by_cases hpm:0<u.funcs[m].params
     ·have HC3:=HC2.out
      rw[if_pos hpm]at HC3
      have HC4:=q7 HC3
      clear HC2 HC3
      go_wp2_with (go_at_call 24;refine(xx _ _ _).mono ?_;rintro e w4 ⟨rfl,rfl⟩)
      refine bodyPost_ret (v:=.agg #[.int .i64 (chk u).1,.int .i64 (chk u).2]) ?_ rfl ⟨rfl,?_⟩
      ·have hx:=HX.out
       rw[HC4.out]
       simp[results,Tryz.results10,go_sem,hx]
      exact bZ
     have HC3:=HC2.out
     rw[if_neg hpm]at HC3
     have HC4:=q7 HC3
     clear HC2 HC3
     go_wp2_with fail
     refine bodyPost_ret (v:=.agg #[.int .i64 (chk u).1,.int .i64 (chk u).2]) ?_ rfl ⟨rfl,?_⟩
     ·have hx:=HX0.out
      rw[HC4.out]
      simp[results,Tryz.results10,go_sem,hx]
     exact bZ

structure ChkOk (u:UniL):Prop where
 ng:u.globals.length≤10
 nf:u.funcs.length≤10
 glo:∀j,j<u.globals.length→X3 u j=0
 head:∀j,j<u.funcs.length→vX u j=0
 body:∀j,j<u.funcs.length→kv u j=0
 main:∃m,vA u.funcs=some m∧QP u m≤0

theorem jL {n:Nat} {g:Nat→Int} {r:Int×Int} (h:xq n g=some r):r.1≠0:=by
 unfold xq at h
 rw[Option.map_eq_some_iff]at h
 obtain⟨i,hi,rfl⟩:=h
 have:=List.find?_some hi
 simpa using this

theorem X8 (u:UniL):(chk u=(0,0)∧ChkOk u)∨(chk u).1≠0:=by
 unfold chk chkO
 split
 ·exact .inr (by simp)
 rename_i hs
 cases hg:xq u.globals.length (X3 u) with
 | some r=>exact .inr (by simpa using jL hg)
 | none=>
  simp only
  cases hh:xq u.funcs.length (vX u) with
  | some r=>exact .inr (by simpa using jL hh)
  | none=>
   simp only
   cases hb:xq u.funcs.length (kv u) with
   | some r=>exact .inr (by simpa using jL hb)
   | none=>
    simp only
    rw[Qb]
    cases hm:vA u.funcs with
    | none=>exact .inr (by simp)
    | some m=>
     simp only
     split
     ·exact .inr (by simp)
     rename_i hp
     exact .inl ⟨rfl,by omega,by omega,vN hg,vN hh,vN hb,m,hm,by omega⟩
theorem k5 {u:UniL} (h:(chk u).1=0):chk u=(0,0)∧ChkOk u:=(X8 u).resolve_right (by simp[h])

theorem ChkOk.fn {u:UniL} (h:ChkOk u) {k:Nat} (hk:k<u.funcs.length):(0≤u.funcs[k].params∧u.funcs[k].params≤6)∧(u.funcs[k].params≤u.funcs[k].regs∧u.funcs[k].regs≤100)∧(1≤u.funcs[k].blocks.length∧u.funcs[k].blocks.length≤40)∧z6 u.funcs[k]≤300:=
 QU ((vY hk).symm.trans (h.head k hk))

theorem JI (g i:Nat):(⟨g,0,none⟩:Addr).add i=⟨g,i,none⟩:=by unfold Addr.add;split<;>simp_all

theorem jM {w:World} {B B':Nat} {e:TypeId} {size:Nat} {v:Value} {n:Nat} {xs:List Value} (h:w.ownsRow B' e size v n xs) (hb:B≤B'):w.ownsRow B e size v n xs:=by
 refine⟨h.1,?_⟩
 rcases h.2 with h2|⟨g,cap,cur,h1,h2,h3⟩
 ·exact .inl h2
 exact .inr ⟨g,cap,cur,h1,by omega,h3⟩
theorem xU {w:World} {B:Nat} {e:TypeId} {v:Value} {n:Nat} {xs:List Value} (h:w.ownsRow B e 1 v n xs):∃p c,v = .slice p n c:=by
 rcases h.2 with⟨h1,h2⟩|⟨g,cap,cur,h1,_⟩
 ·exact⟨none,0,by rw[h1,h2]⟩
 exact⟨_,_,h1⟩
theorem jz {w:World} {B:Nat} {e:TypeId} {p:Option Addr} {n c:Nat} {xs:List Value} (h:w.ownsRow B e 1 (.slice p n c) n xs) {i:Nat} (hi:i<n):∃g,p=some ⟨g,0,none⟩∧B≤g∧g<w.heap.size∧w.cell? ⟨g,i,none⟩=xs[i]?:=by
 have hl:xs.length=n:=by simpa using h.1
 rcases h.2 with⟨h1,h2⟩|⟨g,cap,cur,h1,hb,hh,hr⟩
 ·omega
 cases h1
 refine⟨g,rfl,hb,(Array.getElem?_eq_some_iff.1 hh).1,?_⟩
 have:=h.cells (g:=g) rfl i xs[i] (List.getElem?_eq_getElem _)
 rw[JI]at this
 rw[this,List.getElem?_eq_getElem]
theorem own_ints {w:World} {B:Nat} {e:TypeId} {v:Value} {n:Nat} {xs:List Int} (hl:xs.length=n) (h:w.ownsRow B e 1 v n (xs.map (.int .i64))) (hI:∀x∈xs,I64 x):∃p c,v = .slice p xs.length c∧SliceAt w 1 ju p xs:=by
 obtain⟨p,c,rfl⟩:=xU h
 refine⟨p,c,by rw[hl],?_⟩
 rcases Nat.eq_zero_or_pos n with h0|h0
 ·exact .inl (List.length_eq_zero_iff.1 (hl.trans h0))
 obtain⟨g,rfl,_⟩:=jz h h0
 refine .inr ⟨g,0,rfl,fun i hi=>⟨[.int .i64 xs[i]],rfl,fun j hj=>?_,rfl,hI _ (List.getElem_mem hi)⟩⟩
 obtain rfl:j=0:=by omega
 obtain⟨g',hg,_,_,hc⟩:=jz h (i:=i) (by omega)
 cases hg
 simp only[Nat.zero_add,Nat.mul_one,Nat.add_zero]
 rw[hc]
 simp[hi]

theorem vF {w w':World} {base:Nat} {e:TypeId} {size:Nat} {v:Value} {n:Nat} {xs:List Value} (h:w.ownsRow base e size v n xs) (hb:Below w.heap.size w w'):w'.ownsRow base e size v n xs:=by
 refine h.kept (row:=none) ⟨hb.os,hb.tape,hb.output,hb.size,fun k hk _=>hb.block k hk⟩ ?_
 cases v.ownBlock with
 | none=>exact .inl rfl
 | some k=>exact .inr (by simp)
end Go.Proofs.YtecdphhdmjmmnaaGreatDoor
