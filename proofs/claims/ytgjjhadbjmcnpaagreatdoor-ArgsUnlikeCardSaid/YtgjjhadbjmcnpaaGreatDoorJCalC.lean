/-
  Plain: a list of rows of numbers that a call makes: the outer slice and each row own memor
-/
import Derived.Test.YtgjjhadbjmcnpaaGreatDoorJChkQ
import Derived.Deep.RegionHeld3
set_option maxRecDepth 100000
set_option maxHeartbeats 16000000
namespace Go.Proofs.YtgjjhadbjmcnpaaGreatDoor
open Go.RowKit

theorem Xh:Tryz.prog.underlying 59=some (.slice 9):=by kernel_rfl
theorem infoStr:(Tryz.prog.info? 9).map (fun i=>(i.zero,i.size,i.bytes))=some (some (.string ⟨#[]⟩),1,16):=by kernel_rfl

theorem Qo (u:UniL):mainAt u=vL u.funcs:=rfl
theorem chk_big {u:UniL} (h:10<u.globals.length∨10<u.funcs.length):chk u=(2,0):=by
 unfold chk chkO
 rw [if_pos h];rfl
theorem Qp {u:UniL} {k:Nat} {e:Int} (h1:u.globals.length≤10) (h2:u.funcs.length≤10) (hk:k<u.globals.length) (h0:∀j,j<k→Xe u j=0) (h:Xe u k=e) (he:e≠0):chk u=(e,(k:Int)):=by
 unfold chk chkO
 rw [if_neg (by omega),k5 hk h0 (by rw [h];exact he),h];rfl
theorem chk_head {u:UniL} {k:Nat} {e:Int} (h1:u.globals.length≤10) (h2:u.funcs.length≤10) (hg:∀j,j<u.globals.length→Xe u j=0) (hk:k<u.funcs.length) (h0:∀j,j<k→kg u j=0) (h:kg u k=e) (he:e≠0):chk u=(e,(k:Int)):=by
 unfold chk chkO
 rw [if_neg (by omega),zI hg]
 simp only
 rw [k5 hk h0 (by rw [h];exact he),h];rfl
theorem chk_body {u:UniL} {k:Nat} {e:Int} (h1:u.globals.length≤10) (h2:u.funcs.length≤10) (hg:∀j,j<u.globals.length→Xe u j=0) (hh:∀j,j<u.funcs.length→kg u j=0) (hk:k<u.funcs.length) (h0:∀j,j<k→kH u j=0) (h:kH u k=e) (he:e≠0):chk u=(e,(k:Int)):=by
 unfold chk chkO
 rw [if_neg (by omega),zI hg]
 simp only
 rw [zI hh]
 simp only
 rw [k5 hk h0 (by rw [h];exact he),h];rfl
theorem chk_main {u:UniL} (h1:u.globals.length≤10) (h2:u.funcs.length≤10) (hg:∀j,j<u.globals.length→Xe u j=0) (hh:∀j,j<u.funcs.length→kg u j=0) (hb:∀j,j<u.funcs.length→kH u j=0) :
  chk u=match vL u.funcs with|none=>(6,0)|some m=>if 0<ZY u m then (5,(m:Int)) else (0,0):=by
 unfold chk chkO
 rw [if_neg (by omega),zI hg]
 simp only
 rw [zI hh]
 simp only
 rw [zI hb,Qo]
 simp only
 cases vL u.funcs with
 | none=>rfl
 | some m=>
  simp only
  split<;>rfl
theorem gloI_eq {u:UniL} {k:Nat} (hk:k<u.globals.length):Xe u k=XZ (j8 u k) (j7 u k) u.globals[k]:=by
 unfold Xe
 rw [List.getElem?_eq_getElem hk]
theorem kh {u:UniL} {k:Nat} (hk:k<u.funcs.length):kg u k=jQ (xO u k) u.funcs[k]:=by
 unfold kg
 rw [List.getElem?_eq_getElem hk]
theorem Zu {u:UniL} {k:Nat} (hk:k<u.funcs.length):kH u k=jL u u.funcs[k]:=by
 unfold kH
 rw [List.getElem?_eq_getElem hk]
theorem kZ {u:UniL} {k:Nat} (hk:k<u.globals.length):j7 u (k+1)=j7 u k+u.globals[k].size:=by
 unfold j7
 rw [List.take_succ_eq_append_getElem hk,List.map_append,List.sum_append]
 simp
theorem J0 {u:UniL} {k:Nat} (hk:k<u.globals.length):j8 u (k+1)=j8 u k++[u.globals[k].name]:=by
 unfold j8
 rw [List.take_succ_eq_append_getElem hk,List.map_append]
 rfl
theorem J3 {u:UniL} {k:Nat} (hk:k<u.funcs.length):xO u (k+1)=xO u k++[u.funcs[k].name]:=by
 unfold xO
 rw [List.take_succ_eq_append_getElem hk,List.map_append,List.append_assoc]
 rfl
theorem Z9 {names:List ByteArray} {f:FunL} (h:jQ names f=0):(0≤f.params∧f.params≤6)∧(f.params≤f.regs∧f.regs≤100)∧(1≤f.blocks.length∧f.blocks.length≤40)∧xm f≤300:=by
 unfold jQ at h
 split at h
 ·cases h
 split at h
 ·cases h
 split at h
 ·cases h
 split at h
 ·cases h
 omega

theorem strs_own {w:World} {base:Nat} {t:TypeId} {v:Value} {S:List ByteArray} (h:w.ownsRow base t 1 v S.length (S.map .string)):∃p c,v = .slice p S.length c∧kf w p S:=by
 rcases h.2 with ⟨h1,h2⟩|⟨g,cap,cur,h1,_⟩
 ·refine ⟨none,0,?_,.inl ?_⟩
  ·rw [h1,show S.length=0 by simpa using h2]
  simpa using h2
 refine ⟨_,_,h1,.inr ⟨g,0,rfl,fun i hi=>?_⟩⟩
 have h2:=h.cells (g:=g) (by rw [h1];rfl) i (.string S[i]) (by simp [hi])
 have h3:(⟨g,0,none⟩:Addr).add i=⟨g,i,none⟩:=by unfold Addr.add;split<;>simp_all
 rw [h3] at h2
 rw [Nat.zero_add]
 exact h2

theorem Zv (p:Option Addr) (c n:Nat) (S:List ByteArray) (v:ByteArray) (w:World) (hl:S.length=n) (hn:n≤9223372036854775807) (h:kf w p S) :
  Calls Tryz.prog 25 #[.slice p n c,.string v] w fun e w'=>e = .returned (.bool (XR S v))∧w=w':=by
 subst hl
 exact jP _ _ _ _ _ hn h
theorem k6 (w:World) (x:Value) (t:TypeId) (k:Nat) (hk:w.heap.size=k):∀j u,[x][j]?=some u→(w.alloc (.cells #[x] t)).cell? ((⟨k,0,none⟩:Addr).add j)=some u:=by
 subst hk
 exact cell_one_new w x t
theorem jA {W:World} {base:Nat} {e:TypeId} {size:Nat} {v:Value} {k:Nat} {xs:List Value} (h:W.ownsRow base e size v (k+1) xs):∃g cap,v = .slice (some ⟨g,0,none⟩) (k+1) cap:=by
 rcases h.2 with ⟨_,h0⟩|⟨g,cap,_,rfl,_⟩
 ·omega
 exact ⟨g,cap,rfl⟩
theorem gloE_12 {names:List ByteArray} {words:Int} {g:GloL} (h:(!jO g.name)=true):XZ names words g=12:=by
 unfold XZ
 rw [if_pos (by simpa using h)]
theorem gloE_7 {names:List ByteArray} {words:Int} {g:GloL} (h:(!jO g.name)=false) (h2:XR names g.name=true):XZ names words g=7:=by
 unfold XZ
 rw [if_neg (by simpa using h),if_pos h2]
theorem gloE_3 {names:List ByteArray} {words:Int} {g:GloL} (h:(!jO g.name)=false) (h2:XR names g.name=false) (h3:(!x9 g.size 1 200)=true):XZ names words g=3:=by
 unfold XZ
 simp only [x9,Bool.not_eq_true',decide_eq_false_iff_not] at h3
 rw [if_neg (by simpa using h),if_neg (by simp [h2]),if_pos h3]
theorem Zw {n lo hi:Int} (h:(!x9 n lo hi)=false):lo≤n∧n≤hi:=by
 simpa [x9] using h
theorem gloE_9 {names:List ByteArray} {words:Int} {g:GloL} (h:(!jO g.name)=false) (h2:XR names g.name=false) (h3:(!x9 g.size 1 200)=false) (h4:g.size<g.init.length):XZ names words g=9:=by
 have h3:=Zw h3
 unfold XZ
 rw [if_neg (by simpa using h),if_neg (by simp [h2]),if_neg (by omega),if_pos h4]
theorem gloE_10 {names:List ByteArray} {words:Int} {g:GloL} (h:(!jO g.name)=false) (h2:XR names g.name=false) (h3:(!x9 g.size 1 200)=false) (h4:¬g.size<g.init.length) (h6:0≤words∧words≤200) (h5:200<wrap64 (words+g.size)):XZ names words g=10:=by
 have h3:=Zw h3
 rw [IntWalk.wrap64_in _ ⟨by omega,by omega⟩] at h5
 unfold XZ
 rw [if_neg (by simpa using h),if_neg (by simp [h2]),if_neg (by omega),if_neg h4,if_pos h5]
theorem gloE_0 {names:List ByteArray} {words:Int} {g:GloL} (h:(!jO g.name)=false) (h2:XR names g.name=false) (h3:(!x9 g.size 1 200)=false) (h4:¬g.size<g.init.length) (h6:0≤words∧words≤200) (h5:wrap64 (words+g.size)≤200):XZ names words g=0∧wrap64 (words+g.size)=words+g.size∧0≤words+g.size∧words+g.size≤200:=by
 have h3:=Zw h3
 rw [IntWalk.wrap64_in _ ⟨by omega,by omega⟩] at h5 ⊢
 unfold XZ
 rw [if_neg (by simpa using h),if_neg (by simp [h2]),if_neg (by omega),if_neg h4,if_neg (by omega)]
 exact ⟨rfl,rfl,by omega,h5⟩
theorem res_two {w:World} {R:Nat} {T:TypeId} (h:w.heap[R]?=some (.cells #[.int .i64 0,.int .i64 0] T (0,0))) (o1 o2:Obj) (e a:Int) (j:Nat) :
  ((((w.setCell ⟨R,0,none⟩ (.int .i64 e)).setCell ⟨R,1,none⟩ (.int .i64 a)).alloc o1).alloc o2).cell? ⟨R,j,none⟩=(#[.int .i64 e,.int .i64 a]:Array Value)[j]?:=
 (blk (qh (qh (qj (qj h 0 _) 1 _)))).1 j
theorem J4 {w:World} {R:Nat} {T:TypeId} (h:w.heap[R]?=some (.cells #[.int .i64 0,.int .i64 0] T (0,0))) (o1:Obj) (e a:Int) (j:Nat) :
  (((w.setCell ⟨R,0,none⟩ (.int .i64 e)).setCell ⟨R,1,none⟩ (.int .i64 a)).alloc o1).cell? ⟨R,j,none⟩=(#[.int .i64 e,.int .i64 a]:Array Value)[j]?:=
 (blk (qh (qj (qj h 0 _) 1 _))).1 j
theorem J5 (w:World) (A:Array Value) (t:TypeId) (j:Nat) {v:Value} (h:A[j]?=some v):(w.alloc (.cells A t)).cell? ⟨w.heap.size,j,none⟩=some v:=
 ((blk (qx w _)).1 j).trans h
theorem head_any2 (f:FunL) (names:List ByteArray) (g1 fp bp np:Option Addr) (g2 g3 fl fc bc nc n:Nat) (w:World) (hn:names.length=n)
  (hs:f.name.size≤maxLen) (hr1:I64 f.params) (hr2:I64 f.regs) (hbl:f.blocks.length*96≤140737488351232) (hb:SliceAt w 6 (BlkR w) bp f.blocks) (hnl:n≤9223372036854775807) (hN:kf w np names) :
  Calls Tryz.prog 27 #[.agg #[.slice g1 g2 g3,.slice fp fl fc,.string f.name,.int .i64 f.params,.int .i64 f.regs,.slice bp f.blocks.length bc,.slice none 0 0],.slice np n nc] w fun e w'=>e = .returned (.int .i64 (jQ names f))∧Below w.heap.size w w':=by
 subst hn
 exact head_any f names _ _ _ _ _ _ _ _ _ _ w hs hr1 hr2 hbl hb hnl hN
theorem Qq {w:World} {p:Option Addr} {xs:List BlkL} (h:SliceAt w 6 (BlkR w) p xs) (o1 o2:Obj):SliceAt ((w.alloc o1).alloc o2) 6 (BlkR ((w.alloc o1).alloc o2)) p xs:=
 have hb:Below w.heap.size w ((w.alloc o1).alloc o2):=((Below.refl _ _).alloc (Nat.le_refl _) _).alloc (by simp) _
 h.mono hb (by omega) fun _ _ h=>h.below hb
theorem J6 {w:World} {p:Option Addr} {xs:List FunL} (h:SliceAt w 4 (FunR w) p xs) (o1 o2:Obj):SliceAt ((w.alloc o1).alloc o2) 4 (FunR ((w.alloc o1).alloc o2)) p xs:=
 have hb:Below w.heap.size w ((w.alloc o1).alloc o2):=((Below.refl _ _).alloc (Nat.le_refl _) _).alloc (by simp) _
 h.mono hb (by omega) fun _ _ h=>h.below hb
theorem Zx {w w':World} {base:Nat} {e:TypeId} {size:Nat} {v:Value} {n:Nat} {xs:List Value} (h:w.ownsRow base e size v n xs) (hb:Below w.heap.size w w'):w'.ownsRow base e size v n xs:=by
 refine h.kept (row:=none) ⟨hb.os,hb.tape,hb.output,hb.size,fun k hk _=>hb.block k hk⟩ ?_
 cases v.ownBlock with
 | none=>exact .inl rfl
 | some k=>exact .inr (by simp)
theorem res_zero {w:World} {R:Nat} {T:TypeId} (h:w.heap[R]?=some (.cells #[.int .i64 0,.int .i64 0] T (0,0))) (j:Nat) :
  ((w.setCell ⟨R,0,none⟩ (.int .i64 0)).setCell ⟨R,1,none⟩ (.int .i64 0)).cell? ⟨R,j,none⟩=(#[.int .i64 0,.int .i64 0]:Array Value)[j]?:=
 (blk (qj (qj h 0 _) 1 _)).1 j
theorem Xi {w:World} {base k:Nat} {t:TypeId} {v:Value} {S:List ByteArray} (hl:S.length=k) (h:w.ownsRow base t 1 v k (S.map .string)):∃p c,v = .slice p k c∧kf w p S:=by
 subst hl
 exact strs_own h

theorem jS (u:UniL) (gp fp:Option Addr) (gc fc:Nat) (w:World) (hgl:u.globals.length*48≤140737488351232) (hG:SliceAt w 3 (GloR w) gp u.globals) (hfl:u.funcs.length*56≤140737488351232) (hF:SliceAt w 4 (FunR w) fp u.funcs) (hw0:Ways w) :
  Calls Tryz.prog 9 #[.agg #[.slice gp u.globals.length gc,.slice fp u.funcs.length fc]] w fun e w'=>e = .returned (.agg #[.int .i64 (chk u).1,.int .i64 (chk u).2])∧Below w.heap.size w w':=by
 obtain ⟨i1,k1,k2,k3,k4⟩:=info_parts infoStr
 have HG:=q8 hG
 have HF:=q8 hF
 have HW:=q8 hw0
 clear hG hF hw0
 by_cases hbig:10<u.globals.length∨10<u.funcs.length
 ·have HV:=q8 (chk_big hbig)
  by_cases h1:10<u.globals.length
  ·clear hbig
   go_enter Tryz.func9,Tryz.ntmps9
   go_wp2_with (go_at_call 23;refine (xG _ _ _).mono ?_;rintro e w3 ⟨rfl,rfl⟩)
   refine bodyPost_ret (v:=.agg #[.int .i64 2,.int .i64 0]) ?_ rfl ⟨by rw [HV.out],?_⟩
   ·simp [results,Tryz.results9,go_sem]
   exact bZ
  have h2:10<u.funcs.length:=by omega
  clear hbig
  go_enter Tryz.func9,Tryz.ntmps9
  go_wp2_with (go_at_call 23;refine (xG _ _ _).mono ?_;rintro e w3 ⟨rfl,rfl⟩)
  refine bodyPost_ret (v:=.agg #[.int .i64 2,.int .i64 0]) ?_ rfl ⟨by rw [HV.out],?_⟩
  ·simp [results,Tryz.results9,go_sem]
  exact bZ
 have h1:u.globals.length≤10:=by omega
 have h2:u.funcs.length≤10:=by omega
 have hd1:decide (10<(u.globals.length:Int))=false:=by simp;omega
 have hd2:decide (10<(u.funcs.length:Int))=false:=by simp;omega
 clear hbig
 go_enter Tryz.func9,Tryz.ntmps9
 go_wp2_with fail
 go_loopw [3,4,31] (fun nm wd i wr=>∃k:Nat,k≤u.globals.length∧i = .int .i64 k∧wd = .int .i64 (j7 u k)∧(0≤j7 u k∧j7 u k≤200)∧wr.ownsRow (w.heap.size+1+1) 9 1 nm k ((j8 u k).map .string)∧(∀j,j<k→Xe u j=0)∧Below (w.heap.size+1+1) ((w.alloc (.cells #[.slice gp u.globals.length gc,.slice fp u.funcs.length fc] 25)).alloc (.cells #[.int .i64 0,.int .i64 0] 27)) wr) (fun _ _ i _=>u.globals.length - (intOf i).toNat)
 case atStart=>exact ⟨0,by omega,rfl,rfl,by simp [j7],World.ownsRow_nil _ _ _ _,fun j h=>by omega,Below.refl _ _⟩
 case round=>
  obtain ⟨k,hk,rfl,rfl,⟨hw1,hw2⟩,hown,hV,hb⟩:=hrel
  have HO:=q8 hown
  have HV:=q8 hV
  have HBw:=q8 hb
  have hz:w.heap.size+1<wr.heap.size:=by have:=hb.size;simp at this;omega
  have hz2:w.heap.size<wr.heap.size:=by omega
  have HBx:Hid (Below w.heap.size w wr):=(((Below.refl _ _).alloc (Nat.le_refl _) _).alloc (by simp) _).trans (hb.mono (by omega))
  obtain ⟨hcc,hcf⟩:=blk (qg hb (by omega) (qh (qx w _)))
  have hx:=res_two (qg hb (k:=w.heap.size+1) (by omega) (qq (w:=w.alloc (.cells #[.slice gp u.globals.length gc,.slice fp u.funcs.length fc] 25)) (by simp)))
  obtain ⟨hbA,hbB⟩:=blk (qg hb (k:=w.heap.size+1) (by omega) (qq (w:=w.alloc (.cells #[.slice gp u.globals.length gc,.slice fp u.funcs.length fc] 25)) (by simp)))
  obtain ⟨np,nc,rfl,hS⟩:∃p c,u3 = .slice p k c∧kf wr p (j8 u k):=by
   exact Xi (by simp [j8];omega) hown
  have HS:=q8 hS
  clear hown hV hb hS
  by_cases hlt:k<u.globals.length
  ·obtain ⟨b2,o2,q,c,hp,e0,e1,e2,hns,hgs,hil,_⟩:=gloGet HG.out HBx.out hlt
   have hqW:=hgs.1
   have hqX:=hgs.2
   clear hgs
   subst hp
   have HE:Hid (Xe u k=XZ (j8 u k) (j7 u k) u.globals[k]):=gloI_eq hlt
   have hnl:(j8 u k).length=k:=by simp [j8];omega
   go_wp2_with (first|(go_at_call 24;refine (Qb _ _ (by unfold maxLen;omega)).mono ?_;rintro e w1 ⟨rfl,rfl⟩)|(go_at_call 25;refine (Zv _ _ _ _ _ _ hnl (by omega) (vt HS.out ((Below.refl _ _).alloc (Nat.le_refl _) _))).mono ?_;rintro e w1 ⟨rfl,rfl⟩)|(go_at_call 26;refine (qE _ _ _ _).mono ?_;rintro e w1 ⟨rfl,rfl⟩)|(go_at_call 23;refine (xG _ _ _).mono ?_;rintro e w3 ⟨rfl,rfl⟩)|(at_builtin;refine wpList_append_own_at _ rfl _ _ 59 rfl (w.heap.size+1+1) 9 i1 (.string ⟨#[]⟩) 1 16 Xh k1 k2 k3 k4 rfl (by decide) _ _ _ rfl ((HO.out.alloc _).alloc _) ⟨wr.heap.size+1,0,none⟩ 1 1 [.string u.globals[k].name] rfl rfl (k6 _ _ _ _ (by simp)) (by simp [Value.oneCell']) (by unfold maxLen;omega) (by omega) ?c1 ?_))
   case c1=>simp;omega
   rotate_right
   ·intro v' w1 hown' hgrow _ _
    obtain ⟨g',cap',rfl⟩:=jA hown'
    have HO2:Hid (w1.ownsRow (w.heap.size+1+1) 9 1 (.slice (some ⟨g',0,none⟩) (k+1) cap') (k+1) ((j8 u (k+1)).map .string)):=by
     show World.ownsRow _ _ _ _ _ _ _
     rw [J0 hlt,List.map_append]
     exact hown'
    have HB2:Hid (Below (w.heap.size+1+1) ((w.alloc (.cells #[.slice (some ⟨b2,o2,none⟩) u.globals.length gc,.slice fp u.funcs.length fc] 25)).alloc (.cells #[.int .i64 0,.int .i64 0] 27)) w1):=by
     refine ((HBw.out.alloc (by omega) _).alloc (by simp;omega) _).grown hgrow (by simp;omega) (fun kk e=>?_)
     exact (HO.out.lt kk e).1
    have hb3:w1.cell? ⟨wr.heap.size,1,none⟩=some (.int .i64 u.globals[k].size):=by
     refine hgrow.cell (a:=⟨wr.heap.size,1,none⟩) ?_ (fun e=>?_)
     ·rw [World.cell?_of_block (Below.heap_alloc _ _ _ (by simp))]
      exact J5 _ _ _ _ rfl
     have:=(HO.out.lt _ e.symm).2
     exact Nat.lt_irrefl _ this
    obtain ⟨hg0,hg1,hg2,hg3⟩:=gloE_0 (by assumption) (by assumption) (by assumption) (by omega) ⟨hw1,hw2⟩ (by assumption)
    have HG0:=q8 hg0
    have HG1:=q8 hg1
    clear hown' hgrow hg0 hg1
    go_wp2
    refine ⟨⟨k+1,by omega,by go_num,?_,?_,HO2.out,fun j hj=>?_,HB2.out⟩,by simp [intOf];omega⟩
    ·rw [kZ hlt,←HG1.out]
    ·rw [kZ hlt]
     exact ⟨hg2,hg3⟩
    by_cases hj2:j<k
    ·exact HV.out j hj2
    obtain rfl:j=k:=by omega
    exact HE.out.trans HG0.out
   all_goals
    have HB1:=HBx
    have HX:=q8 hx
    clear hx
    first
     | (have HC:=q8 (Qp h1 h2 hlt HV.out (HE.out.trans (gloE_12 (by assumption))) (by decide)))
     | (have HC:=q8 (Qp h1 h2 hlt HV.out (HE.out.trans (gloE_7 (by assumption) (by assumption))) (by decide)))
     | (have HC:=q8 (Qp h1 h2 hlt HV.out (HE.out.trans (gloE_3 (by assumption) (by assumption) (by assumption))) (by decide)))
     | (have HC:=q8 (Qp h1 h2 hlt HV.out (HE.out.trans (gloE_9 (by assumption) (by assumption) (by assumption) (by assumption))) (by decide)))
     | (have HC:=q8 (Qp h1 h2 hlt HV.out (HE.out.trans (gloE_10 (by assumption) (by assumption) (by assumption) (by omega) ⟨hw1,hw2⟩ (by assumption))) (by decide)))
    refine bodyPost_ret (v:=.agg #[.int .i64 (chk u).1,.int .i64 (chk u).2]) ?_ rfl ⟨rfl,?_⟩
    ·have hx:=HX.out
     rw [HC.out]
     simp [results,Tryz.results9,go_sem,hx]
    exact bZ
  have HGZ:Hid (∀j,j<u.globals.length→Xe u j=0):=fun j hj=>HV.out j (by omega)
  have hkk:k=u.globals.length:=by omega
  have HN0:Hid (wr.ownsRow (w.heap.size+1+1) 9 1 (.slice np k nc) (u.globals.length+0) ((xO u 0).map .string)):=by
   have:=HO.out
   rw [hkk] at this ⊢
   have hn:xO u 0=j8 u u.globals.length:=by simp [xO,j8]
   rw [hn]
   exact this
  clear HV HO HS hkk hx
  go_wp2_with fail
  go_loopw [3,82] (fun nm i wr=>∃k:Nat,k≤u.funcs.length∧i = .int .i64 k∧wr.ownsRow (w.heap.size+1+1) 9 1 nm (u.globals.length+k) ((xO u k).map .string)∧(∀j,j<k→kg u j=0)∧Below (w.heap.size+1+1) ((w.alloc (.cells #[.slice gp u.globals.length gc,.slice fp u.funcs.length fc] 25)).alloc (.cells #[.int .i64 0,.int .i64 0] 27)) wr) (fun _ i _=>u.funcs.length - (intOf i).toNat)
  case atStart=>exact ⟨0,by omega,rfl,HN0.out,fun j h=>by omega,HBw.out⟩
  case round=>
   clear HN0 HBw hcc hcf hbA hbB HBx hz hz2
   obtain ⟨k,hk,rfl,hown,hV,hb⟩:=hrel
   have HO:=q8 hown
   have HV:=q8 hV
   have HBw:=q8 hb
   have hz:w.heap.size+1<wr.heap.size:=by have:=hb.size;simp at this;omega
   have hz2:w.heap.size<wr.heap.size:=by omega
   have HBx:Hid (Below w.heap.size w wr):=(((Below.refl _ _).alloc (Nat.le_refl _) _).alloc (by simp) _).trans (hb.mono (by omega))
   obtain ⟨hcc,hcf⟩:=blk (qg hb (by omega) (qh (qx w _)))
   have hRr:=qg hb (k:=w.heap.size+1) (by omega) (qq (w:=w.alloc (.cells #[.slice gp u.globals.length gc,.slice fp u.funcs.length fc] 25)) (o:=.cells #[.int .i64 0,.int .i64 0] 27) (by simp))
   obtain ⟨hbA,hbB⟩:=blk hRr
   have HRr:=q8 hRr
   have hnl:(xO u k).length=u.globals.length+k:=by simp [xO];omega
   obtain ⟨np,nc,hnm,hS⟩:=Xi hnl hown
   subst hnm
   have HS:=q8 hS
   clear hown hV hb hS hRr
   by_cases hlt:k<u.funcs.length
   ·obtain ⟨b2,o2,q,c,hp,e0,e1,e2,e3,hns,hr1,hr2,hbl,hbs⟩:=jI HF.out HBx.out hlt
    subst hp
    have HBS:=q8 hbs
    have HR1:=q8 hr1
    have HR2:=q8 hr2
    have HE:Hid (kg u k=jQ (xO u k) u.funcs[k]):=kh hlt
    clear hbs hr1 hr2
    go_wp2_with fail
    refine (head_any2 _ _ _ _ _ _ _ _ _ _ _ _ _ _ hnl (by unfold maxLen;omega) HR1.out HR2.out hbl ?_ (by omega) ?_).mono ?_
    ·exact Qq HBS.out _ _
    ·exact vt HS.out (((Below.refl _ _).alloc (Nat.le_refl _) _).alloc (by simp) _)
    rintro e w3 ⟨rfl,hb3⟩
    generalize hE:jQ (xO u k) u.funcs[k]=ee
    have HE2:Hid (kg u k=ee):=HE.out.trans hE
    have HW3:Hid (Below wr.heap.size wr w3):=(((Below.refl _ _).alloc (Nat.le_refl _) _).alloc (by simp) _).trans (hb3.mono (by simp;omega))
    have hn3:w3.cell? ⟨wr.heap.size,0,none⟩=some (.string u.funcs[k].name):=by
     rw [(blk (qg hb3 (by simp;omega) (qh (qx wr _)))).1 0];rfl
    have hR3:=qg HW3.out hz HRr.out
    have hx:=J4 hR3
    have HB1:Hid (Below w.heap.size w w3):=HBx.out.trans (HW3.out.mono (by omega))
    have hz3:wr.heap.size<w3.heap.size:=by have:=hb3.size;simp at this;omega
    have hz4:w.heap.size+1<w3.heap.size:=by omega
    clear hbA hbB hcc hcf
    obtain ⟨hbA,hbB⟩:=blk hR3
    clear hE HE hb3 hR3
    by_cases hz0:ee=0
    ·have hzb:(ee != 0)=false:=by simp [hz0]
     have HZ:=q8 hz0
     have HO3:=q8 (Zx HO.out HW3.out)
     clear hz0 hx
     go_wp2_with (at_builtin;refine wpList_append_own_at _ rfl _ _ 59 rfl (w.heap.size+1+1) 9 i1 (.string ⟨#[]⟩) 1 16 Xh k1 k2 k3 k4 rfl (by decide) _ _ _ rfl (HO3.out.alloc _) ⟨w3.heap.size,0,none⟩ 1 1 [.string u.funcs[k].name] rfl rfl (k6 _ _ _ _ (by simp)) (by simp [Value.oneCell']) (by unfold maxLen;omega) (by omega) ?_ ?_)
     ·simp;omega
     intro v' w1 hown' hgrow _ _
     obtain ⟨g',cap',rfl⟩:=jA hown'
     have HO2:Hid (w1.ownsRow (w.heap.size+1+1) 9 1 (.slice (some ⟨g',0,none⟩) (u.globals.length+k+1) cap') (u.globals.length+(k+1)) ((xO u (k+1)).map .string)):=by
      show World.ownsRow _ _ _ _ _ _ _
      rw [J3 hlt,List.map_append]
      exact hown'
     have HB2:Hid (Below (w.heap.size+1+1) ((w.alloc (.cells #[.slice gp u.globals.length gc,.slice (some ⟨b2,o2,none⟩) u.funcs.length fc] 25)).alloc (.cells #[.int .i64 0,.int .i64 0] 27)) w1):=by
      refine ((HBw.out.trans (HW3.out.mono (by omega))).alloc (by omega) _).grown hgrow (by simp;omega) (fun kk e=>?_)
      exact (HO.out.lt kk e).1
     clear hown' hgrow
     go_wp2_with fail
     refine ⟨⟨k+1,by omega,by go_num,HO2.out,fun j hj=>?_,HB2.out⟩,by simp [intOf];omega⟩
     by_cases hj2:j<k
     ·exact HV.out j hj2
     obtain rfl:j=k:=by omega
     exact HE2.out.trans HZ.out
    have hzb:(ee != 0)=true:=by simp [hz0]
    have HZ:=q8 hz0
    have HX:=q8 hx
    have HC:=q8 (chk_head h1 h2 HGZ.out hlt HV.out HE2.out hz0)
    clear hz0 hx
    go_wp2_with (go_at_call 23;refine (xG _ _ _).mono ?_;rintro e w4 ⟨rfl,rfl⟩)
    refine bodyPost_ret (v:=.agg #[.int .i64 (chk u).1,.int .i64 (chk u).2]) ?_ rfl ⟨rfl,?_⟩
    ·have hx:=HX.out
     rw [HC.out]
     simp [results,Tryz.results9,go_sem,hx]
    exact bZ
   have HHZ:Hid (∀j,j<u.funcs.length→kg u j=0):=fun j hj=>HV.out j (by omega)
   clear HV HO HS
   go_wp2_with fail
   go_loopw [107] (fun i wr=>∃k:Nat,k≤u.funcs.length∧i = .int .i64 k∧(∀j,j<k→kH u j=0)∧Below (w.heap.size+1+1) ((w.alloc (.cells #[.slice gp u.globals.length gc,.slice fp u.funcs.length fc] 25)).alloc (.cells #[.int .i64 0,.int .i64 0] 27)) wr) (fun i _=>u.funcs.length - (intOf i).toNat)
   case atStart=>exact ⟨0,by omega,rfl,fun j h=>by omega,HBw.out⟩
   case round=>
    clear HBw hcc hcf hbA hbB HBx hz hz2 HRr
    obtain ⟨k,hk,rfl,hV,hb⟩:=hrel
    have HV:=q8 hV
    have HBw:=q8 hb
    have hz:w.heap.size+1<wr.heap.size:=by have:=hb.size;simp at this;omega
    have hz2:w.heap.size<wr.heap.size:=by omega
    have HBx:Hid (Below w.heap.size w wr):=(((Below.refl _ _).alloc (Nat.le_refl _) _).alloc (by simp) _).trans (hb.mono (by omega))
    obtain ⟨hcc,hcf⟩:=blk (qg hb (by omega) (qh (qx w _)))
    have hRr:=qg hb (k:=w.heap.size+1) (by omega) (qq (w:=w.alloc (.cells #[.slice gp u.globals.length gc,.slice fp u.funcs.length fc] 25)) (o:=.cells #[.int .i64 0,.int .i64 0] 27) (by simp))
    obtain ⟨hbA,hbB⟩:=blk hRr
    have HRr:=q8 hRr
    clear hV hb hRr
    by_cases hlt:k<u.funcs.length
    ·obtain ⟨b2,o2,q,c,hp,e0,e1,e2,e3,hns,hr1,hr2,hbl,hbs⟩:=jI HF.out HBx.out hlt
     subst hp
     obtain ⟨⟨hp0,hp1⟩,⟨hp2,hp3⟩,⟨hp4,hp5⟩,_⟩:=Z9 ((kh hlt).symm.trans (HHZ.out k hlt))
     obtain ⟨qb,qo,rfl⟩:∃qb qo,q=some ⟨qb,qo,none⟩:=by
      rcases hbs with h0|⟨b,o,hp,_⟩
      ·rw [h0] at hp4;simp at hp4
      exact ⟨b,o,hp⟩
     have HBS:=q8 hbs
     have HE:Hid (kH u k=jL u u.funcs[k]):=Zu hlt
     clear hbs hr1 hr2
     go_wp2_with fail
     refine (body_any u u.funcs[k] _ _ _ _ _ _ _ _ _ (by omega) (by omega) hp4 hp5 h2 ?_ ?_ ?_).mono ?_
     ·exact J6 (HF.out.mono HBx.out (by omega) fun _ _ h=>h.below HBx.out) _ _
     ·exact Qq HBS.out _ _
     ·exact HW.out.below ((HBx.out.alloc (by omega) _).alloc (by simp;omega) _)
     rintro e w3 ⟨rfl,hb3⟩
     generalize hE:jL u u.funcs[k]=ee
     have HE2:Hid (kH u k=ee):=HE.out.trans hE
     have HW3:Hid (Below wr.heap.size wr w3):=(((Below.refl _ _).alloc (Nat.le_refl _) _).alloc (by simp) _).trans (hb3.mono (by simp;omega))
     have hR3:=qg HW3.out hz HRr.out
     have hx:=J4 hR3
     have HB1:Hid (Below w.heap.size w w3):=HBx.out.trans (HW3.out.mono (by omega))
     have hz4:w.heap.size+1<w3.heap.size:=by have:=hb3.size;simp at this;omega
     clear hbA hbB hcc hcf
     obtain ⟨hbA,hbB⟩:=blk hR3
     clear hE HE hb3 hR3
     by_cases hz0:ee=0
     ·have hzb:(ee != 0)=false:=by simp [hz0]
      have HZ:=q8 hz0
      clear hz0 hx
      go_wp2_with fail
      refine ⟨⟨k+1,by omega,by go_num,fun j hj=>?_,HBw.out.trans (HW3.out.mono (by omega))⟩,by simp [intOf];omega⟩
      by_cases hj2:j<k
      ·exact HV.out j hj2
      obtain rfl:j=k:=by omega
      exact HE2.out.trans HZ.out
     have hzb:(ee != 0)=true:=by simp [hz0]
     have HZ:=q8 hz0
     have HX:=q8 hx
     have HC:=q8 (chk_body h1 h2 HGZ.out HHZ.out hlt HV.out HE2.out hz0)
     clear hz0 hx
     go_wp2_with (go_at_call 23;refine (xG _ _ _).mono ?_;rintro e w4 ⟨rfl,rfl⟩)
     refine bodyPost_ret (v:=.agg #[.int .i64 (chk u).1,.int .i64 (chk u).2]) ?_ rfl ⟨rfl,?_⟩
     ·have hx:=HX.out
      rw [HC.out]
      simp [results,Tryz.results9,go_sem,hx]
     exact bZ
    have HC:=q8 (chk_main h1 h2 HGZ.out HHZ.out (fun j hj=>HV.out j (by omega)))
    clear HV
    go_wp2_with fail
    refine (Zt u.funcs _ _ _ (by omega) (HF.out.mono HBx.out (by omega) fun _ _ h=>h.below HBx.out)).mono ?_
    rintro e w3 ⟨rfl,hb3⟩
    have hR3:=qg hb3 hz HRr.out
    have hx:=J4 hR3
    have hx0:=res_zero hR3
    have hqY:=(blk (qg hb3 hz2 (qg HBw.out (by omega) (qh (qx w _))))).1
    have HB1:Hid (Below w.heap.size w w3):=HBx.out.trans (hb3.mono (by omega))
    have hz4:w.heap.size+1<w3.heap.size:=by have:=hb3.size;omega
    have hz5:w.heap.size<w3.heap.size:=by omega
    clear hbA hbB hcc hcf
    obtain ⟨hbA,hbB⟩:=blk hR3
    clear hb3 hR3
    cases hm:vL u.funcs with
    | none=>
     have HC2:Hid (chk u=(6,0)):=by
      show _=_
      rw [HC.out,hm]
     have ho:optI none = -1:=rfl
     rw [ho]
     have HX:=q8 hx
     clear hm HC hx hx0 ho
     go_wp2_with (go_at_call 23;refine (xG _ _ _).mono ?_;rintro e w4 ⟨rfl,rfl⟩)
     refine bodyPost_ret (v:=.agg #[.int .i64 (chk u).1,.int .i64 (chk u).2]) ?_ rfl ⟨rfl,?_⟩
     ·have hx:=HX.out
      rw [HC2.out]
      simp [results,Tryz.results9,go_sem,hx]
     exact bZ
    | some m=>
     have hml:m<u.funcs.length:=List.mem_range.1 (List.mem_of_find?_eq_some hm)
     obtain ⟨b2,o2,q,c,hp,e0,e1,e2,e3,hns,hr1,hr2,hbl,hbs⟩:=jI HF.out HB1.out hml
     subst hp
     have hay:ZY u m=u.funcs[m].params:=by simp [ZY,List.getD,hml]
     have HC2:Hid (chk u=if 0<u.funcs[m].params then (5,(m:Int)) else (0,0)):=by
      show _=_
      rw [HC.out,hm]
      simp only
      rw [hay]
     have ho:optI (some m)=(m:Int):=rfl
     rw [ho]
     have HX:=q8 hx
     have HX0:=q8 hx0
     clear hm HC hx hx0 ho hay hbs hr1 hr2
     by_cases hpm:0<u.funcs[m].params
     ·have HC3:=HC2.out
      rw [if_pos hpm] at HC3
      have HC4:=q8 HC3
      clear HC2 HC3
      go_wp2_with (go_at_call 23;refine (xG _ _ _).mono ?_;rintro e w4 ⟨rfl,rfl⟩)
      refine bodyPost_ret (v:=.agg #[.int .i64 (chk u).1,.int .i64 (chk u).2]) ?_ rfl ⟨rfl,?_⟩
      ·have hx:=HX.out
       rw [HC4.out]
       simp [results,Tryz.results9,go_sem,hx]
      exact bZ
     have HC3:=HC2.out
     rw [if_neg hpm] at HC3
     have HC4:=q8 HC3
     clear HC2 HC3
     go_wp2_with fail
     refine bodyPost_ret (v:=.agg #[.int .i64 (chk u).1,.int .i64 (chk u).2]) ?_ rfl ⟨rfl,?_⟩
     ·have hx:=HX0.out
      rw [HC4.out]
      simp [results,Tryz.results9,go_sem,hx]
     exact bZ

structure ChkOk (u:UniL):Prop where
 ng:u.globals.length≤10
 nf:u.funcs.length≤10
 glo:∀j,j<u.globals.length→Xe u j=0
 head:∀j,j<u.funcs.length→kg u j=0
 body:∀j,j<u.funcs.length→kH u j=0
 main:∃m,vL u.funcs=some m∧ZY u m≤0

theorem jT {n:Nat} {g:Nat→Int} {r:Int×Int} (h:xC n g=some r):r.1≠0:=by
 unfold xC at h
 rw [Option.map_eq_some_iff] at h
 obtain ⟨i,hi,rfl⟩:=h
 have:=List.find?_some hi
 simpa using this

theorem Xj (u:UniL):(chk u=(0,0)∧ChkOk u)∨(chk u).1≠0:=by
 unfold chk chkO
 split
 ·exact .inr (by simp)
 rename_i hs
 cases hg:xC u.globals.length (Xe u) with
 | some r=>exact .inr (by simpa using jT hg)
 | none=>
  simp only
  cases hh:xC u.funcs.length (kg u) with
  | some r=>exact .inr (by simpa using jT hh)
  | none=>
   simp only
   cases hb:xC u.funcs.length (kH u) with
   | some r=>exact .inr (by simpa using jT hb)
   | none=>
    simp only
    rw [Qo]
    cases hm:vL u.funcs with
    | none=>exact .inr (by simp)
    | some m=>
     simp only
     split
     ·exact .inr (by simp)
     rename_i hp
     exact .inl ⟨rfl,by omega,by omega,vZ hg,vZ hh,vZ hb,m,hm,by omega⟩
theorem Qr {u:UniL} (h:(chk u).1=0):chk u=(0,0)∧ChkOk u:=(Xj u).resolve_right (by simp [h])

theorem ChkOk.fn {u:UniL} (h:ChkOk u) {k:Nat} (hk:k<u.funcs.length):(0≤u.funcs[k].params∧u.funcs[k].params≤6)∧(u.funcs[k].params≤u.funcs[k].regs∧u.funcs[k].regs≤100)∧(1≤u.funcs[k].blocks.length∧u.funcs[k].blocks.length≤40)∧xm u.funcs[k]≤300:=
 Z9 ((kh hk).symm.trans (h.head k hk))

theorem JO (g i:Nat):(⟨g,0,none⟩:Addr).add i=⟨g,i,none⟩:=by unfold Addr.add;split<;>simp_all

theorem jU {w:World} {B B':Nat} {e:TypeId} {size:Nat} {v:Value} {n:Nat} {xs:List Value} (h:w.ownsRow B' e size v n xs) (hb:B≤B'):w.ownsRow B e size v n xs:=by
 refine ⟨h.1,?_⟩
 rcases h.2 with h2|⟨g,cap,cur,h1,h2,h3⟩
 ·exact .inl h2
 exact .inr ⟨g,cap,cur,h1,by omega,h3⟩
theorem jt {w:World} {B:Nat} {e:TypeId} {v:Value} {n:Nat} {xs:List Value} (h:w.ownsRow B e 1 v n xs):∃p c,v = .slice p n c:=by
 rcases h.2 with ⟨h1,h2⟩|⟨g,cap,cur,h1,_⟩
 ·exact ⟨none,0,by rw [h1,h2]⟩
 exact ⟨_,_,h1⟩
theorem ki {w:World} {B:Nat} {e:TypeId} {p:Option Addr} {n c:Nat} {xs:List Value} (h:w.ownsRow B e 1 (.slice p n c) n xs) {i:Nat} (hi:i<n):∃g,p=some ⟨g,0,none⟩∧B≤g∧g<w.heap.size∧w.cell? ⟨g,i,none⟩=xs[i]?:=by
 have hl:xs.length=n:=by simpa using h.1
 rcases h.2 with ⟨h1,h2⟩|⟨g,cap,cur,h1,hb,hh,hr⟩
 ·omega
 cases h1
 refine ⟨g,rfl,hb,(Array.getElem?_eq_some_iff.1 hh).1,?_⟩
 have:=h.cells (g:=g) rfl i xs[i] (List.getElem?_eq_getElem _)
 rw [JO] at this
 rw [this,List.getElem?_eq_getElem]
theorem vR {w w':World} {base:Nat} {e:TypeId} {size:Nat} {v:Value} {n:Nat} {xs:List Value} (h:w.ownsRow base e size v n xs) (hb:Below w.heap.size w w'):w'.ownsRow base e size v n xs:=by
 refine h.kept (row:=none) ⟨hb.os,hb.tape,hb.output,hb.size,fun k hk _=>hb.block k hk⟩ ?_
 cases v.ownBlock with
 | none=>exact .inl rfl
 | some k=>exact .inr (by simp)
end Go.Proofs.YtgjjhadbjmcnpaaGreatDoor
