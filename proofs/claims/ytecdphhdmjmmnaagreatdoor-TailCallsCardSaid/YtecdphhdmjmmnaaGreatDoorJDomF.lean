/-
  Plain: depth first, blocks as they are left (graph.Post), and its state in a world.
-/
import Derived.RangeFuncFrom
import Derived.Test.YtecdphhdmjmmnaaGreatDoorJCalH
set_option maxRecDepth 100000
set_option maxHeartbeats 16000000
namespace Go.Proofs.YtecdphhdmjmmnaaGreatDoor
open Go.RowKit Go.Shelf
attribute [local go_sem] Oper.semAt_some

def qB (l:List InsL):List Int:=(l.filter fun i=>i.op == 20).map (·.fn)

def rowS (l:List Int):List Int:=Go.Lib.compact (xe l)
def vZ (xs:List FunL) (k j:Nat):List Int:=if j<k then(match xs[j]? with|some f=>rowS (qB (zq f))|none=>[]) else[]

def J3 (xs:List FunL):List (List Int):=xs.map fun f=>rowS (qB (zq f))
theorem VI {l:List Int} {x:Int} (h:x∈rowS l):x∈l:=by
 unfold rowS Go.Lib.compact Go.Lib.compactUpTo at h
 obtain⟨i,hi,rfl⟩:=List.mem_map.1 h
 have hi2:=List.mem_range.1 (List.mem_filter.1 hi).1
 have:(xe l).toArray[i]! = (xe l)[i]:=by simp[hi2]
 rw[this]
 have hm:=List.getElem_mem hi2
 unfold xe at hm ⊢
 exact List.mem_mergeSort.1 hm
theorem rowS_len (l:List Int):(rowS l).length≤l.length:=by
 unfold rowS Go.Lib.compact Go.Lib.compactUpTo
 rw[List.length_map]
 exact Nat.le_trans (List.length_filter_le _ _) (by rw[List.length_range,QX];exact Nat.le_refl _)
theorem Ks (xs:List FunL):(List.range xs.length).map (vZ xs xs.length)=J3 xs:=by
 unfold J3
 apply List.ext_getElem (by simp)
 intro i h1 h2
 have hi:i<xs.length:=by simpa using h1
 simp[vZ,hi]
theorem VJ:(Tryz.prog.info? 3).map (fun i=>(i.zero,i.size,i.bytes))=some (some (.int .i64 0),1,8):=by kernel_rfl
theorem infoInts3:(Tryz.prog.info? 44).map (fun i=>(i.zero,i.size,i.bytes))=some (some (.slice none 0 0),1,24):=by kernel_rfl
theorem ZE:Tryz.prog.underlying 44=some (.slice 3):=by kernel_rfl
theorem Kt:Tryz.prog.underlying 59=some (.slice 44):=by kernel_rfl

theorem QY {w W:World} {A B C:Obj} (h:(((w.alloc A).alloc B).alloc C).grownBy W (some (w.heap.size+1))):Below w.heap.size w W:=
 ((((Below.refl _ _).alloc (Nat.le_refl _) A).alloc (by simp) B).alloc (by simp;omega) C).grown h (by simp;omega) (fun k e=>by cases e;omega)
def ZF (W0:World) (T n k:Nat) (ts ti:TypeId) (f:Nat→Value) {wa:World} (pre:List (InsPos wa)) (W:World):Prop:=
 ∃v,W.rowIs T ts n (fun j=>if j=k then v else f j)∧W.ownsRow W0.heap.size ti 1 v (qB (zw pre)).length ((qB (zw pre)).map (.int .i64))∧W0.grownBy W (some T)
theorem Ku {W0:World} {T n k:Nat} {ts ti:TypeId} {f:Nat→Value} {wa:World} (hT:T<W0.heap.size):OwnFrom (β:=List (InsPos wa)) W0.heap.size (ZF W0 T n k ts ti f):=by
 rintro s W W' row ⟨v,h1,h2,h3⟩ hg hr
 refine⟨v,h1.of_block (hg.block T h1.lt (fun e=>by have:=(hr T e.symm).1;omega)),h2.kept hg ?_,?_⟩
 ·rcases h2.2 with⟨hv,_⟩|⟨g,cap,cur,hv,_,hh,_⟩
  ·rw[hv];exact .inl rfl
  right
  rw[hv]
  intro e
  obtain⟨o,ho,hc⟩:=(hr g e.symm).2
  rw[hh]at ho
  cases ho
  cases hc
 refine⟨hg.os.trans h3.os,hg.tape.trans h3.tape,hg.output.trans h3.output,Nat.le_trans h3.size hg.size,fun i hi hne=>?_⟩
 exact(hg.block i (Nat.lt_of_lt_of_le hi h3.size) (fun e=>by have:=(hr i e.symm).1;omega)).trans (h3.block i hi hne)

theorem graph_any (xs:List FunL) (gp fp:Option Addr) (gl gc fc:Nat) (w:World) (hl:xs.length≤10) (hm:∀k (h:k<xs.length),(zq xs[k]).length≤300) (hI:∀k (h:k<xs.length),∀x∈qB (zq xs[k]),I64 x) (hF:SliceAt w 4 (FunR w) fp xs) :
  Calls Tryz.prog 42 #[.agg #[.slice gp gl gc,.slice fp xs.length fc]] w fun e w'=>∃T,e = .returned (.slice (some ⟨T,0,none⟩) xs.length xs.length)∧SliceAt w' 1 (IntsR w') (some ⟨T,0,none⟩) (J3 xs)∧Below w.heap.size w w':=by
 obtain⟨i1,k1,k2,k3,k4⟩:=info_parts VJ
 obtain⟨i2,l1,l2,l3,l4⟩:=info_parts infoInts3
 have hmk:=run_make_row 59 44 i2 (.slice none 0 0) Kt l1 l2 l3 rfl .i64 .i64 xs.length (by rw[l4];omega) (by omega)
 have HF:=q7 hF
 clear hF
 refine(callsIn_wide (n:=3)).1 ?_
 refine callsIn_of_wp_marks Tryz.func42 rfl trivial ?_ rfl
 simp only[Tryz.ntmps42,List.size_toArray,List.length_cons,List.length_nil,Nat.reduceAdd,Nat.reduceSub,Array.replicate_succ,Array.replicate_zero,List.push_toArray,List.append_toArray,List.nil_append,List.cons_append]
 gi_wp2
 refine wpIn_loop (fun a' w'=>∃(u4 u5 u14 u15 u16 u17 u18 u19 u20 u21 u22 u23 u24 u25 u26 u27 u28 u29 u30 u31 u32 u33 u34 u35 u36 u37 u38 u39 u40 u41 u42 u43 u44 u45 u46 u47 u48 u49 u50 u51 u52 u53:Value) (k:Nat) (Ds:List Nat) (f:Nat→Value),(k≤xs.length∧RowsT w' (w.heap.size+1+1+1) (w.heap.size+1) xs.length 44 3 f (vZ xs k)∧(((w.alloc (.cells #[.slice gp gl gc,.slice fp xs.length fc] 25)).alloc (.cells (madeCells #[.slice none 0 0] xs.length) 44)).alloc (.cells #[.slice (some ⟨w.heap.size+1,0,none⟩) xs.length xs.length] 59)).grownBy w' (some (w.heap.size+1))∧Ds.Nodup∧(∀j,k≤j→f j = .slice none 0 0)∧∀D∈Ds,w.heap.size+1+1+1≤D∧w'.heap[D]?=some (.deferred (some [])))∧a'={ tmps:=#[.agg #[.slice gp gl gc,.slice fp xs.length fc],.pointer (some ⟨w.heap.size,0,none⟩),.slice none 0 0,.pointer (some ⟨w.heap.size+1+1,0,none⟩),u4,u5,.pointer (some ⟨w.heap.size,1,none⟩),.slice fp xs.length fc,.int .i64 xs.length,.slice (some ⟨w.heap.size+1,0,none⟩) xs.length xs.length,.pointer (some ⟨w.heap.size,1,none⟩),.slice fp xs.length fc,.int .i64 xs.length,.int .i64 k,u14,u15,u16,u17,u18,u19,u20,u21,u22,u23,u24,u25,u26,u27,u28,u29,u30,u31,u32,u33,u34,u35,u36,u37,u38,u39,u40,u41,u42,u43,u44,u45,u46,u47,u48,u49,u50,u51,u52,u53,undef],defers:=J2 Ds }) (fun a' _=>xs.length - (intOf (a'.tmps.getD 13 undef)).toNat) ?start ?round
 case start=>
  refine⟨_,_,_,_,_,_,_,_,_,_,_,_,_,_,_,_,_,_,_,_,_,_,_,_,_,_,_,_,_,_,_,_,_,_,_,_,_,_,_,_,_,_,0,[],fun _=>.slice none 0 0,⟨Nat.zero_le _,?_,⟨rfl,rfl,rfl,Nat.le_refl _,fun _ _ _=>rfl⟩,List.nodup_nil,fun _ _=>rfl,fun D h=>by cases h⟩,rfl⟩
  have hM:=RowsT.made (w.alloc (.cells #[.slice gp gl gc,.slice fp xs.length fc] 25)) xs.length (w.heap.size+1+1+1) 44 3 (by simp)
  have e:(w.alloc (.cells #[.slice gp gl gc,.slice fp xs.length fc] 25)).heap.size=w.heap.size+1:=by simp
  rw[e]at hM
  exact(hM.below ((Below.refl _ _).alloc (Nat.le_refl _) _)).congr fun j _=>by simp[vZ]
 case round=>
  rintro _ wr ⟨u4,u5,u14,u15,u16,u17,u18,u19,u20,u21,u22,u23,u24,u25,u26,u27,u28,u29,u30,u31,u32,u33,u34,u35,u36,u37,u38,u39,u40,u41,u42,u43,u44,u45,u46,u47,u48,u49,u50,u51,u52,u53,k,Ds,f,⟨hk,hR,hG,hN,hjE,hD⟩,rfl⟩
  have HR:=q7 hR
  have HG:=q7 hG
  have HN:=q7 hN
  have HD:=q7 hD
  have hei:=q7 hjE
  have hz:w.heap.size+1+1<wr.heap.size:=by have:=hG.size;simp at this;omega
  have hz0:w.heap.size<wr.heap.size:=by omega
  obtain⟨hc0,hf0⟩:=blk (T:=25) (A:=#[.slice gp gl gc,.slice fp xs.length fc]) ((hG.block w.heap.size (by simp;omega) (by simp)).trans (qh (qh (qm w _))))
  clear hR hG hN hD hjE
  by_cases hlt:k<xs.length
  rotate_left
  ·have hkn:k=xs.length:=by omega
   have co:=(blk ((HG.out.block (w.heap.size+1+1) (by simp) (by simp)).trans (qj (by simp)))).1
   gi_wp2
   show LeavesInM _ _ _ _ _ _ (J2 Ds) .returning wr
   refine xD (w.heap.size+1+1+1) Ds wr HN.out HD.out (fun w' h1 h2 h3 h4 h5=>⟨_,results_tmp (t:=2) rfl _ _ _,w.heap.size+1,rfl,?_,?_⟩)
   ·subst hkn
    have hR':RowsT w' (w.heap.size+1+1+1) (w.heap.size+1) xs.length 44 3 f (vZ xs xs.length):=by
     refine⟨HR.out.tab.of_block (h5 _ (fun hh=>by have:=(HD.out _ hh).1;omega)),fun j hj=>?_,HR.out.two,HR.out.low⟩
     obtain⟨a,b⟩:=HR.out.row j hj
     refine⟨a,?_⟩
     rcases b with hb|⟨g,cap,cur,e0,e1,e2,e3⟩
     ·exact .inl hb
     refine .inr ⟨g,cap,cur,e0,e1,(h5 g (fun hh=>?_)).trans e2,e3⟩
     have:=(HD.out g hh).2
     rw[e2]at this
     cases this
    have hr:=hR'.reads fun j hj=>?_
    ·rw[Ks]at hr
     exact hr
    have e:vZ xs xs.length j=rowS (qB (zq xs[j])):=by simp[vZ,hj]
    rw[e]
    refine⟨?_,fun x hx=>hI j hj x (VI hx)⟩
    refine Nat.le_trans (rowS_len _) ?_
    unfold qB
    rw[List.length_map]
    exact Nat.le_trans (List.length_filter_le _ _) (Nat.le_trans (hm j hj) (by decide))
   have hb:=QY HG.out
   exact⟨h1.trans hb.os,h2.trans hb.tape,h3.trans hb.output,Nat.le_trans hb.size h4,fun i hi=>(h5 i (fun hh=>by have:=(HD.out i hh).1;omega)).trans (hb.block i hi)⟩
  obtain⟨b2,o2,q,c,hp,e0,e1,e2,e3,_,_,_,hbl,hbs⟩:=vX HF.out (Below.refl _ _) hlt
  subst hp
  have hbb:=q8 e0
  have HBS:=q7 hbs
  have E3:=q7 e3
  clear hbs e0 e1 e2 e3
  gi_wp2_with (refine⟨trivial,?_⟩;gi_at_call 75;refine((callsIn_wide (n:=2)).2 (each_any _ _)).mono ?_;rintro e w2 ⟨rfl,rfl⟩)
  gi_wp2
  obtain⟨W0,hW0⟩:∃W0,(wr.alloc (.cells #[.int .i64 k] 3)).alloc (.cells #[.pointer (some ⟨b2,o2+k*4,none⟩)] 79)=W0:=⟨_,rfl⟩
  rw[hW0]
  have hBW:Below wr.heap.size wr W0:=by rw[←hW0];exact((Below.refl _ _).alloc (Nat.le_refl _) _).alloc (by simp) _
  have hsz:W0.heap.size=wr.heap.size+1+1:=by rw[←hW0];simp
  have hKb:W0.heap[wr.heap.size]?=some (.cells #[.int .i64 k] 3):=by rw[←hW0];exact qh (qm _ _)
  have hBb:W0.heap[wr.heap.size+1]?=some (.cells #[.pointer (some ⟨b2,o2+k*4,none⟩)] 79):=by rw[←hW0];exact qj (by simp)
  have hOb:W0.heap[w.heap.size+1+1]?=some (.cells #[.slice (some ⟨w.heap.size+1,0,none⟩) xs.length xs.length] 59):=(hBW.block _ hz).trans ((HG.out.block (w.heap.size+1+1) (by simp) (by simp)).trans (qj (by simp)))
  have hUb:W0.heap[w.heap.size]?=some (.cells #[.slice gp gl gc,.slice (some ⟨b2,o2,none⟩) xs.length fc] 25):=(hBW.block _ hz0).trans ((HG.out.block w.heap.size (by simp;omega) (by simp)).trans (qh (qh (qm w _))))
  have hWa:Below w.heap.size w W0:=(QY HG.out).trans (hBW.mono (by omega))
  have hR0:=HR.out.below hBW
  have HKb:=q7 hKb
  have HBb:=q7 hBb
  have HOb:=q7 hOb
  have HUb:=q7 hUb
  have HWa:=q7 hWa
  have HR0:=q7 hR0
  have HBW:=q7 hBW
  clear hKb hBb hOb hUb hWa hR0 hBW hW0 hc0 hf0
  refine wpIn_rangeFunc_ownF rfl (by omega) (gf:=112) (lb:=#[.pointer (some ⟨wr.heap.size+1,0,none⟩)]) rfl trivial (enters_of Tryz.func112 (by kernel_rfl) rfl)
   (Kn Fence.wide 2 trivial rfl (by omega) (wr.heap.size+1) b2 (o2+k*4) c q xs[k] w W0 HWa.out E3.out hbl HBS.out (by omega) (by omega) ((blk HBb.out).1 0)) eachK_t (eachK_b (by omega) (by omega)) (Below.refl _ _) (fun _=>rfl)
   (ZF W0 (w.heap.size+1) xs.length k 44 3 f) (fun _ _ _=>False) (Ku (by omega)) (fun _ _ _ _ _ hs _ _=>hs)
   ?start (fun y=>{ tmps:=#[.agg #[.slice gp gl gc,.slice (some ⟨b2,o2,none⟩) xs.length fc],.pointer (some ⟨w.heap.size,0,none⟩),.slice none 0 0,.pointer (some ⟨w.heap.size+1+1,0,none⟩),.pointer (some ⟨wr.heap.size,0,none⟩),.pointer (some ⟨y.1.1.1,y.1.1.2,none⟩),.pointer (some ⟨w.heap.size,1,none⟩),.slice (some ⟨b2,o2,none⟩) xs.length fc,.int .i64 xs.length,.slice (some ⟨w.heap.size+1,0,none⟩) xs.length xs.length,.pointer (some ⟨w.heap.size,1,none⟩),.slice (some ⟨b2,o2,none⟩) xs.length fc,.int .i64 xs.length,.int .i64 k,.bool true,.int .i64 k,.pointer (some ⟨w.heap.size,1,none⟩),.slice (some ⟨b2,o2,none⟩) xs.length fc,.int .i64 k,.pointer (some ⟨b2,o2+k*4,none⟩),.func (.func 112) #[] #[.pointer (some ⟨wr.heap.size+1,0,none⟩)],.pointer (some ⟨y.1.1.1,y.1.1.2,none⟩),u22,u23,u24,u25,u26,u27,u28,u29,u30,u31,u32,u33,u34,u35,u36,u37,u38,u39,u40,u41,u42,u43,u44,u45,u46,u47,u48,u49,u50,u51,u52,u53,undef],defers:=[] }) ?assign ?body ?done ?stop
  case start=>
   refine⟨.slice none 0 0,HR0.out.tab.congr fun j _=>?_,World.ownsRow_nil _ _ _ _,⟨rfl,rfl,rfl,Nat.le_refl _,fun _ _ _=>rfl⟩⟩
   by_cases hj:j=k
   ·rw[if_pos hj,hj];exact hei.out k (Nat.le_refl _)
   rw[if_neg hj]
  case assign=>
   intro l y W K hK
   unfold XQ
   gi_wp2
   exact hK
  case body=>
   rintro l pre y W ⟨v,hT,hv,hg⟩ hlen
   obtain⟨q4,c4,g0,g1,g2,g3,g4,g5,g6,g7,i1',i2',i3',i4',i5',_⟩:=y.2
   have hlb:=q8 g0
   have hWW:Below w.heap.size w W:=HWa.out.grown hg (by omega) (fun kk e=>by cases e;omega)
   have y0:=(hWW.cell (p:=⟨y.1.1.1,y.1.1.2,none⟩) hlb).trans g0
   have y6:=(hWW.cell (p:=⟨y.1.1.1,y.1.1.2+6,none⟩) hlb).trans g6
   obtain⟨m,d,hvv⟩:=zZ hv
   subst hvv
   have HT:=q7 hT
   have HV:=q7 hv
   have HGr:=q7 hg
   have ck:=(blk ((hg.block wr.heap.size (by omega) (by simp;omega)).trans HKb.out)).1
   have co:=(blk ((hg.block (w.heap.size+1+1) (by omega) (by simp)).trans HOb.out)).1
   have hWs:W0.heap.size≤W.heap.size:=hg.size
   clear g0 g1 g2 g3 g4 g5 g6 g7 hT hv hg hWW
   cases hop:(y.1.2.op == 20)
   ·have HOp:Hid (qB (zw (pre++[y]))=qB (zw pre)):=by
     show _=_
     rw[kd]
     simp[qB,List.filter_append,hop]
    gi_wp2
    refine⟨KeepsOthers.refl _,⟨Below.refl _ _,rfl⟩,?_⟩
    show ZF _ _ _ _ _ _ _ _ _
    unfold ZF
    rw[HOp.out]
    exact⟨_,HT.out,HV.out,HGr.out⟩
   have HOp:Hid (qB (zw (pre++[y]))=qB (zw pre)++[y.1.2.fn]):=by
    show _=_
    rw[kd]
    simp[qB,List.filter_append,hop]
   gi_wp2
   have hcT:=HT.out.cell hlt
   rw[if_pos rfl]at hcT
   refine kW (S:=(fun W':World=>W'.cell? ⟨w.heap.size+1+1,0,none⟩=some (.slice (some ⟨w.heap.size+1,0,none⟩) xs.length xs.length)∧W'.cell? ⟨wr.heap.size,0,none⟩=some (.int .i64 k)∧W'.cell? ⟨w.heap.size+1,k,none⟩=some (.slice m (qB (zw pre)).length d)∧W'.cell? ⟨y.1.1.1,y.1.1.2+6,none⟩=some (.int .i64 y.1.2.fn))) (by kernel_rfl) (fun⟨_,_,h⟩=>h) (by kernel_rfl) 13 ?_
   have hS:(fun W':World=>W'.cell? ⟨w.heap.size+1+1,0,none⟩=some (.slice (some ⟨w.heap.size+1,0,none⟩) xs.length xs.length)∧W'.cell? ⟨wr.heap.size,0,none⟩=some (.int .i64 k)∧W'.cell? ⟨w.heap.size+1,k,none⟩=some (.slice m (qB (zw pre)).length d)∧W'.cell? ⟨y.1.1.1,y.1.1.2+6,none⟩=some (.int .i64 y.1.2.fn)) W.drew:=⟨co 0,ck 0,hcT,y6⟩
   refine qE (i:=0) (v:=(.slice (some ⟨w.heap.size+1,0,none⟩) xs.length xs.length)) rfl (by kernel_rfl) (by kernel_rfl) (by kernel_rfl) (by kernel_rfl) (fun _ _ _ h=>h) (.inl ⟨rfl,fun W' hS'=>(by obtain⟨h1,h2,h3,h4⟩:=hS';go_simp)⟩) hS ?_
   refine qE (i:=1) (v:=(.int .i64 k)) rfl (by kernel_rfl) (by kernel_rfl) (by kernel_rfl) (by kernel_rfl) (fun _ _ _ h=>h) (.inl ⟨rfl,fun W' hS'=>(by obtain⟨h1,h2,h3,h4⟩:=hS';go_simp)⟩) hS ?_
   refine qE (i:=2) (v:=(.slice (some ⟨w.heap.size+1,0,none⟩) xs.length xs.length)) rfl (by kernel_rfl) (by kernel_rfl) (by kernel_rfl) (by kernel_rfl) (fun _ _ _ h=>h) (.inl ⟨rfl,fun W' hS'=>(by obtain⟨h1,h2,h3,h4⟩:=hS';go_simp)⟩) hS ?_
   refine qE (i:=3) (v:=(.int .i64 k)) rfl (by kernel_rfl) (by kernel_rfl) (by kernel_rfl) (by kernel_rfl) (fun _ _ _ h=>h) (.inl ⟨rfl,fun W' hS'=>(by obtain⟨h1,h2,h3,h4⟩:=hS';go_simp)⟩) hS ?_
   refine qE (i:=4) (v:=(.pointer (some ⟨w.heap.size+1,k,none⟩))) rfl (by kernel_rfl) (by kernel_rfl) (by kernel_rfl) (by kernel_rfl) (fun _ _ _ h=>h) (.inl ⟨rfl,fun W' hS'=>(by obtain⟨h1,h2,h3,h4⟩:=hS';go_simp)⟩) hS ?_
   refine qE (i:=5) (v:=(.slice m (qB (zw pre)).length d)) rfl (by kernel_rfl) (by kernel_rfl) (by kernel_rfl) (by kernel_rfl) (fun _ _ _ h=>h) (.inl ⟨rfl,fun W' hS'=>(by obtain⟨h1,h2,h3,h4⟩:=hS';go_simp)⟩) hS ?_
   refine qE (i:=6) (v:=(.pointer (some ⟨y.1.1.1,y.1.1.2,none⟩))) rfl (by kernel_rfl) (by kernel_rfl) (by kernel_rfl) (by kernel_rfl) (fun _ _ _ h=>h) (.inl ⟨rfl,fun W' hS'=>(by obtain⟨h1,h2,h3,h4⟩:=hS';go_simp)⟩) hS ?_
   refine qE (i:=7) (v:=(.pointer (some ⟨y.1.1.1,y.1.1.2,none⟩))) rfl (by kernel_rfl) (by kernel_rfl) (by kernel_rfl) (by kernel_rfl) (fun _ _ _ h=>h) (.inl ⟨rfl,fun W' hS'=>(by obtain⟨h1,h2,h3,h4⟩:=hS';go_simp)⟩) hS ?_
   refine qE (i:=8) (v:=(.pointer (some ⟨y.1.1.1,y.1.1.2+6,none⟩))) rfl (by kernel_rfl) (by kernel_rfl) (by kernel_rfl) (by kernel_rfl) (fun _ _ _ h=>h) (.inl ⟨rfl,fun W' hS'=>(by obtain⟨h1,h2,h3,h4⟩:=hS';go_simp)⟩) hS ?_
   refine qE (i:=9) (v:=(.int .i64 y.1.2.fn)) rfl (by kernel_rfl) (by kernel_rfl) (by kernel_rfl) (by kernel_rfl) (fun _ _ _ h=>h) (.inl ⟨rfl,fun W' hS'=>(by obtain⟨h1,h2,h3,h4⟩:=hS';go_simp)⟩) hS ?_
   refine vI (i:=10) (by kernel_rfl) rfl rfl (XU (v:=.slice (some ⟨W.heap.size,0,none⟩) 1 1) (w':=(W.drew.alloc (.cells #[.int .i64 y.1.2.fn] 3))) (by go_simp) ?_)
   obtain⟨W1,hW1⟩:∃W1,(W.drew.alloc (.cells #[.int .i64 y.1.2.fn] 3))=W1:=⟨_,rfl⟩
   rw[hW1]
   have hB1:Below W.heap.size W W1:=by rw[←hW1];exact(Below.refl _ W).drew.alloc (Nat.le_refl _) _
   have hs1:W1.heap.size=W.heap.size+1:=by rw[←hW1];simp
   have hn1:W1.cell? ⟨W.heap.size,0,none⟩=some (.int .i64 y.1.2.fn):=by rw[←hW1];exact(blk (qj (by simp))).1 0
   have hT1:W1.rowIs (w.heap.size+1) 44 xs.length _:=HT.out.of_block (hB1.block _ HT.out.lt)
   have hV1:=xP HV.out hB1
   have hn5:y.1.1.1<W.heap.size:=by omega
   have hn6:y.1.1.1<W0.heap.size:=by omega
   have hm1:=hm k hlt
   have hm2:(qB (zw pre)).length≤pre.length:=by
    unfold qB
    rw[List.length_map]
    exact Nat.le_trans (List.length_filter_le _ _) (Nat.le_of_eq (ZA pre))
   have hS1:(fun W':World=>W'.cell? ⟨w.heap.size+1+1,0,none⟩=some (.slice (some ⟨w.heap.size+1,0,none⟩) xs.length xs.length)∧W'.cell? ⟨wr.heap.size,0,none⟩=some (.int .i64 k)∧W'.cell? ⟨w.heap.size+1,k,none⟩=some (.slice m (qB (zw pre)).length d)∧W'.cell? ⟨y.1.1.1,y.1.1.2+6,none⟩=some (.int .i64 y.1.2.fn)) W1:=⟨(World.cell?_of_block (hB1.block (w.heap.size+1+1) (by omega))).trans (co 0),(World.cell?_of_block (hB1.block wr.heap.size (by omega))).trans (ck 0),(World.cell?_of_block (hB1.block (w.heap.size+1) (by omega))).trans hcT,(World.cell?_of_block (hB1.block y.1.1.1 hn5)).trans y6⟩
   refine⟨fun _=>hS1,?_⟩
   refine vI (i:=11) (by kernel_rfl) rfl rfl ?_
   refine XV W1 _ _ 44 rfl W0.heap.size 3 i1 (.int .i64 0) 1 8 ZE k1 k2 k3 k4 rfl (by omega) (.slice m (qB (zw pre)).length d) _ _ ?_ hV1 ⟨W.heap.size,0,none⟩ 1 1 [.int .i64 y.1.2.fn] ?_ rfl ?_ ?_ ?_ ?_ (by omega) ?_
   ·go_simp
   ·go_simp
   ·intro j u hu
    cases j with
    | zero=>
     cases hu
     exact hn1
    | succ j=>cases hu
   ·intro u hu
    obtain rfl:u=_:=by simpa using hu
    rfl
   ·unfold maxLen;omega
   ·omega
   rintro v2 W2 hV2 hG2 hat
   obtain⟨m2,d2,rfl⟩:=zZ hV2
   have hnb:∀b,b<W0.heap.size→W2.heap[b]?=W1.heap[b]?:=fun b hb=>hG2.block b (by omega) (fun e=>by have:=(hV1.lt b e.symm).1;omega)
   have hS2:(fun W':World=>W'.cell? ⟨w.heap.size+1+1,0,none⟩=some (.slice (some ⟨w.heap.size+1,0,none⟩) xs.length xs.length)∧W'.cell? ⟨wr.heap.size,0,none⟩=some (.int .i64 k)∧W'.cell? ⟨w.heap.size+1,k,none⟩=some (.slice m (qB (zw pre)).length d)∧W'.cell? ⟨y.1.1.1,y.1.1.2+6,none⟩=some (.int .i64 y.1.2.fn)) W2:=⟨(World.cell?_of_block (hnb (w.heap.size+1+1) (by omega))).trans hS1.1,(World.cell?_of_block (hnb wr.heap.size (by omega))).trans hS1.2.1,(World.cell?_of_block (hnb (w.heap.size+1) (by omega))).trans hS1.2.2.1,(World.cell?_of_block (hnb y.1.1.1 hn6)).trans hS1.2.2.2⟩
   refine⟨fun _=>hS2,?_⟩
   have hT2:=hT1.of_block (hnb (w.heap.size+1) (by omega))
   have hfz:=hT2.frozen k
   have hck:=hT2.cell hlt
   rw[if_pos rfl]at hck
   refine qE (i:=12) (v:=(.pointer (some ⟨w.heap.size+1,k,none⟩))) rfl (by kernel_rfl) (by kernel_rfl) (by kernel_rfl) (by kernel_rfl) (fun _ _ _ h=>h) (.inl ⟨rfl,fun W' hS'=>(by obtain⟨h1,h2,h3,h4⟩:=hS';go_simp)⟩) hS2 ?_
   refine QP (i:=13) (W2.setCell ⟨w.heap.size+1,k,none⟩ (.slice m2 ((qB (zw pre)).length+1) d2)) (by kernel_rfl) rfl rfl (by go_simp) (fun h=>absurd rfl h) (qz (by kernel_rfl) ?_ _)
   have hg3:W2.grownBy (W2.setCell ⟨w.heap.size+1,k,none⟩ (.slice m2 ((qB (zw pre)).length+1) d2)) (some (w.heap.size+1)):=
    ⟨rfl,rfl,rfl,by rw[Go.Deep.nblk_setCell];exact Nat.le_refl _,fun i _ hne=>Go.Deep.blk_setCell_other _ _ _ _ (fun e=>hne (by rw[e]))⟩
   have hV3:=hV2.kept hg3 (.inr (fun e=>by have:=(hV2.lt _ e).1;omega))
   have hT3:=hT2.set k (.slice m2 ((qB (zw pre)).length+1) d2)
   generalize (W2.setCell ⟨w.heap.size+1,k,none⟩ (.slice m2 ((qB (zw pre)).length+1) d2))=W3 at hg3 hV3 hT3
   have hob:∀b,(Value.slice m (qB (zw pre)).length d).ownBlock=some b→W0.heap.size≤b:=fun b e=>(hV1.lt b e).1
   refine⟨?_,⟨?_,?_⟩,?_⟩
   ·have kA:KeepsOthers W W1:=by rw[←hW1];exact(KeepsOthers.drew W).trans (KeepsOthers.alloc _ _)
    refine(kA.trans (KeepsOthers.of_grownBy hG2 ?_)).trans (KeepsOthers.of_grownBy hg3 ?_)
    ·intro j o e ho
     rcases hV1.2 with⟨e0,_⟩|⟨g,cap,cur,e0,_,hh,_⟩
     ·rw[e0]at e;cases e
     rw[e0]at e;cases e;rw[hh]at ho;cases ho;rfl
    intro j o e ho
    cases e
    obtain⟨cs,hcs⟩:=hT2
    rw[hcs.1]at ho
    cases ho;rfl
   ·exact((hB1.mono (by omega)).grown hG2 (by omega) (fun b e=>by have:=hob b e;omega)).grown hg3 (by have:=hG2.size;omega) (fun b e=>by cases e;omega)
   ·exact(hg3.block _ (by have:=hG2.size;omega) (by simp;omega)).trans ((hnb _ (by omega)).trans (hB1.block _ (by omega)))
   show ZF _ _ _ _ _ _ _ _ _
   unfold ZF
   rw[HOp.out,List.length_append,List.map_append]
   refine⟨_,hT3.congr (fun j _=>?_),hV3,?_⟩
   ·show(if j=k then _ else(if j=k then _ else f j))=_
    by_cases e:j=k
    ·rw[if_pos e,if_pos e]
    rw[if_neg e,if_neg e,if_neg e]
   refine⟨hg3.os.trans (hG2.os.trans (hB1.os.trans HGr.out.os)),hg3.tape.trans (hG2.tape.trans (hB1.tape.trans HGr.out.tape)),hg3.output.trans (hG2.output.trans (hB1.output.trans HGr.out.output)),Nat.le_trans hWs (Nat.le_trans (by omega) (Nat.le_trans hG2.size hg3.size)),fun i hi hne=>?_⟩
   exact(hg3.block i (by have:=hG2.size;omega) hne).trans ((hnb i hi).trans ((hB1.block i (by omega)).trans (HGr.out.block i hi hne)))
  case done=>
   --DONE
   rintro l pre W h1 h2 ⟨v,hT,hv,hg⟩ hDl
   rw[h2]at hv
   have hm1:=hm k hlt
   have hm2:(qB (zq xs[k])).length≤300:=by
    refine Nat.le_trans ?_ hm1
    unfold qB
    rw[List.length_map]
    exact List.length_filter_le _ _
   have HZ:Hid (rowS (qB (zq xs[k]))=vZ xs (k+1) k):=by
    show _=_
    unfold vZ
    rw[if_pos (Nat.lt_succ_self k),List.getElem?_eq_getElem hlt]
   generalize qB (zq xs[k])=zs at hv hm2 HZ
   clear h2
   obtain⟨m,d,hvv⟩:=zZ hv
   subst hvv
   have hcT:=hT.cell hlt
   rw[if_pos rfl]at hcT
   have hTf:=hT.frozen k
   have HT:=q7 hT
   have HV:=q7 hv
   have HGr:=q7 hg
   have HDl:=q7 hDl
   have ck:=(blk ((hg.block wr.heap.size (by omega) (by simp;omega)).trans HKb.out)).1
   have co:=(blk ((hg.block (w.heap.size+1+1) (by omega) (by simp)).trans HOb.out)).1
   have hWs:W0.heap.size≤W.heap.size:=hg.size
   clear hT hv hg hDl
   gi_wp2_with (refine⟨trivial,?_⟩;refine((callsIn_wide (n:=2)).2 (sort_own W0.heap.size m d zs _ W HV.out (by omega))).mono ?_;rintro e w2 ⟨rfl,hV2,hG2⟩)
   have hob:∀b,(Value.slice m zs.length d).ownBlock=some b→W0.heap.size≤b:=fun b e=>(HV.out.lt b e).1
   have hnb:∀b,b<W0.heap.size→w2.heap[b]?=W.heap[b]?:=fun b hb=>hG2.block b (by omega) (fun e=>by have:=hob b e.symm;omega)
   have hh7:=(World.cell?_of_block (a:=⟨w.heap.size+1,k,none⟩) (hnb (w.heap.size+1) (by omega))).trans hcT
   have ck2:=(World.cell?_of_block (a:=⟨wr.heap.size,0,none⟩) (hnb wr.heap.size (by omega))).trans (ck 0)
   have co2:=(World.cell?_of_block (a:=⟨w.heap.size+1+1,0,none⟩) (hnb (w.heap.size+1+1) (by omega))).trans (co 0)
   have HG2:=q7 hG2
   have HV2:=q7 hV2
   clear hG2 hV2 hcT hTf
   refine wpIn_wide.2 (ql (S:=(fun W':World=>W'.cell? ⟨w.heap.size+1+1,0,none⟩=some (.slice (some ⟨w.heap.size+1,0,none⟩) xs.length xs.length)∧W'.cell? ⟨wr.heap.size,0,none⟩=some (.int .i64 k)∧W'.cell? ⟨w.heap.size+1,k,none⟩=some (.slice m zs.length d))) (by kernel_rfl) 8 ?_)
   have hS:(fun W':World=>W'.cell? ⟨w.heap.size+1+1,0,none⟩=some (.slice (some ⟨w.heap.size+1,0,none⟩) xs.length xs.length)∧W'.cell? ⟨wr.heap.size,0,none⟩=some (.int .i64 k)∧W'.cell? ⟨w.heap.size+1,k,none⟩=some (.slice m zs.length d)) w2.drew:=⟨co2,ck2,hh7⟩
   refine qE (i:=0) (v:=(.slice (some ⟨w.heap.size+1,0,none⟩) xs.length xs.length)) rfl (by kernel_rfl) (by kernel_rfl) (by kernel_rfl) (by kernel_rfl) (fun _ _ _ h=>h) (.inl ⟨rfl,fun W' hS'=>(by obtain⟨h1,h2,h3⟩:=hS';go_simp)⟩) hS ?_
   refine qE (i:=1) (v:=(.int .i64 k)) rfl (by kernel_rfl) (by kernel_rfl) (by kernel_rfl) (by kernel_rfl) (fun _ _ _ h=>h) (.inl ⟨rfl,fun W' hS'=>(by obtain⟨h1,h2,h3⟩:=hS';go_simp)⟩) hS ?_
   refine qE (i:=2) (v:=(.slice (some ⟨w.heap.size+1,0,none⟩) xs.length xs.length)) rfl (by kernel_rfl) (by kernel_rfl) (by kernel_rfl) (by kernel_rfl) (fun _ _ _ h=>h) (.inl ⟨rfl,fun W' hS'=>(by obtain⟨h1,h2,h3⟩:=hS';go_simp)⟩) hS ?_
   refine qE (i:=3) (v:=(.int .i64 k)) rfl (by kernel_rfl) (by kernel_rfl) (by kernel_rfl) (by kernel_rfl) (fun _ _ _ h=>h) (.inl ⟨rfl,fun W' hS'=>(by obtain⟨h1,h2,h3⟩:=hS';go_simp)⟩) hS ?_
   refine qE (i:=4) (v:=(.pointer (some ⟨w.heap.size+1,k,none⟩))) rfl (by kernel_rfl) (by kernel_rfl) (by kernel_rfl) (by kernel_rfl) (fun _ _ _ h=>h) (.inl ⟨rfl,fun W' hS'=>(by obtain⟨h1,h2,h3⟩:=hS';go_simp)⟩) hS ?_
   refine qE (i:=5) (v:=(.slice m zs.length d)) rfl (by kernel_rfl) (by kernel_rfl) (by kernel_rfl) (by kernel_rfl) (fun _ _ _ h=>h) (.inl ⟨rfl,fun W' hS'=>(by obtain⟨h1,h2,h3⟩:=hS';go_simp)⟩) hS ?_
   refine JX (i:=6) (f:=77) (args:=#[.slice m zs.length d]) (by kernel_rfl) rfl rfl (by go_simp) (V0 W0.heap.size m d (xe zs) zs.length w2.drew HV2.out.drew (by omega)) ?_
   rintro e w3 ⟨rfl,hV3,hG3⟩
   have hnc:∀b,b<W0.heap.size→w3.heap[b]?=w2.heap[b]?:=fun b hb=>hG3.block b (by have:=HG2.out.size;show _<w2.heap.size;omega) (fun e=>by have:=hob b e.symm;omega)
   have hS3:(fun W':World=>W'.cell? ⟨w.heap.size+1+1,0,none⟩=some (.slice (some ⟨w.heap.size+1,0,none⟩) xs.length xs.length)∧W'.cell? ⟨wr.heap.size,0,none⟩=some (.int .i64 k)∧W'.cell? ⟨w.heap.size+1,k,none⟩=some (.slice m zs.length d)) w3:=⟨(World.cell?_of_block (hnc (w.heap.size+1+1) (by omega))).trans co2,(World.cell?_of_block (hnc wr.heap.size (by omega))).trans ck2,(World.cell?_of_block (hnc (w.heap.size+1) (by omega))).trans hh7⟩
   refine⟨_,rfl,fun _=>hS3,?_⟩
   have hT3:=HT.out.of_block ((hnc (w.heap.size+1) (by omega)).trans (hnb (w.heap.size+1) (by omega)))
   have hfz:=hT3.frozen k
   have hck:=hT3.cell hlt
   rw[if_pos rfl]at hck
   refine qE (i:=7) (v:=(.pointer (some ⟨w.heap.size+1,k,none⟩))) rfl (by kernel_rfl) (by kernel_rfl) (by kernel_rfl) (by kernel_rfl) (fun _ _ _ h=>h) (.inl ⟨rfl,fun W' hS'=>(by obtain⟨h1,h2,h3⟩:=hS';go_simp)⟩) hS3 ?_
   refine QP (i:=8) (w3.setCell ⟨w.heap.size+1,k,none⟩ (.slice m (Go.Lib.compact (xe zs)).length d)) (by kernel_rfl) rfl rfl (by go_simp) (fun h=>absurd rfl h) (qz (by kernel_rfl) ?_ _)
   have hg4:w3.grownBy (w3.setCell ⟨w.heap.size+1,k,none⟩ (.slice m (Go.Lib.compact (xe zs)).length d)) (some (w.heap.size+1)):=
    ⟨rfl,rfl,rfl,by rw[Go.Deep.nblk_setCell];exact Nat.le_refl _,fun i _ hne=>Go.Deep.blk_setCell_other _ _ _ _ (fun e=>hne (by rw[e]))⟩
   have hV4:=hV3.kept hg4 (.inr (fun e=>by have:=(hV3.lt _ e).1;omega))
   have hT4:=hT3.set k (.slice m (Go.Lib.compact (xe zs)).length d)
   generalize (w3.setCell ⟨w.heap.size+1,k,none⟩ (.slice m (Go.Lib.compact (xe zs)).length d))=w4 at hg4 hV4 hT4
   show Exit.inBlock 1 _ Exit.normal _ _
   have HV4:=q7 hV4
   have HT4:=q7 hT4
   have HG4:=q7 hg4
   have HG3:=q7 hG3
   clear hV4 hT4 hg4 hG3 hV3 hT3 hS3 hS co2 ck2 hh7 hck hfz co ck
   gi_wp2
   have hBs:(((w.alloc (.cells #[.slice gp gl gc,.slice (some ⟨b2,o2,none⟩) xs.length fc] 25)).alloc (.cells (madeCells #[.slice none 0 0] xs.length) 44)).alloc (.cells #[.slice (some ⟨w.heap.size+1,0,none⟩) xs.length xs.length] 59)).heap.size=w.heap.size+1+1+1:=by simp
   have s3:w2.heap.size≤w3.heap.size:=HG3.out.size
   have s2:=HG2.out.size
   have s4:=HG4.out.size
   have hch:∀b,b<W0.heap.size→b≠w.heap.size+1→w4.heap[b]?=W0.heap[b]?:=fun b hb hne=>
    (HG4.out.block b (by omega) (fun e=>hne (by injection e))).trans ((hnc b hb).trans ((hnb b hb).trans (HGr.out.block b hb (fun e=>hne (by injection e)))))
   have hll:l<W.heap.size:=(Array.getElem?_eq_some_iff.1 HDl.out).1
   have hlo:some l≠(Value.slice m zs.length d).ownBlock:=fun e=>by
    rcases HV.out.2 with⟨e0,_⟩|⟨g,cap,cur,e0,_,hh,_⟩
    ·rw[e0]at e;cases e
    rw[e0]at e
    cases e
    rw[HDl.out]at hh
    cases hh
   refine⟨⟨_,_,_,_,_,_,_,_,_,_,_,_,_,_,_,_,_,_,_,_,_,_,_,_,_,_,_,_,_,_,_,_,_,_,_,_,_,_,_,_,_,_,k+1,l::Ds,fun j=>if j=k then .slice m (Go.Lib.compact (xe zs)).length d else f j,⟨hlt,?_,?_,?_,?_,?_⟩,rfl⟩,?_⟩
   ·refine(RowsT.turn HR0.out hlt (HT4.out.congr fun j _=>?_) (jt HV4.out (by omega)) (fun b hb hne _=>hch b hb hne) (by omega) ?_).congr fun j hj=>?_
    ·show(if j=k then _ else(if j=k then _ else f j))=_
     by_cases e:j=k
     ·rw[if_pos e,if_pos e]
     rw[if_neg e,if_neg e,if_neg e]
    ·cases hb:(Value.slice m (Go.Lib.compact (xe zs)).length d).ownBlock with
     | none=>exact .inl (by rw[hei.out k (Nat.le_refl _)];rfl)
     | some g=>exact .inr ⟨g,rfl,(HV4.out.lt g hb).1⟩
    show(if j=k then _ else _)=_
    by_cases e:j=k
    ·rw[if_pos e,e];exact HZ.out
    rw[if_neg e]
    unfold vZ
    by_cases e2:j<k
    ·rw[if_pos e2,if_pos (by omega)]
    rw[if_neg e2,if_neg (by omega)]
   ·refine⟨HG4.out.os.trans (HG3.out.os.trans (HG2.out.os.trans (HGr.out.os.trans (HBW.out.os.trans HG.out.os)))),HG4.out.tape.trans (HG3.out.tape.trans (HG2.out.tape.trans (HGr.out.tape.trans (HBW.out.tape.trans HG.out.tape)))),HG4.out.output.trans (HG3.out.output.trans (HG2.out.output.trans (HGr.out.output.trans (HBW.out.output.trans HG.out.output)))),by rw[hBs];omega,fun i hi hne=>?_⟩
    rw[hBs]at hi
    exact(hch i (by omega) (fun e=>hne (by rw[e]))).trans ((HBW.out.block i (by omega)).trans (HG.out.block i (by rw[hBs];exact hi) hne))
   ·refine List.nodup_cons.2 ⟨fun hh=>?_,HN.out⟩
    have:=(Array.getElem?_eq_some_iff.1 (HD.out l hh).2).1
    omega
   ·intro j hj
    show(if j=k then _ else _)=_
    rw[if_neg (by omega)]
    exact hei.out j (by omega)
   ·intro D hD
    rcases List.mem_cons.1 hD with rfl|hD
    ·exact⟨by omega,(HG4.out.block _ (by omega) (by simp;omega)).trans ((HG3.out.block _ (show _<w2.heap.size by omega) hlo).trans ((HG2.out.block _ hll hlo).trans HDl.out))⟩
    obtain⟨e1,e2⟩:=HD.out D hD
    have:=(Array.getElem?_eq_some_iff.1 e2).1
    exact⟨e1,(hch D (by omega) (by omega)).trans ((HBW.out.block D this).trans e2)⟩
   show xs.length - ((k:Int)+1).toNat<xs.length - ((k:Int)).toNat
   omega
  case stop=>
   rintro D c pre W _ _ h _
   exact h.elim
end Go.Proofs.YtecdphhdmjmmnaaGreatDoor
namespace Go.Proofs.YtecdphhdmjmmnaaGreatDoor
open Go.RowKit

def callB (x:Int) (i:InsL):Bool:=i.op == 20&&i.fn == x
def kv (f:FunL) (x:Int):Bool:=f.blocks.any fun b=>b.list.any (callB x)


def Ql (f:FunL) (n:Nat):List Int:=((List.range n).filter fun x:Nat=>kv f (x:Int)).map fun(x:Nat)=>(x:Int)
def jO (xs:List FunL) (k:Nat):List (List Int):=(xs.take k).map fun f=>Ql f xs.length
theorem jP {xs:List FunL} {k:Nat} (hk:k≤xs.length):(jO xs k).length=k:=by
 simp[jO];omega

end Go.Proofs.YtecdphhdmjmmnaaGreatDoor
namespace Go.Proofs.YtecdphhdmjmmnaaGreatDoor
open Go.RowKit Go.Lib

theorem ext_lt:∀{l m:List Int},l.Pairwise (·<·)→m.Pairwise (·<·)→(∀x,x∈l↔x∈m)→l=m
 | [],[],_,_,_=>rfl
 | [],b::m,_,_,h=>by have:=(h b).2 List.mem_cons_self;cases this
 | a::l,[],_,_,h=>by have:=(h a).1 List.mem_cons_self;cases this
 | a::l,b::m,hl,hm,h=>by
  obtain⟨h1,h2⟩:=List.pairwise_cons.1 hl
  obtain⟨g1,g2⟩:=List.pairwise_cons.1 hm
  have e:a=b:=by
   rcases List.mem_cons.1 ((h a).1 List.mem_cons_self)with e|e
   ·exact e
   rcases List.mem_cons.1 ((h b).2 List.mem_cons_self)with f|f
   ·exact f.symm
   have:=h1 b f
   have:=g1 a e
   omega
  subst e
  rw[ext_lt h2 g2 (fun x=>?_)]
  constructor
  ·intro hx
   rcases List.mem_cons.1 ((h x).1 (List.mem_cons_of_mem _ hx))with e|e
   ·have:=h1 x hx
    omega
   exact e
  intro hx
  rcases List.mem_cons.1 ((h x).2 (List.mem_cons_of_mem _ hx))with e|e
  ·have:=g1 x hx
   omega
  exact e

theorem Qf {d:Array Int} (hd:∀i j,i≤j→j<d.size→d[i]! ≤d[j]!):∀m,m≤d.size→(compactUpTo d m).Pairwise (·<·)∧(∀x∈compactUpTo d m,∃i,i<m∧x=d[i]!)∧∀i,i<m→d[i]! ∈compactUpTo d m
 | 0,_=>⟨by simp[compactUpTo],by simp[compactUpTo],by omega⟩
 | m+1,hm=>by
  obtain⟨h1,h2,h3⟩:=Qf hd m (by omega)
  rw[compactUpTo_succ]
  by_cases hk:keeps d m=true
  ·rw[if_pos hk]
   refine⟨List.pairwise_append.2 ⟨h1,List.pairwise_singleton _ _,fun x hx y hy=>?_⟩,fun x hx=>?_,fun i hi=>?_⟩
   ·obtain⟨i,hi,rfl⟩:=h2 x hx
    obtain rfl:y=d[m]!:=by simpa using hy
    have a1:=hd i (m - 1) (by omega) (by omega)
    have a2:=hd (m - 1) m (by omega) (by omega)
    unfold keeps at hk
    rcases of_decide_eq_true hk with e|e
    ·omega
    omega
   ·rcases List.mem_append.1 hx with hx|hx
    ·obtain⟨i,hi,e⟩:=h2 x hx
     exact⟨i,by omega,e⟩
    exact⟨m,by omega,by simpa using hx⟩
   by_cases e:i=m
   ·subst e;simp
   exact List.mem_append_left _ (h3 i (by omega))
  rw[if_neg hk,List.append_nil]
  refine⟨h1,fun x hx=>?_,fun i hi=>?_⟩
  ·obtain⟨i,hi,e⟩:=h2 x hx
   exact⟨i,by omega,e⟩
  by_cases e:i=m
  ·subst e
   unfold keeps at hk
   have hk2:¬(i=0∨d[i]! ≠d[i - 1]!):=fun h=>hk (decide_eq_true h)
   have e1:d[i]! = d[i - 1]!:=by
    rcases Decidable.em (d[i]! = d[i - 1]!)with h|h
    ·exact h
    exact absurd (.inr h) hk2
   rw[e1]
   exact h3 (i - 1) (by omega)
  exact h3 i (by omega)

theorem sortL_mem {l:List Int} {x:Int}:x∈xe l↔x∈l:=by unfold xe;exact List.mem_mergeSort
theorem Kv (l:List Int):(xe l).Pairwise (·≤·):=by
 unfold xe
 refine(List.pairwise_mergeSort (le:=fun x y:Int=>decide (x≤y)) (fun a b c h1 h2=>?_) (fun a b=>?_) l).imp fun h=>?_
 ·have:=of_decide_eq_true h1
  have:=of_decide_eq_true h2
  exact decide_eq_true (by omega)
 ·simp
  omega
 exact of_decide_eq_true h
theorem rowS_pair (l:List Int):(rowS l).Pairwise (·<·)∧∀x,x∈rowS l↔x∈l:=by
 have hs:=Kv l
 have hd:∀i j,i≤j→j<(xe l).toArray.size→(xe l).toArray[i]! ≤(xe l).toArray[j]!:=by
  intro i j hij hj
  have hj2:j<(xe l).length:=by simpa using hj
  have hi2:i<(xe l).length:=by omega
  have e1:(xe l).toArray[i]! = (xe l)[i]:=by simp[hi2]
  have e2:(xe l).toArray[j]! = (xe l)[j]:=by simp[hj2]
  rw[e1,e2]
  by_cases e:i=j
  ·subst e;exact Int.le_refl _
  exact List.pairwise_iff_getElem.1 hs i j hi2 hj2 (by omega)
 obtain⟨h1,_,h3⟩:=Qf hd (xe l).length (by simp)
 refine⟨h1,fun x=>⟨VI,fun hx=>?_⟩⟩
 obtain⟨i,hi,rfl⟩:=List.getElem_of_mem (sortL_mem.2 hx)
 have e1:(xe l).toArray[i]! = (xe l)[i]:=by simp[hi]
 rw[←e1]
 exact h3 i hi

theorem Kw (f:FunL) (n:Nat):(Ql f n).Pairwise (·<·):=by
 unfold Ql
 refine List.pairwise_map.2 ?_
 exact(List.pairwise_lt_range.filter _).imp fun h=>by omega
theorem J4 {f:FunL} {n:Nat} {x:Int}:x∈Ql f n↔(0≤x∧x<n)∧kv f x=true:=by
 unfold Ql
 constructor
 ·intro h
  obtain⟨i,hi,rfl⟩:=List.mem_map.1 h
  obtain⟨h1,h2⟩:=List.mem_filter.1 hi
  have:=List.mem_range.1 h1
  exact⟨by omega,h2⟩
 rintro⟨⟨h0,h1⟩,h2⟩
 refine List.mem_map.2 ⟨x.toNat,List.mem_filter.2 ⟨List.mem_range.2 (by omega),?_⟩,by omega⟩
 rw[Int.toNat_of_nonneg h0]
 exact h2
theorem Kx {f:FunL} {x:Int}:kv f x=true↔x∈qB (zq f):=by
 unfold kv qB zq callB
 simp only[List.any_eq_true,Bool.and_eq_true,beq_iff_eq,List.mem_map,List.mem_filter,List.mem_flatMap]
 constructor
 ·rintro⟨b,hb,i,hi,ho,rfl⟩
  exact⟨i,⟨⟨b,hb,hi⟩,ho⟩,rfl⟩
 rintro⟨i,⟨⟨b,hb,hi⟩,ho⟩,rfl⟩
 exact⟨b,hb,i,hi,ho,rfl⟩
theorem Ky {f:FunL} {n:Nat} (h:∀x∈qB (zq f),0≤x∧x<n):rowS (qB (zq f))=Ql f n:=by
 obtain⟨h1,h2⟩:=rowS_pair (qB (zq f))
 refine ext_lt h1 (Kw f n) fun x=>?_
 rw[h2,J4,Kx]
 exact⟨fun hx=>⟨h x hx,hx⟩,fun hx=>hx.2⟩

theorem Kz (f:FunL):(zq f).length≤zr f:=by
 unfold zq zr
 induction f.blocks with
 | nil=>simp
 | cons b l ih=>
  rw[List.flatMap_cons,List.length_append,List.map_cons,List.sum_cons]
  omega
theorem insE_call {regs:Int} {nf:Nat} {P:Nat→Int} {op dst an bn fn:Int} {ar br:Bool} {L:List (Bool×Int)} (h:jL regs nf P op dst an bn fn ar br L=0) (ho:op=20):0≤fn∧fn<nf:=by
 unfold jL at h
 split at h
 ·cases h
 split at h
 ·cases h
 split at h
 ·rename_i hc
  exact absurd h hc.2.2
 have hc:=zP h (xN regs nf P (op == 20) fn L) (by simp)
 subst ho
 unfold xN at hc
 split at hc
 ·rename_i he
  cases he
 split at hc
 ·cases hc
 rename_i hn
 exact Decidable.not_not.1 hn
theorem ChkOk.ins {u:UniL} (h:ChkOk u) {k:Nat} (hk:k<u.funcs.length):∀i∈zq u.funcs[k],insL u u.funcs[k] i=0:=by
 intro i hi
 have hb:=h.body k hk
 unfold kS at hb
 rw[List.getElem?_eq_getElem hk]at hb
 simp only at hb
 unfold jW at hb
 split at hb
 ·obtain⟨b,hbm,him⟩:=List.mem_flatMap.1 hi
  obtain⟨j,hj,rfl⟩:=List.getElem_of_mem hbm
  have hbj:=zP hb (JN u u.funcs[k] j) (List.mem_map.2 ⟨j,List.mem_range.2 hj,rfl⟩)
  unfold JN at hbj
  rw[List.getElem?_eq_getElem hj]at hbj
  simp only at hbj
  unfold blkE at hbj
  split at hbj
  ·exact zP hbj _ (List.mem_map.2 ⟨i,him,rfl⟩)
  rename_i hne
  exact absurd hbj hne
 rename_i hne
 exact absurd hb hne
theorem ChkOk.callees {u:UniL} (h:ChkOk u) {k:Nat} (hk:k<u.funcs.length):∀x∈qB (zq u.funcs[k]),0≤x∧x<(u.funcs.length:Int):=by
 intro x hx
 unfold qB at hx
 obtain⟨i,hi,rfl⟩:=List.mem_map.1 hx
 obtain⟨h1,h2⟩:=List.mem_filter.1 hi
 exact insE_call (h.ins hk i h1) (by simpa using h2)
theorem ChkOk.graph {u:UniL} (h:ChkOk u):J3 u.funcs=jO u.funcs u.funcs.length:=by
 unfold J3 jO
 rw[List.take_length]
 apply List.ext_getElem (by simp)
 intro i h1 h2
 have hi:i<u.funcs.length:=by simpa using h1
 simp only[List.getElem_map]
 exact Ky (h.callees hi)
end Go.Proofs.YtecdphhdmjmmnaaGreatDoor
namespace Go.Proofs.YtecdphhdmjmmnaaGreatDoor
open Go.RowKit

theorem graph_i64 {u:UniL} (h:ChkOk u) {k:Nat} (hk:k<u.funcs.length) {x:Int} (hx:x∈qB (zq u.funcs[k])):I64 x:=by
 have h1:=h.callees hk x hx
 have h2:=h.nf
 unfold I64
 omega
theorem Qg {w:World} {b i:Nat} {cs:Array Value} {t:TypeId} {fr:Nat×Nat} {v:Value} (h:w.heap[b]?=some (.cells cs t fr)) (hi:cs[i]?=some v):w.setCell ⟨b,i,none⟩ v=w:=by
 have e:(w.setCell ⟨b,i,none⟩ v).heap=w.heap:=by
  apply Array.ext_getElem?
  intro k
  by_cases hk:b=k
  ·subst hk
   have hs:cs.setIfInBounds i v=cs:=by
    apply Array.ext_getElem?
    intro j
    rw[Array.getElem?_setIfInBounds]
    split
    ·rename_i hj
     subst hj
     split
     ·exact hi.symm
     rename_i hl
     rw[Array.getElem?_eq_none (by omega)]
    rfl
   simp[World.setCell,Array.getElem?_modify,h,hs]
  simp[World.setCell,Array.getElem?_modify,hk]
 show { w with heap:=(w.setCell ⟨b,i,none⟩ v).heap }=w
 rw[e]
theorem gr_ok (u:UniL) (gp fp:Option Addr) (gc fc:Nat) (w:World) (hgl:u.globals.length*48≤140737488351232) (hG:SliceAt w 3 (GloR w) gp u.globals) (hfl:u.funcs.length*56≤140737488351232) (hF:SliceAt w 4 (FunR w) fp u.funcs) (hw0:Ways w) (h:(chk u).1=0) :
  Calls Tryz.prog 20 #[.agg #[.slice gp u.globals.length gc,.slice fp u.funcs.length fc]] w fun e w'=>∃T,e = .returned (.tuple #[.slice (some ⟨T,0,none⟩) u.funcs.length u.funcs.length,.agg #[.int .i64 0,.int .i64 0]])∧SliceAt w' 1 (IntsR w') (some ⟨T,0,none⟩) (jO u.funcs u.funcs.length)∧Below w.heap.size w w':=by
 have HG:=q7 hG
 have HF:=q7 hF
 have HW:=q7 hw0
 have HK:=q7 (vk h).2
 have hne:((chk u).1 == 0&&(chk u).2 == 0)=true:=by rw[(vk h).1];rfl
 have hq:∀w,(binOp .neq 27 (.agg #[.int .i64 (chk u).1,.int .i64 (chk u).2]) (.agg #[.int .i64 0,.int .i64 0])).run Tryz.prog w = .ok (.bool false) w:=fun w=>by rw[xr,hne];rfl
 clear hG hF hw0 h hne
 go_enter Tryz.func20,Tryz.ntmps20
 go_wp2_with fail
 refine(vh u _ _ _ _ _ hgl ?_ hfl ?_ ?_).mono ?_
 ·exact zT HG.out bZ
 ·exact xF HF.out bZ
 ·exact HW.out.below bZ
 rintro e w2 ⟨rfl,hb2⟩
 have HB1:Hid (Below w.heap.size w w2):=Below.trans bZ (hb2.mono (by simp;omega))
 have hR:=qd hb2 (k:=w.heap.size+1) (by simp) (qj (w:=w.alloc (.cells #[.slice gp u.globals.length gc,.slice fp u.funcs.length fc] 25)) (o:=.cells #[.int .i64 0,.int .i64 0] 27) (by simp))
 obtain⟨hcc,hcf⟩:=blk hR
 have hz:w.heap.size+1<w2.heap.size:=by have:=hb2.size;simp at this;omega
 have hc0:=fun o=>(blk (qd hb2 (k:=w.heap.size) (by simp;omega) (qh (qm w _)))).1 o
 have hz2:w.heap.size<w2.heap.size:=by omega
 clear hb2
 have HR:=q7 hR
 clear hR
 go_wp2_with (go_at_call 42;refine(graph_any u.funcs _ _ _ _ _ _ HK.out.nf (fun k h=>Nat.le_trans (Kz _) (HK.out.fn h).2.2.2) (fun k h x hx=>graph_i64 HK.out h hx) ?_).mono ?_;(focus (exact xF HF.out bZ));rintro e w3 ⟨T,rfl,hS3,hb3⟩;have hR3:=qd hb3 (k:=w.heap.size+1) (by simp;omega) (qh HR.out);obtain⟨haO,haR⟩:=blk hR3;have hz3:w.heap.size+1<w3.heap.size:=(Array.getElem?_eq_some_iff.1 hR3).1)
 rw[Qg hR3 rfl,Qg hR3 rfl]
 refine bodyPost_ret (v:=.tuple #[.slice (some ⟨T,0,none⟩) u.funcs.length u.funcs.length,.agg #[.int .i64 0,.int .i64 0]]) ?_ rfl ⟨T,rfl,?_,?_⟩
 ·simp[results,Tryz.results20,go_sem,haO]
 ·rw[←HK.out.graph]
  exact hS3
 exact bZ
end Go.Proofs.YtecdphhdmjmmnaaGreatDoor
namespace Go.Proofs.YtecdphhdmjmmnaaGreatDoor

def xg (n:Nat) (had:Nat→Bool):Nat:=((List.range n).filter fun j=>!had j).length
theorem kf {p q:Nat→Bool}:∀(l:List Nat),(∀x∈l,p x=true→q x=true)→(l.filter p).length≤(l.filter q).length
 | [],_=>by simp
 | a::l,h=>by
  have ih:=kf l (fun x hx=>h x (List.mem_cons_of_mem _ hx))
  have ha:=h a List.mem_cons_self
  by_cases hp:p a=true
  ·rw[List.filter_cons_of_pos hp,List.filter_cons_of_pos (ha hp)]
   simpa using ih
  rw[List.filter_cons_of_neg hp]
  by_cases hq:q a=true
  ·rw[List.filter_cons_of_pos hq];simp;omega
  rw[List.filter_cons_of_neg hq];exact ih
theorem QZ {p q:Nat→Bool} {k:Nat}:∀(l:List Nat),(∀x∈l,p x=true→q x=true)→k∈l→p k=false→q k=true→(l.filter p).length<(l.filter q).length
 | [],_,h,_,_=>by cases h
 | a::l,h,hk,h1,h2=>by
  have ha:=h a List.mem_cons_self
  rcases List.mem_cons.1 hk with e|hk2
  ·subst e
   have ih:=kf l (fun x hx=>h x (List.mem_cons_of_mem _ hx))
   rw[List.filter_cons_of_neg (by simp[h1]),List.filter_cons_of_pos h2]
   simp;omega
  have ih:=QZ l (fun x hx=>h x (List.mem_cons_of_mem _ hx)) hk2 h1 h2
  by_cases hp:p a=true
  ·rw[List.filter_cons_of_pos hp,List.filter_cons_of_pos (ha hp)]
   simpa using ih
  rw[List.filter_cons_of_neg hp]
  by_cases hq:q a=true
  ·rw[List.filter_cons_of_pos hq];simp;omega
  rw[List.filter_cons_of_neg hq];exact ih
theorem kZ {n:Nat} {p q:Nat→Bool} (h:∀j,p j=true→q j=true):xg n q≤xg n p:=
 kf _ fun x _ hx=>by
  cases hp:p x with
  | false=>rfl
  | true=>rw[h x hp]at hx;cases hx
theorem KA {n k:Nat} {p q:Nat→Bool} (h:∀j,p j=true→q j=true) (hk:k<n) (h1:p k=false) (h2:q k=true):xg n q<xg n p:=by
 refine QZ (k:=k) _ (fun x _ hx=>?_) (List.mem_range.2 hk) (by simp[h2]) (by simp[h1])
 cases hp:p x with
 | false=>rfl
 | true=>rw[h x hp]at hx;cases hx

end Go.Proofs.YtecdphhdmjmmnaaGreatDoor
namespace Go.Proofs.YtecdphhdmjmmnaaGreatDoor
open Go.RowKit Go.Shelf

abbrev PostS:=(Nat→Bool)×List Int
def zE (rec:Nat→PostS→PostS) (s:PostS) (t:Int):PostS:=if s.1 t.toNat then s else rec t.toNat s
def zI (rec:Nat→PostS→PostS) (xs:List Int) (s:PostS):Nat→PostS
 | 0=>s
 | i+1=>zE rec (zI rec xs s i) (xs.getD (xs.length - 1 - i) 0)
def x8 (b:Nat) (s:PostS):PostS:=(fun j=>if j=b then true else s.1 j,s.2)
def jJ (tos:Nat→List Int):Nat→Nat→PostS→PostS
 | 0,_,s=>s
 | c+1,b,s=>((zI (jJ tos c) (tos b) (x8 b s) (tos b).length).1,(zI (jJ tos c) (tos b) (x8 b s) (tos b).length).2++[(b:Int)])

theorem X9 {b:Nat} {s:PostS} {j:Nat} (h:s.1 j=true):(x8 b s).1 j=true:=by
 show(if j=b then true else s.1 j)=true
 split
 ·rfl
 exact h
theorem jG {n b:Nat} {s:PostS} (hb:b<n) (h:s.1 b=false):xg n (x8 b s).1<xg n s.1:=
 KA (fun _=>X9) hb h (by show(if b=b then true else _)=true;simp)

structure VisOk (n:Nat) (s s':PostS):Prop where
 up:∀j,s.1 j=true→s'.1 j=true
 many:s'.2.length+xg n s'.1≤s.2.length+xg n s.1
theorem VisOk.refl (n:Nat) (s:PostS):VisOk n s s:=⟨fun _ h=>h,Nat.le_refl _⟩
theorem VisOk.trans {n:Nat} {a b c:PostS} (h:VisOk n a b) (k:VisOk n b c):VisOk n a c:=⟨fun j e=>k.up j (h.up j e),Nat.le_trans k.many h.many⟩

theorem Qx {n:Nat} {rec:Nat→PostS→PostS} {xs:List Int} (hx:∀x∈xs,0≤x∧x<(n:Int)) {s:PostS} (h:∀b s',b<n→s'.1 b=false→VisOk n s s'→VisOk n s' (rec b s')):∀i,i≤xs.length→VisOk n s (zI rec xs s i)
 | 0,_=>VisOk.refl _ _
 | i+1,hi=>by
  have ih:=Qx hx h i (by omega)
  show VisOk n s (zE rec (zI rec xs s i) (xs.getD (xs.length - 1 - i) 0))
  unfold zE
  have hk:xs.length - 1 - i<xs.length:=by omega
  have hm:=hx _ (List.getElem_mem hk)
  rw[List.getD_eq_getElem?_getD,List.getElem?_eq_getElem hk]
  cases e:(zI rec xs s i).1 (xs[xs.length - 1 - i]).toNat
  ·rw[show((some xs[xs.length - 1 - i]).getD 0)=xs[xs.length - 1 - i]from rfl,e]
   exact ih.trans (h _ _ (by omega) e ih)
  rw[show((some xs[xs.length - 1 - i]).getD 0)=xs[xs.length - 1 - i]from rfl,e]
  exact ih
theorem V1 {n:Nat} {tos:Nat→List Int} (hT:∀b,b<n→∀x∈tos b,0≤x∧x<(n:Int)):∀(c b:Nat) (s:PostS),b<n→s.1 b=false→VisOk n s (jJ tos c b s)
 | 0,_,s,_,_=>VisOk.refl n s
 | c+1,b,s,hb,h=>by
  have h1:=jG (n:=n) hb h
  have h2:=Qx (n:=n) (rec:=jJ tos c) (xs:=tos b) (hT b hb) (s:=x8 b s) (fun b' s' hb' h' _=>V1 hT c b' s' hb' h') (tos b).length (Nat.le_refl _)
  refine⟨fun j e=>h2.up j (X9 e),?_⟩
  have h3:=h2.many
  have h4:(x8 b s).2=s.2:=rfl
  rw[h4]at h3
  show((zI (jJ tos c) (tos b) (x8 b s) (tos b).length).2++[(b:Int)]).length+_≤_
  rw[List.length_append]
  show _+1+xg n (zI (jJ tos c) (tos b) (x8 b s) (tos b).length).1≤_
  omega

structure PostM (W:World) (V L n B:Nat) (tb ti:TypeId) (tl:TypeId) (lv:Value) (s:PostS):Prop where
 seen:W.rowIs V tb n (fun j=>.bool (s.1 j))
 var:W.heap[L]?=some (.cells #[lv] tl (0,0))
 own:W.ownsRow B ti 1 lv s.2.length (s.2.map (.int .i64))
structure PostI (W0:World) (lv0:Value) (V L n B:Nat) (tb ti tl:TypeId) (lv:Value) (s:PostS) (W:World):Prop where
 st:PostM W V L n B tb ti tl lv s
 kept:Kept (fun k=>k=V∨k=L∨some k=lv0.ownBlock) W0 W
 blk:lv.ownBlock=lv0.ownBlock∨∃k,lv.ownBlock=some k∧W0.heap.size≤k

theorem PostI.trans {W0 W1 W2:World} {lv0 lv1 lv2:Value} {V L n B:Nat} {tb ti tl:TypeId} {s1 s2:PostS} (h:PostI W0 lv0 V L n B tb ti tl lv1 s1 W1) (k:PostI W1 lv1 V L n B tb ti tl lv2 s2 W2):PostI W0 lv0 V L n B tb ti tl lv2 s2 W2 where
 st:=k.st
 kept:=h.kept.trans k.kept fun i hi hS=>by
  rcases hS with e|e|e
  ·exact .inl e
  ·exact .inr (.inl e)
  rcases h.blk with g|⟨q,g,hq⟩
  ·exact .inr (.inr (e.trans g))
  rw[g]at e;injection e with e;omega
 blk:=by
  rcases k.blk with g|⟨q,g,hq⟩
  ·rcases h.blk with g2|⟨q,g2,hq⟩
   ·exact .inl (g.trans g2)
   exact .inr ⟨q,g.trans g2,hq⟩
  exact .inr ⟨q,g,Nat.le_trans h.kept.size hq⟩
theorem PostI.base {w1 W0 W:World} {lv0 lv:Value} {V L n B:Nat} {tb ti tl:TypeId} {s s0:PostS} (h:PostI W0 lv0 V L n B tb ti tl lv s W) (h0:PostM W0 V L n B tb ti tl lv0 s0) (hB:w1.heap.size≤B) (hk:Kept (fun k=>k=V∨k=L) w1 W0):Kept (fun k=>k=V∨k=L) w1 W:=
 hk.trans h.kept fun i hi hS=>by
  rcases hS with e|e|e
  ·exact .inl e
  ·exact .inr e
  have:=(h0.own.lt i e.symm).1
  omega
theorem PostM.grown {W W':World} {V L n B:Nat} {tb ti tl:TypeId} {lv:Value} {s:PostS} {row:Option Nat} (h:PostM W V L n B tb ti tl lv s) (hg:W.grownBy W' row) (hr:∀r,row=some r→∃o:Obj,W.heap[r]?=some o∧o.isCells=false):PostM W' V L n B tb ti tl lv s where
 seen:=h.seen.of_block (hg.block V h.seen.lt (fun e=>by
  obtain⟨o,ho,hc⟩:=hr V e.symm
  obtain⟨cs,hcs⟩:=h.seen
  rw[hcs.1]at ho
  cases ho;cases hc))
 var:=(hg.block L (Array.getElem?_eq_some_iff.1 h.var).1 (fun e=>by
  obtain⟨o,ho,hc⟩:=hr L e.symm
  rw[h.var]at ho
  cases ho;cases hc)).trans h.var
 own:=h.own.kept hg (by
  rcases h.own.2 with⟨hv,_⟩|⟨g,cap,cur,hv,_,hh,_⟩
  ·rw[hv];exact .inl rfl
  right
  rw[hv]
  intro e
  obtain⟨o,ho,hc⟩:=hr g e.symm
  rw[hh]at ho
  cases ho;cases hc)
theorem VK {W0:World} {lv0:Value} {V L n B B':Nat} {tb ti tl:TypeId} (hB:W0.heap.size≤B') (g:Nat→PostS):OwnFrom B' (fun i W=>∃lv,PostI W0 lv0 V L n B tb ti tl lv (g i) W):=by
 rintro s W W' row ⟨lv,h⟩ hg hr
 refine⟨lv,h.st.grown hg (fun r e=>(hr r e).2),?_,h.blk⟩
 exact⟨hg.os.trans h.kept.os,hg.tape.trans h.kept.tape,hg.output.trans h.kept.output,Nat.le_trans h.kept.size hg.size,fun k hk hn=>(hg.block k (Nat.lt_of_lt_of_le hk h.kept.size) (fun e=>by have:=(hr k e.symm).1;omega)).trans (h.kept.block k hk hn)⟩
theorem PostM.loc {W W':World} {V L n B:Nat} {tb ti tl:TypeId} {lv:Value} {s:PostS} (h:PostM W V L n B tb ti tl lv s) (hb:Below W.heap.size W W'):PostM W' V L n B tb ti tl lv s:=
 ⟨h.seen.of_block (hb.block V h.seen.lt),(hb.block L (Array.getElem?_eq_some_iff.1 h.var).1).trans h.var,xP h.own hb⟩
theorem PostI.here {W:World} {V L n B:Nat} {tb ti tl:TypeId} {lv:Value} {s:PostS} (h:PostM W V L n B tb ti tl lv s):PostI W lv V L n B tb ti tl lv s W:=⟨h,Kept.refl _ _,.inl rfl⟩
theorem PostI.below {W0 W W':World} {lv0:Value} {V L n B:Nat} {tb ti tl:TypeId} {lv:Value} {s:PostS} (h:PostI W0 lv0 V L n B tb ti tl lv s W) (hb:Below W.heap.size W W'):PostI W0 lv0 V L n B tb ti tl lv s W':=
 h.trans ⟨h.st.loc hb,Kept.of_below hb,.inl rfl⟩
end Go.Proofs.YtecdphhdmjmmnaaGreatDoor
