/-
  The contract of span.Do.
-/
import Derived.Test.YtbnnhmcloecijaaGreatDoorJSpnL
set_option maxRecDepth 100000
set_option maxHeartbeats 16000000
namespace Go.Proofs.YtbnnhmcloecijaaGreatDoor
open Go.RowKit Go.Shelf
attribute [local go_sem] Oper.semAt_some

theorem AllW.kept {S:Blks} {w w':World} (h:AllW w) (hk:Kept S w w') (hS:¬ S 0):AllW w':=
 ⟨(hk.cell (p:=⟨0,0,none⟩) (qd h.1) hS).trans h.1,(hk.cell (p:=⟨0,1,none⟩) (qd h.1) hS).trans h.2.1,(hk.cell (p:=⟨0,2,none⟩) (qd h.1) hS).trans h.2.2⟩
theorem gone_0 {l:Nat→Spn} {x:EndL} {lo hi:Int} (hk:x.kind=3) (hv:vlS l (x.onr,x.onn)=⟨lo,hi,true⟩) (h:lo=0∧hi=0):jr l x=some (x.to.getD 0 0).toNat:=by
 unfold jr
 rw [zZ hk]
 dsimp only
 rw [hv]
 simp [h]
theorem YF {l:Nat→Spn} {x:EndL} {lo hi:Int} (hk:x.kind=3) (hv:vlS l (x.onr,x.onn)=⟨lo,hi,true⟩) (h:¬(lo=0∧hi=0)) (h1:0<lo∨hi<0):jr l x=some (x.to.getD 1 0).toNat:=by
 unfold jr
 rw [zZ hk]
 dsimp only
 rw [hv,zQ (fun g=>h g.2),zZ ⟨rfl,h1⟩]
theorem gone_2 {l:Nat→Spn} {x:EndL} {lo hi:Int} (hk:x.kind=3) (hv:vlS l (x.onr,x.onn)=⟨lo,hi,true⟩) (h:¬(lo=0∧hi=0)) (h1:¬(0<lo∨hi<0)):jr l x=none:=by
 unfold jr
 rw [zZ hk]
 dsimp only
 rw [hv,zQ (fun g=>h g.2),zQ (fun g=>h1 g.2)]
theorem gone_n {l:Nat→Spn} {x:EndL} (hv:(vlS l (x.onr,x.onn)).has=false):jr l x=none:=by
 unfold jr
 split
 ·dsimp only
  rw [hv]
  simp
 rfl
def Q7 (l:Nat→Spn) (f:FunL) (b:Nat):FunL:=(List.range b).foldl (kg l) (insT l f)
theorem Za (l:Nat→Spn) (f:FunL) (b:Nat):Q7 l f (b+1)=kg l (Q7 l f b) b:=by
 unfold Q7
 rw [yt,yh]
 rfl
theorem YG {nf:Nat} {P:Nat→Int} {f:FunL} (l:Nat→Spn) (h:FunC nf P f):∀b,b≤f.blocks.length→FunC nf P (Q7 l f b)∧(Q7 l f b).blocks.length=f.blocks.length
 | 0,_=>⟨h.insT l,jS l f⟩
 | b+1,hb=>by
  obtain ⟨h1,h2⟩:=YG l h b (by omega)
  rw [Za]
  obtain ⟨h3,h4⟩:=KB (l:=l) h1 (b:=b) (by omega)
  exact ⟨h3,h4.trans h2⟩
theorem VP (l:Nat→Spn) (f:FunL) (b:Nat):(kg l f b).name=f.name∧(kg l f b).params=f.params∧(kg l f b).regs=f.regs:=by
 unfold kg
 cases jr l (atF f b).fin with
 | none=>exact ⟨rfl,rfl,rfl⟩
 | some g=>exact ⟨rfl,rfl,rfl⟩
theorem J6 (l:Nat→Spn) (f:FunL):∀b,(Q7 l f b).name=f.name∧(Q7 l f b).params=f.params∧(Q7 l f b).regs=f.regs
 | 0=>⟨rfl,rfl,rfl⟩
 | b+1=>by
  rw [Za]
  obtain ⟨a1,a2,a3⟩:=VP l (Q7 l f b) b
  obtain ⟨b1,b2,b3⟩:=J6 l f b
  exact ⟨a1.trans b1,a2.trans b2,a3.trans b3⟩
theorem insL_dst {regs:Int} {nf:Nat} {P:Nat→Int} {x:InsL} (h:vS regs nf P x.op x.dst x.an x.bn x.fn x.ar x.br x.args=0):-1≤x.dst:=by
 have hC:=insC_iff.1 h
 by_cases hs:shD x.op=true
 ·by_cases e:x.op=20∧x.dst = -1
  ·omega
  have:=hC.d1 hs e;omega
 have:=hC.d0 (by simpa using hs)
 omega
theorem JP {u:UniL} (h:okU u=true):jU u=(0,0):=by
 unfold okU at h
 have h1:((jU u).1 == 0&&(jU u).2 == 0)=true:=by simpa using h
 simp only [Bool.and_eq_true,beq_iff_eq] at h1
 exact Prod.ext h1.1 h1.2
theorem YH {u:UniL} (h:okU u=true):(chk u).1=0:=by
 by_cases hc:(chk u).1=0
 ·exact hc
 exfalso
 have h0:=JP h
 rw [show jU u=chk u from by unfold jU;rw [zQ hc]] at h0
 rw [h0] at hc
 exact hc rfl

theorem spdo_ok (u:UniL) (gp fp:Option Addr) (gc fc:Nat) (w:World) (hgl:u.globals.length*48≤140737488351232) (hG:SlF w 3 48 (GloR w) (.slice gp u.globals.length gc) u.globals) (hfl:u.funcs.length*56≤140737488351232) (hF:SlF w 4 56 (FunR w) (.slice fp u.funcs.length fc) u.funcs) (hw0:Ways w) (hA:AllW w) (hok:okU u=true) :
  Calls Tryz.prog 7 #[.agg #[.slice gp u.globals.length gc,.slice fp u.funcs.length fc]] w fun e w'=>(∃p1 c1 p2 c2,e = .returned (.tuple #[.agg #[.slice p1 u.globals.length c1,.slice p2 u.funcs.length c2],.agg #[.int .i64 0,.int .i64 0]])∧
   ∃S,UniO w' [.slice p1 u.globals.length c1,.slice p2 u.funcs.length c2] (xl (jt (xl u))) S∧LoB w.heap.size S)∧Below w.heap.size w w':=by
 have hG':SliceAt w 3 (GloR w) gp u.globals:=by
  obtain ⟨p,c,e,_,_,h⟩:=hG.outC
  cases e
  exact h
 have hF':SliceAt w 4 (FunR w) fp u.funcs:=by
  obtain ⟨p,c,e,_,_,h⟩:=hF.outC
  cases e
  exact h
 have HGs:=q7 hG
 have HFs:=q7 hF
 have HG:=q7 hG'
 have HF:=q7 hF'
 have HW:=q7 hw0
 have HA:=q7 hA
 have HK:=q7 (YH hok)
 have hne:((jU u).1 == 0&&(jU u).2 == 0)=true:=by rw [JP hok];rfl
 have hq:∀w,(binOp .neq 27 (.agg #[.int .i64 (jU u).1,.int .i64 (jU u).2]) (.agg #[.int .i64 0,.int .i64 0])).run Tryz.prog w = .ok (.bool false) w:=fun w=>by rw [ju,hne];rfl
 have hq2:∀w,(binOp .neq 27 (.agg #[.int .i64 0,.int .i64 0]) (.agg #[.int .i64 0,.int .i64 0])).run Tryz.prog w = .ok (.bool false) w:=fun w=>by rw [ju];rfl
 clear hG hF hG' hF' hw0 hne hA hok
 refine (callsIn_wide (n:=3)).1 ?_
 refine callsIn_of_wp_marks Tryz.func7 rfl trivial ?_ rfl
 simp only [Tryz.ntmps7,List.size_toArray,yi,List.length_nil,Nat.reduceAdd,Nat.reduceSub,Array.replicate_succ,Array.replicate_zero,List.push_toArray,List.append_toArray,List.nil_append,List.cons_append]
 refine wpIn_wide.2 ?_
 go_wp2_with fail
 refine (kK u _ _ _ _ _ hgl (vT HG.out bZ) hfl (vU HF.out bZ) (HW.out.below bZ)).mono ?_
 rintro e w1 ⟨rfl,hb1⟩
 have HB1:Hid (Below w.heap.size w w1):=yo bZ (hb1.mono (by simp;omega))
 have hU:=qj hb1 (k:=w.heap.size) (by simp;omega) (qg (qg (qn w _)))
 have hR:=qj hb1 (k:=w.heap.size+1) (by simp) (qg (qh (w:=w.alloc (.cells #[.slice gp u.globals.length gc,.slice fp u.funcs.length fc] 25)) (o:=.cells #[.slice none 0 0,.slice none 0 0] 25) (by simp)))
 have hR2:=qj hb1 (k:=w.heap.size+1+1) (by simp) (qh (w:=(w.alloc (.cells #[.slice gp u.globals.length gc,.slice fp u.funcs.length fc] 25)).alloc (.cells #[.slice none 0 0,.slice none 0 0] 25)) (o:=.cells #[.int .i64 0,.int .i64 0] 27) (by simp))
 have HR:=q7 hR
 have HR2:=q7 hR2
 obtain ⟨hcu,hfu⟩:=blk hU
 have zu:=q8 hU
 have z1:=q8 hR
 have z2:=q8 hR2
 clear hb1 hR hR2 hU
 go_wp2_with fail
 obtain ⟨w2,hw2⟩:∃w2,w2=w1.alloc (.cells #[.int .i64 (jU u).1,.int .i64 (jU u).2] 27):=⟨_,rfl⟩
 rw [←hw2]
 have hb2:Below w1.heap.size w1 w2:=by rw [hw2];exact bZ
 have HB2:=q7 hb2
 have haY:=q7 (HB1.out.trans (hb2.mono (by omega)))
 clear hw2 hb2
 have hgm:=SlF.mono HGs.out haY.out (by omega) fun _ _ h=>h.below haY.out
 have hfm:=SlF.mono HFs.out haY.out (by omega) fun _ _ h=>h.below haY.out
 refine (tdo_ok u gp fp gc fc w2 hgl hgm hfl hfm (HW.out.below haY.out) HK.out).mono ?_
 rintro e w3 ⟨⟨p1,c1,p2,c2,rfl,S,hS,hL⟩,hb3⟩
 have hz2:=HB2.out.size
 have HR3:=q7 ((hb3.block _ (by omega)).trans ((HB2.out.block _ z1).trans HR.out))
 have hp9:=q7 ((hb3.block _ (by omega)).trans ((HB2.out.block _ z2).trans HR2.out))
 have HS:=q7 hS
 have HB3:=q7 (haY.out.trans (hb3.mono haY.out.size))
 have hz3:=hb3.size
 clear hS hL hb3 hgm hfm hcu hfu zu HR HR2
 obtain ⟨T,hT⟩:∃T,T=xl u:=⟨_,rfl⟩
 have hTg:T.globals=u.globals:=by rw [hT];rfl
 have hTl:T.funcs.length=u.funcs.length:=by rw [hT];simp [xl]
 have hTk:ChkOk T:=by rw [hT];exact (XF HK.out).2.tidy.2
 rw [←hT] at HS
 have HTk:=q7 hTk
 have HT:=q7 hT
 have HTl:=q7 hTl
 have HTg:=q7 hTg
 clear hT hTk hTl hTg
 go_wp2_with fail
 obtain ⟨W4,hW4⟩:∃W4,W4=(w3.alloc (.cells #[.slice p1 u.globals.length c1,.slice p2 u.funcs.length c2] 25)).alloc (.cells #[.int .i64 0,.int .i64 0] 27):=⟨_,rfl⟩
 rw [←hW4]
 have hz4:W4.heap.size=w3.heap.size+1+1:=by rw [hW4];simp
 have hb4:Below w3.heap.size w3 W4:=by rw [hW4];exact bZ
 have hO4:W4.heap[w3.heap.size]?=some (.cells #[.slice p1 u.globals.length c1,.slice p2 u.funcs.length c2] 25 (0,0)):=by rw [hW4];exact qg (qh rfl)
 clear hW4
 have hcp:Calls Tryz.prog 14 #[.agg #[.slice p1 u.globals.length c1,.slice p2 u.funcs.length c2]] W4 fun e w'=>(∃p1 c1 p2 c2,e = .returned (.agg #[.slice p1 u.globals.length c1,.slice p2 u.funcs.length c2])∧
   ∃S,UniO w' [.slice p1 u.globals.length c1,.slice p2 u.funcs.length c2] T S∧LoB W4.heap.size S)∧Below W4.heap.size W4 w':=by
  obtain ⟨v1,v2,S1,S2,h0,h1,h2,_⟩:=HS.out
  simp only [List.cons.injEq,and_true] at h0
  obtain ⟨rfl,rfl⟩:=h0
  have m1:=SlF.mono (R':=GloR W4) ((⟨h1.sl.below jg hb4,h1.bd⟩:SlQ 82 3 48 GloO W4 (.slice p1 u.globals.length c1) T.globals S1).read (R':=GloR W4) jg (by omega) fun _ _ _ h=>h.read) (zI _ _) (by omega) fun _ _ h=>h
  have m2:=SlF.mono (R':=FunR W4) ((⟨h2.sl.below xu hb4,h2.bd⟩:SlQ 36 4 56 FunO W4 (.slice p2 u.funcs.length c2) T.funcs S2).read (R':=FunR W4) xu (by omega) fun _ _ _ h=>h.read) (zI _ _) (by omega) fun _ _ h=>h
  rw [←HTg.out] at m1 ⊢
  rw [←HTl.out] at m2 ⊢
  exact copy_any T p1 p2 c1 c2 W4 m1 m2
 refine hcp.mono ?_
 rintro e w5 ⟨⟨p3,c3,p4,c4,rfl,Su,hSu,hLu⟩,hb5⟩
 have hO5:=(hb5.block _ (by omega)).trans hO4
 obtain ⟨ob,of⟩:=blk hO5
 have ob0:=ob 0
 have ob1:=ob 1
 simp only [zE,zB,zD] at ob0 ob1
 have oz:=q8 hO5
 have HSu:=q7 hSu
 have HLu:=q7 (show ∀i,Su i→W4.heap.size≤i from hLu)
 have HO5:=q7 hO5
 have hz5:=hb5.size
 have HR5:=q7 ((hb5.block _ (by omega)).trans ((hb4.block _ (by omega)).trans HR3.out))
 have hl6:=q7 ((hb5.block _ (by omega)).trans ((hb4.block _ (by omega)).trans hp9.out))
 have HB5:=q7 ((HB3.out.trans (hb4.mono HB3.out.size)).trans (hb5.mono (by have:=HB3.out.size;omega)))
 clear hcp hSu hLu hO5 hO4 hb4 hb5 ob HS HR3 hp9
 go_wp2_with fail
 obtain ⟨W6,hW6⟩:∃W6,W6=(w5.setCell ⟨w3.heap.size,0,none⟩ (.slice p3 u.globals.length c3)).setCell ⟨w3.heap.size,1,none⟩ (.slice p4 u.funcs.length c4):=⟨_,rfl⟩
 rw [←hW6]
 have hz6:W6.heap.size=w5.heap.size:=by rw [hW6];simp [World.setCell]
 have hO6:W6.heap[w3.heap.size]?=some (.cells #[.slice p3 u.globals.length c3,.slice p4 u.funcs.length c4] 25 (0,0)):=by
  rw [hW6,qq (qq HO5.out 0 _) 1 _]
  rfl
 have hK6:Kept (fun i=>i=w3.heap.size) w5 W6:=by
  rw [hW6]
  have h0:Kept (fun i=>i=w3.heap.size) w5 w5:=Kept.refl _ _
  have h1:=h0.setCell (p:=⟨w3.heap.size,0,none⟩) rfl (.slice p3 u.globals.length c3)
  exact h1.setCell (p:=⟨w3.heap.size,1,none⟩) rfl (.slice p4 u.funcs.length c4)
 obtain ⟨v1,v2,S1,S2,h0,hg5,hf5,hap,hs1,hs2⟩:=HSu.out
 simp only [List.cons.injEq,and_true] at h0
 obtain ⟨rfl,rfl⟩:=h0
 have hl7:∀i,S1 i→W4.heap.size≤i∧i<W6.heap.size:=fun i hi=>⟨HLu.out i (hs1 i hi),by have:=hg5.sl.inb i hi;omega⟩
 have hl9:∀i,S2 i→W4.heap.size≤i∧i<W6.heap.size:=fun i hi=>⟨HLu.out i (hs2 i hi),by have:=hf5.sl.inb i hi;omega⟩
 have hg6:SlO 82 3 GloO W6 (.slice p3 u.globals.length c3) T.globals S1:=hg5.sl.kept jg hK6 (fun i h1 h2=>by have:=hl7 i h2;omega)
 have hf6:SlO 36 4 FunO W6 (.slice p4 u.funcs.length c4) T.funcs S2:=hf5.sl.kept xu hK6 (fun i h1 h2=>by have:=hl9 i h2;omega)
 have hb6:Below w.heap.size w W6:=HB5.out.trans (hK6.below (by have:=HB5.out.size;omega) (fun i e=>by have:=HB3.out.size;omega))
 have HR6:=q7 ((hK6.block _ (q8 HR5.out) (by omega)).trans HR5.out)
 have hlu:=q7 ((hK6.block _ (q8 hl6.out) (by omega)).trans hl6.out)
 have HO6:=q7 hO6
 have HG6:=q7 hg6
 have HF6:=q7 hf6
 have HB6:=q7 hb6
 have HAp:=q7 hap
 have haW:=q7 hl7
 have hdJ:=q7 hl9
 have HBd:=q7 (zh hg5.bd hf5.bd)
 obtain ⟨xs,hxs⟩:∃xs,xs=T.funcs:=⟨_,rfl⟩
 have hxl:xs.length=u.funcs.length:=by rw [hxs];exact HTl.out
 rw [←hxs] at HF6
 have HXs:=q7 hxs
 have HXl:=q7 hxl
 have hvA:=HB3.out.size
 clear hW6 hO6 hK6 hg5 hf5 hg6 hf6 hb6 hap hs1 hs2 hl7 hl9 hxs hxl of ob0 ob1 oz HSu HLu HO5 HR5 hl6 HB5
 refine (wpIn_wide (n:=3)).1 ?_
 refine wpIn_loop (fun a' w'=>∃(k:Nat) (Ds:List Nat) (Sk:Blks),(k≤u.funcs.length∧Ds.Nodup∧(∀D∈Ds,W6.heap.size≤D∧w'.heap[D]?=some (.deferred (some []))∧¬ Sk D)∧SlO 36 4 FunO w' (.slice p4 u.funcs.length c4) (zM k xU xs) Sk∧(∀i,Sk i→S2 i∨W6.heap.size≤i)∧Kept S2 W6 w')∧a'.defers=Vh Ds∧a'.tmps.size=182∧a'.tmps.getD 2 undef = .pointer (some ⟨w.heap.size+1,0,none⟩)∧a'.tmps.getD 3 undef = .pointer (some ⟨w.heap.size+1+1,0,none⟩)∧a'.tmps.getD 5 undef = .pointer (some ⟨w3.heap.size,0,none⟩)∧a'.tmps.getD 36 undef = .int .i64 u.funcs.length∧a'.tmps.getD 37 undef = .int .i64 k) (fun a' _=>u.funcs.length - (intOf (a'.tmps.getD 37 undef)).toNat) ?start ?round
 case start=>
  exact ⟨0,[],S2,⟨Nat.zero_le _,List.nodup_nil,fun D h=>(by cases h),by rw [xN];exact HF6.out,fun i h=>.inl h,Kept.refl _ _⟩,rfl,rfl,rfl,rfl,rfl,rfl,rfl⟩
 case round=>
  rintro ⟨ts,ds⟩ wk ⟨k,Ds,Sk,⟨hk,hN,hD,hL,hSk,hK⟩,hdf,hfs,hf2,hf3,hf5,hlw,hlC⟩
  simp only at hdf hfs hf2 hf3 hf5 hlw hlC
  subst hdf
  obtain ⟨us,hus⟩:∃us:Nat→Value,us=fun i=>ts.getD i undef:=⟨_,rfl⟩
  have hts:ts=((us 0)::(us 1)::(.pointer (some ⟨w.heap.size+1,0,none⟩))::(.pointer (some ⟨w.heap.size+1+1,0,none⟩))::(us 4)::(.pointer (some ⟨w3.heap.size,0,none⟩))::(us 6)::(us 7)::(us 8)::(us 9)::(us 10)::(us 11)::(us 12)::(us 13)::(us 14)::(us 15)::(us 16)::(us 17)::(us 18)::(us 19)::(us 20)::(us 21)::(us 22)::(us 23)::(us 24)::(us 25)::(us 26)::(us 27)::(us 28)::(us 29)::(us 30)::(us 31)::(us 32)::(us 33)::(us 34)::(us 35)::(.int .i64 u.funcs.length)::(.int .i64 k)::(us 38)::(us 39)::(us 40)::(us 41)::(us 42)::(us 43)::(us 44)::(us 45)::(us 46)::(us 47)::(us 48)::(us 49)::(us 50)::(us 51)::(us 52)::(us 53)::(us 54)::(us 55)::(us 56)::(us 57)::(us 58)::(us 59)::(us 60)::(us 61)::(us 62)::(us 63)::(us 64)::(us 65)::(us 66)::(us 67)::(us 68)::(us 69)::(us 70)::(us 71)::(us 72)::(us 73)::(us 74)::(us 75)::(us 76)::(us 77)::(us 78)::(us 79)::(us 80)::(us 81)::(us 82)::(us 83)::(us 84)::(us 85)::(us 86)::(us 87)::(us 88)::(us 89)::(us 90)::(us 91)::(us 92)::(us 93)::(us 94)::(us 95)::(us 96)::(us 97)::(us 98)::(us 99)::(us 100)::(us 101)::(us 102)::(us 103)::(us 104)::(us 105)::(us 106)::(us 107)::(us 108)::(us 109)::(us 110)::(us 111)::(us 112)::(us 113)::(us 114)::(us 115)::(us 116)::(us 117)::(us 118)::(us 119)::(us 120)::(us 121)::(us 122)::(us 123)::(us 124)::(us 125)::(us 126)::(us 127)::(us 128)::(us 129)::(us 130)::(us 131)::(us 132)::(us 133)::(us 134)::(us 135)::(us 136)::(us 137)::(us 138)::(us 139)::(us 140)::(us 141)::(us 142)::(us 143)::(us 144)::(us 145)::(us 146)::(us 147)::(us 148)::(us 149)::(us 150)::(us 151)::(us 152)::(us 153)::(us 154)::(us 155)::(us 156)::(us 157)::(us 158)::(us 159)::(us 160)::(us 161)::(us 162)::(us 163)::(us 164)::(us 165)::(us 166)::(us 167)::(us 168)::(us 169)::(us 170)::(us 171)::(us 172)::(us 173)::(us 174)::(us 175)::(us 176)::(us 177)::(us 178)::(us 179)::(us 180)::(us 181)::[]).toArray:=by
   have hfr:=QS hfs
   rw [←hus] at hfr
   have h2:us 2 = .pointer (some ⟨w.heap.size+1,0,none⟩):=by rw [hus];exact hf2
   have h3:us 3 = .pointer (some ⟨w.heap.size+1+1,0,none⟩):=by rw [hus];exact hf3
   have h5:us 5 = .pointer (some ⟨w3.heap.size,0,none⟩):=by rw [hus];exact hf5
   have h36:us 36 = .int .i64 u.funcs.length:=by rw [hus];exact hlw
   have h37:us 37 = .int .i64 k:=by rw [hus];exact hlC
   refine hfr.trans ?_
   show ((us 0)::(us 1)::(us 2)::(us 3)::(us 4)::(us 5)::(us 6)::(us 7)::(us 8)::(us 9)::(us 10)::(us 11)::(us 12)::(us 13)::(us 14)::(us 15)::(us 16)::(us 17)::(us 18)::(us 19)::(us 20)::(us 21)::(us 22)::(us 23)::(us 24)::(us 25)::(us 26)::(us 27)::(us 28)::(us 29)::(us 30)::(us 31)::(us 32)::(us 33)::(us 34)::(us 35)::(us 36)::(us 37)::(us 38)::(us 39)::(us 40)::(us 41)::(us 42)::(us 43)::(us 44)::(us 45)::(us 46)::(us 47)::(us 48)::(us 49)::(us 50)::(us 51)::(us 52)::(us 53)::(us 54)::(us 55)::(us 56)::(us 57)::(us 58)::(us 59)::(us 60)::(us 61)::(us 62)::(us 63)::(us 64)::(us 65)::(us 66)::(us 67)::(us 68)::(us 69)::(us 70)::(us 71)::(us 72)::(us 73)::(us 74)::(us 75)::(us 76)::(us 77)::(us 78)::(us 79)::(us 80)::(us 81)::(us 82)::(us 83)::(us 84)::(us 85)::(us 86)::(us 87)::(us 88)::(us 89)::(us 90)::(us 91)::(us 92)::(us 93)::(us 94)::(us 95)::(us 96)::(us 97)::(us 98)::(us 99)::(us 100)::(us 101)::(us 102)::(us 103)::(us 104)::(us 105)::(us 106)::(us 107)::(us 108)::(us 109)::(us 110)::(us 111)::(us 112)::(us 113)::(us 114)::(us 115)::(us 116)::(us 117)::(us 118)::(us 119)::(us 120)::(us 121)::(us 122)::(us 123)::(us 124)::(us 125)::(us 126)::(us 127)::(us 128)::(us 129)::(us 130)::(us 131)::(us 132)::(us 133)::(us 134)::(us 135)::(us 136)::(us 137)::(us 138)::(us 139)::(us 140)::(us 141)::(us 142)::(us 143)::(us 144)::(us 145)::(us 146)::(us 147)::(us 148)::(us 149)::(us 150)::(us 151)::(us 152)::(us 153)::(us 154)::(us 155)::(us 156)::(us 157)::(us 158)::(us 159)::(us 160)::(us 161)::(us 162)::(us 163)::(us 164)::(us 165)::(us 166)::(us 167)::(us 168)::(us 169)::(us 170)::(us 171)::(us 172)::(us 173)::(us 174)::(us 175)::(us 176)::(us 177)::(us 178)::(us 179)::(us 180)::(us 181)::[]).toArray=_
   rw [h2,h3,h5,h36,h37]
  clear hus hfs hf2 hf3 hf5 hlw hlC
  subst hts
  have HN:=q7 hN
  have HD:=q7 hD
  have HL:=q7 hL
  have HSk:=q7 hSk
  have HK:=q7 hK
  have hzk:=hK.size
  have hOk:=(hK.block w3.heap.size (by omega) (fun h=>by have:=(hdJ.out _ h).1;omega)).trans HO6.out
  have ob1:wk.cell? ⟨w3.heap.size,1,none⟩=some (.slice p4 u.funcs.length c4):=(blk hOk).1 1
  have oz:=q8 hOk
  have hpf:∀i,Sk i→W4.heap.size≤i:=fun i hi=>by
   rcases hSk i hi with h|h
   ·exact (hdJ.out i h).1
   omega
  have hvC:=q7 hpf
  have HOk:=q7 hOk
  clear hN hD hL hSk hK hOk hpf
  refine wpIn_wide.2 ?_
  by_cases hlt:k<u.funcs.length
  rotate_left
  ·obtain rfl:k=u.funcs.length:=by omega
   have hfull:zM u.funcs.length xU xs=xs.map xU:=by rw [←HXl.out];exact xn _ _
   have hLf:=HL.out
   rw [hfull,HXs.out] at hLf
   have ob0:wk.cell? ⟨w3.heap.size,0,none⟩=some (.slice p3 u.globals.length c3):=(blk HOk.out).1 0
   have hGk:SlO 82 3 GloO wk (.slice p3 u.globals.length c3) T.globals S1:=HG6.out.kept jg HK.out (fun i h1 h2=>HAp.out i h2 h1)
   have hpg:(chk (jt T)).1=0:=by rw [(HTk.out.span).1]
   have hUg:(jt T).globals=u.globals:=HTg.out
   have hUl:(jt T).funcs.length=u.funcs.length:=by show (T.funcs.map xU).length=_;rw [yT];exact HTl.out
   have hlD:Below w.heap.size w wk:=HB6.out.trans (HK.out.below HB6.out.size (fun i h=>by have:=(hdJ.out i h).1;have:=HB3.out.size;omega))
   have hcall:Calls Tryz.prog 10 #[.agg #[.slice p3 u.globals.length c3,.slice p4 u.funcs.length c4]] wk fun e w'=>(∃p1 c1 p2 c2,e = .returned (.tuple #[.agg #[.slice p1 u.globals.length c1,.slice p2 u.funcs.length c2],.agg #[.int .i64 0,.int .i64 0]])∧
     ∃S,UniO w' [.slice p1 u.globals.length c1,.slice p2 u.funcs.length c2] (xl (jt T)) S∧LoB wk.heap.size S)∧Below wk.heap.size wk w':=by
    have m1:=(⟨hGk,HBd.out.1⟩:SlQ 82 3 48 GloO wk (.slice p3 u.globals.length c3) T.globals S1).read (R':=GloR wk) jg (by omega) fun _ _ _ h=>h.read
    have m2:=(⟨hLf,by rw [yT];exact HBd.out.2⟩:SlQ 36 4 56 FunO wk (.slice p4 u.funcs.length c4) (T.funcs.map xU) Sk).read (R':=FunR wk) xu (by omega) fun _ _ _ h=>h.read
    have hc:=tdo_ok (jt T) p3 p4 c3 c4 wk (by rw [hUg];exact hgl) (by rw [hUg];rw [HTg.out] at m1;exact m1) (by rw [hUl];exact hfl) (by rw [hUl];exact m2) (HW.out.below hlD) hpg
    rw [hUg,hUl] at hc
    exact hc
   have HGk:=q7 hGk
   have hhV:=q7 hlD
   have HR9:=q7 ((HK.out.block _ (q8 HR6.out) (fun h=>by have:=(hdJ.out _ h).1;omega)).trans HR6.out)
   have hhW:=q7 ((HK.out.block _ (q8 hlu.out) (fun h=>by have:=(hdJ.out _ h).1;omega)).trans hlu.out)
   have hz6:=q8 hlu.out
   clear hfull hLf hGk hpg hUg hUl hlD hlt
   go_wp2_with fail
   refine hcall.mono ?_
   rintro e wz ⟨⟨p5,c5,p6,c6,rfl,Sz,hSz,hLz⟩,hbz⟩
   have hzz:=hbz.size
   have hRA:=(hbz.block _ (q8 HR9.out)).trans HR9.out
   have hRE:=(hbz.block _ (q8 hhW.out)).trans hhW.out
   obtain ⟨ab,af⟩:=blk hRA
   have ab0:=ab 0
   have ab1:=ab 1
   have az:=q8 hRA
   obtain ⟨eb,ef⟩:=blk hRE
   have eb0:=eb 0
   have eb1:=eb 1
   have ez:=q8 hRE
   simp only [zE,zB,zD] at ab0 ab1 eb0 eb1
   have HSz:=q7 hSz
   have HLz:=q7 (show ∀i,Sz i→wk.heap.size≤i from hLz)
   have HBz:=q7 hbz
   have HRA:=q7 hRA
   have HRE:=q7 hRE
   clear hSz hLz hbz hRA hRE ab eb hcall ob0 ob1
   go_wp2_with fail
   obtain ⟨WF,hWF⟩:∃WF,WF=(((wz.setCell ⟨w.heap.size+1,0,none⟩ (.slice p5 u.globals.length c5)).setCell ⟨w.heap.size+1,1,none⟩ (.slice p6 u.funcs.length c6)).setCell ⟨w.heap.size+1+1,0,none⟩ (.int .i64 0)).setCell ⟨w.heap.size+1+1,1,none⟩ (.int .i64 0):=⟨_,rfl⟩
   rw [←hWF]
   have hKF:Kept (fun i=>i=w.heap.size+1∨i=w.heap.size+1+1) wz WF:=by
    rw [hWF]
    have h0:Kept (fun i=>i=w.heap.size+1∨i=w.heap.size+1+1) wz wz:=Kept.refl _ _
    have h1:=h0.setCell (p:=⟨w.heap.size+1,0,none⟩) (.inl rfl) (.slice p5 u.globals.length c5)
    have h2:=h1.setCell (p:=⟨w.heap.size+1,1,none⟩) (.inl rfl) (.slice p6 u.funcs.length c6)
    have h3:=h2.setCell (p:=⟨w.heap.size+1+1,0,none⟩) (.inr rfl) (.int .i64 0)
    exact h3.setCell (p:=⟨w.heap.size+1+1,1,none⟩) (.inr rfl) (.int .i64 0)
   have hFA:WF.heap[w.heap.size+1]?=some (.cells #[.slice p5 u.globals.length c5,.slice p6 u.funcs.length c6] 25 (0,0)):=by
    rw [hWF,zJ _ ⟨w.heap.size+1+1,1,none⟩ _ _ (by show w.heap.size+1≠w.heap.size+1+1;omega),zJ _ ⟨w.heap.size+1+1,0,none⟩ _ _ (by show w.heap.size+1≠w.heap.size+1+1;omega),qq (qq HRA.out 0 _) 1 _]
    rfl
   have hFE:WF.heap[w.heap.size+1+1]?=some (.cells #[.int .i64 0,.int .i64 0] 27 (0,0)):=by
    have h0:((wz.setCell ⟨w.heap.size+1,0,none⟩ (.slice p5 u.globals.length c5)).setCell ⟨w.heap.size+1,1,none⟩ (.slice p6 u.funcs.length c6)).heap[w.heap.size+1+1]?=some (.cells #[.int .i64 0,.int .i64 0] 27 (0,0)):=by
     rw [zJ _ ⟨w.heap.size+1,1,none⟩ _ _ (by show w.heap.size+1+1≠w.heap.size+1;omega),zJ _ ⟨w.heap.size+1,0,none⟩ _ _ (by show w.heap.size+1+1≠w.heap.size+1;omega)]
     exact HRE.out
    rw [hWF,qq (qq h0 0 _) 1 _]
    rfl
   have hBF:Below w.heap.size w WF:=(hhV.out.trans (HBz.out.mono hhV.out.size)).trans (hKF.below (by have:=hhV.out.size;omega) (fun i e=>by omega))
   have hSF:UniO WF [.slice p5 u.globals.length c5,.slice p6 u.funcs.length c6] (xl (jt T)) Sz:=by
    obtain ⟨x1,x2,X1,X2,h0,h1,h2,h3,g1,g2⟩:=HSz.out
    exact ⟨x1,x2,X1,X2,h0,⟨h1.sl.kept jg hKF (fun i a b=>by have:=HLz.out i (g1 i b);have:=q8 hhW.out;omega),h1.bd⟩,⟨h2.sl.kept xu hKF (fun i a b=>by have:=HLz.out i (g2 i b);have:=q8 hhW.out;omega),h2.bd⟩,h3,g1,g2⟩
   have hDF:∀D∈Ds,W6.heap.size≤D∧WF.heap[D]?=some (.deferred (some []))∧D<wk.heap.size:=fun D h=>by
    obtain ⟨d1,d2,_⟩:=HD.out D h
    have d3:=q8 d2
    exact ⟨d1,(hKF.block _ (by omega) (by omega)).trans ((HBz.out.block _ d3).trans d2),d3⟩
   have hzF:=hKF.size
   clear hWF
   show LeavesInM _ _ _ _ _ _ (Vh Ds) .returning WF
   refine vk W6.heap.size Ds WF HN.out (fun D h=>⟨(hDF D h).1,(hDF D h).2.1⟩) (fun w' h1 h2 h3 h4 h5=>?_)
   have hnD:∀b,b<W6.heap.size→b∉Ds:=fun b hb h=>by have:=(hDF b h).1;omega
   have r1:=(h5 (w.heap.size+1) (hnD _ (by omega))).trans hFA
   have r2:=(h5 (w.heap.size+1+1) (hnD _ (by omega))).trans hFE
   have q0:w'.cell? ⟨w.heap.size+1,0,none⟩=some (.slice p5 u.globals.length c5):=(blk r1).1 0
   have q1:w'.cell? ⟨w.heap.size+1,1,none⟩=some (.slice p6 u.funcs.length c6):=(blk r1).1 1
   have q2:w'.cell? ⟨w.heap.size+1+1,0,none⟩=some (.int .i64 0):=(blk r2).1 0
   have q3:w'.cell? ⟨w.heap.size+1+1,1,none⟩=some (.int .i64 0):=(blk r2).1 1
   refine ⟨.tuple #[.agg #[.slice p5 u.globals.length c5,.slice p6 u.funcs.length c6],.agg #[.int .i64 0,.int .i64 0]],?_,⟨p5,c5,p6,c6,rfl,Sz,?_,fun i hi=>?_⟩,?_⟩
   ·simp [results,Tryz.results7,go_sem,q0,q1,q2,q3]
   ·rw [←HT.out]
    exact locUni _ _ _ _ _ hSF (fun i hi=>h5 i (fun h=>by have:=(hDF i h).2.2;have:=HLz.out i hi;omega)) h4
   ·have:=HLz.out i hi
    have:=hhV.out.size
    omega
   exact ⟨h1.trans hBF.os,h2.trans hBF.tape,h3.trans hBF.output,yv hBF.size h4,fun b hb=>(h5 b (hnD b (by have:=HB6.out.size;omega))).trans (hBF.block b hb)⟩
  have hkx:k<xs.length:=by rw [HXl.out];exact hlt
  have hkm:k<(zM k xU xs).length:=by rw [xM];exact hkx
  obtain ⟨g,cg,csf,Tf,hvf,hgz,hgS,htJ,hFf,hgT,hTS,heZ,hvD,⟨curf,htK⟩,hhr⟩:=HL.out.focus xu (by omega) hkm
  rw [jm hkm (zK _)] at hFf
  obtain ⟨f,hf⟩:∃f,f=xs[k]:=⟨_,rfl⟩
  rw [←hf] at hFf
  have hpu:k<T.funcs.length:=by rw [HTl.out];exact hlt
  have hfT:f=T.funcs[k]:=by rw [hf];simp only [HXs.out]
  have hC:FunC T.funcs.length (Xs T) f:=by rw [hfT];exact HTk.out.funC hpu
  have hR':FunR' f:=by rw [hfT];exact HTk.out.funR hpu
  have hlists:=hFf.lists hC.n1
  obtain ⟨vb,hpA,hnm,hi1,hi2,hBf⟩:=hFf
  obtain ⟨bb,cb,hcs2,htL,_,hpB⟩:=hlists
  have hvb:vb = .slice (some ⟨bb,0,none⟩) f.blocks.length cb:=by
   rw [hpA] at hcs2
   simpa using hcs2
  subst hvb
  subst hpA
  have htM:=HL.out.inb bb (hTS bb htL)
  have hp4:p4=some ⟨g,0,none⟩:=by injection hvf
  subst hp4
  have e0:=heZ 0 (by omega)
  have e1:=heZ 1 (by omega)
  have e2:=heZ 2 (by omega)
  have e3:=heZ 3 (by omega)
  simp only [zB,zD,yJ] at e0 e1 e2 e3
  have hsr:SliceAt wk 6 (BlkR wk) (some ⟨bb,0,none⟩) f.blocks:=by
   obtain ⟨p',c',e,_,_,h⟩:=hBf.sl.read (R':=BlkR wk) qK (by omega) fun _ _ _ h=>h.read
   cases e
   exact h
  have hAk:AllW wk:=(HA.out.below HB6.out).kept HK.out (fun h=>by have h1:=qd HA.out.1;have h2:=(hdJ.out _ h).1;have:=HB3.out.size;omega)
  have k0:(0:Int)≤(k:Int):=by omega
  have k1:(k:Int)<u.funcs.length:=by omega
  have HFe:=q7 hf
  have HC:=q7 hC
  have htN:=q7 (spnF_calm (YD hR' hsr)).1
  have HR':=q7 hR'
  have HFp:=q7 hhr
  have htO:=q7 heZ
  have HTf:=q7 (zh hgT hTS)
  have HBf:=q7 hBf
  have HNm:=q7 (zh hnm (zh hi1 hi2))
  have HSr:=q7 hsr
  have HAk:=q7 hAk
  have HLs:=q7 hpB
  clear hf hfT hC hR' hhr heZ hgT hTS hBf hnm hi1 hi2 hsr hAk hvf htJ hpB hcs2
  go_wp2_with fail
  refine (spans_any f (some ⟨bb,0,none⟩) cb wk HR'.out HSr.out HAk.out).mono ?_
  rintro e w7 ⟨O,rfl,hO1,hrow,hb7⟩
  have hz7:=hb7.size
  have hda:=q7 hrow
  have HB7:=q7 hb7
  clear hrow hb7 e0 e1 e2 e3
  go_wp2_with fail
  obtain ⟨w8,hw8⟩:∃w8,w8=w7.alloc (.cells #[.slice (some ⟨O,0,none⟩) f.regs.toNat f.regs.toNat] 49):=⟨_,rfl⟩
  rw [←hw8]
  have hb8:Below w7.heap.size w7 w8:=by rw [hw8];exact bZ
  have HZ8:Hid (w8.heap.size=w7.heap.size+1):=q7 (by rw [hw8];simp)
  have hl8:w8.heap[w7.heap.size]?=some (.cells #[.slice (some ⟨O,0,none⟩) f.regs.toNat f.regs.toNat] 49 (0,0)):=by rw [hw8];exact qh rfl
  clear hw8
  refine (each_any (some ⟨g,k*4,none⟩) w8).mono ?_
  rintro e W0 ⟨rfl,hW0⟩
  have hb0:Below w8.heap.size w8 W0:=by rw [hW0];exact bZ
  have HZ0:Hid (W0.heap.size=w8.heap.size+1):=q7 (by rw [hW0];simp)
  have hx0:W0.cell? ⟨w8.heap.size,0,none⟩=some (.pointer (some ⟨g,k*4,none⟩)):=by rw [hW0];exact (blk (qn w8 _)).1 0
  have HL8:=q7 ((hb0.block _ (q8 hl8)).trans hl8)
  have heF:=q7 ((HB7.out.trans (hb8.mono hz7)).trans (hb0.mono (by have:=HZ8.out;omega)))
  have hdD:=q7 ((hda.out.of_block (hb8.block _ hda.out.lt)).of_block (hb0.block _ (by have:=hda.out.lt;have:=HZ8.out;omega)))
  have HX0:=q7 hx0
  clear hW0 hb0 hb8 hl8 hx0 hda HB7 ob1
  go_wp2_with fail
  refine (wpIn_wide (n:=3)).1 ?_
  have hlE:∀b,Sk b→b<W0.heap.size:=fun b hb=>by have:=HL.out.inb b hb;have:=heF.out.size;omega
  have hvE:=heF.out.size
  have hpC:SlO 36 4 FunO W0 (.slice (some ⟨g,0,none⟩) u.funcs.length c4) ((zM k xU xs).set k (upI (fun _=>xp (qN f)) f 0)) Sk:=by
   rw [upI_zero]
   have e1:(zM k xU xs).set k f=zM k xU xs:=by
    have e2:=jm (u:=xU) hkm (zK _)
    rw [HFe.out,←e2,List.set_getElem_self]
   rw [e1]
   exact HL.out.below xu heF.out
  have hpD:EachSh w8.heap.size g (k*4) (some ⟨bb,0,none⟩) f.blocks.length cb (lqW wk bb) (qE f) (lcW wk bb) W0:=by
   refine ⟨HX0.out,?_,fun mm hmm=>⟨bb,0,rfl,?_⟩⟩
   ·rw [heF.out.cell (p:=⟨g,k*4+3,none⟩) hgz,htO.out 3 (by omega)]
    rfl
   rw [yx,heF.out.cell (p:=⟨bb,mm*6+1,none⟩) htM]
   exact (HLs.out mm hmm).1
  have hbl:f.blocks.length*96≤140737488351232:=HBf.out.bd
  have htP:=q7 hpC
  have HSH:=q7 hpD
  clear hpC hpD
  refine Zi rfl (by omega) (gf:=40) (lb:=#[.pointer (some ⟨w8.heap.size,0,none⟩)]) rfl trivial (enters_of Tryz.func40 (by kernel_rfl) rfl)
   (each_at Fence.wide 2 trivial rfl (by omega) w8.heap.size g (k*4) cb f.blocks.length (some ⟨bb,0,none⟩) (lqW wk bb) (lpW wk bb) (qE f) (lcW wk bb) W0 hbl (fun mm hmm=>(HLs.out mm hmm).2.1) (fun mm hmm h0=>(HLs.out mm hmm).2.2 h0) HSH.out) (fun h k x=>k (h x)) (fun W l o o' _ hl ho _ h=>h.putObj o' hl ho) (zI _ _) (fun i _=>rfl)
   (fun i W=>SlO 36 4 FunO W (.slice (some ⟨g,0,none⟩) u.funcs.length c4) ((zM k xU xs).set k (upI (fun _=>xp (qN f)) f i)) Sk∧EachSh w8.heap.size g (k*4) (some ⟨bb,0,none⟩) f.blocks.length cb (lqW wk bb) (qE f) (lcW wk bb) W∧Kept Sk W0 W) (fun _ _ _=>False)
   ((own_slo xu hlE _).and (own_sh.and (own_kept (zK _)))) (fun _ _ _ _ _ hs _ _=>hs) ⟨htP.out,HSH.out,Kept.refl _ _⟩
   (fun i=>{ tmps:=((us 0)::(us 1)::(.pointer (some ⟨w.heap.size+1,0,none⟩))::(.pointer (some ⟨w.heap.size+1+1,0,none⟩))::(us 4)::(.pointer (some ⟨w3.heap.size,0,none⟩))::(us 6)::(.int .i64 k)::(.pointer (some ⟨g,k*4,none⟩))::(.pointer (some ⟨w7.heap.size,0,none⟩))::(XI (lpW wk bb) (qE f) f.blocks.length i)::(us 11)::(us 12)::(us 13)::(us 14)::(us 15)::(us 16)::(us 17)::(us 18)::(us 19)::(us 20)::(us 21)::(us 22)::(us 23)::(us 24)::(us 25)::(us 26)::(us 27)::(us 28)::(us 29)::(us 30)::(us 31)::(us 32)::(us 33)::(us 34)::(us 35)::(.int .i64 u.funcs.length)::(.int .i64 k)::(.bool true)::(.int .i64 k)::(.pointer (some ⟨w3.heap.size,1,none⟩))::(.slice (some ⟨g,0,none⟩) u.funcs.length c4)::(.int .i64 k)::(.pointer (some ⟨g,k*4,none⟩))::(.pointer (some ⟨g,k*4,none⟩))::(.pointer (some ⟨g,k*4,none⟩))::(.agg #[.string f.name,.int .i64 f.params,.int .i64 f.regs,.slice (some ⟨bb,0,none⟩) f.blocks.length cb])::(.slice (some ⟨O,0,none⟩) f.regs.toNat f.regs.toNat)::(.pointer (some ⟨g,k*4,none⟩))::(.func (.func 40) #[] #[.pointer (some ⟨w8.heap.size,0,none⟩)])::(XI (lpW wk bb) (qE f) f.blocks.length i)::(us 51)::(us 52)::(us 53)::(us 54)::(us 55)::(us 56)::(us 57)::(us 58)::(us 59)::(us 60)::(us 61)::(us 62)::(us 63)::(us 64)::(us 65)::(us 66)::(us 67)::(us 68)::(us 69)::(us 70)::(us 71)::(us 72)::(us 73)::(us 74)::(us 75)::(us 76)::(us 77)::(us 78)::(us 79)::(us 80)::(us 81)::(us 82)::(us 83)::(us 84)::(us 85)::(us 86)::(us 87)::(us 88)::(us 89)::(us 90)::(us 91)::(us 92)::(us 93)::(us 94)::(us 95)::(us 96)::(us 97)::(us 98)::(us 99)::(us 100)::(us 101)::(us 102)::(us 103)::(us 104)::(us 105)::(us 106)::(us 107)::(us 108)::(us 109)::(us 110)::(us 111)::(us 112)::(us 113)::(us 114)::(us 115)::(us 116)::(us 117)::(us 118)::(us 119)::(us 120)::(us 121)::(us 122)::(us 123)::(us 124)::(us 125)::(us 126)::(us 127)::(us 128)::(us 129)::(us 130)::(us 131)::(us 132)::(us 133)::(us 134)::(us 135)::(us 136)::(us 137)::(us 138)::(us 139)::(us 140)::(us 141)::(us 142)::(us 143)::(us 144)::(us 145)::(us 146)::(us 147)::(us 148)::(us 149)::(us 150)::(us 151)::(us 152)::(us 153)::(us 154)::(us 155)::(us 156)::(us 157)::(us 158)::(us 159)::(us 160)::(us 161)::(us 162)::(us 163)::(us 164)::(us 165)::(us 166)::(us 167)::(us 168)::(us 169)::(us 170)::(us 171)::(us 172)::(us 173)::(us 174)::(us 175)::(us 176)::(us 177)::(us 178)::(us 179)::(us 180)::(us 181)::[]).toArray,defers:=[] }) ?assign ?body ?done ?stop
  case assign=>
   intro l i W K hi hK
   unfold Y5
   gi_wp2
   exact hK
  case body=>
   rintro l i W hl hi ⟨hSl,hSh,hKp⟩
   obtain ⟨m',j,hm',hj,rfl⟩:=m5 hi
   have hj2:j<f.blocks[m'].list.length:=by rw [←vG hm'];exact hj
   obtain ⟨lb,qa,ca,hlq,hlF,hdK,hhM,hci,hlg,he6,hsame,hput⟩:=Yz hSl hkm hm' hj2 (⟨hSh.fn,fun m hm=>by
    obtain ⟨b6,o6,hq6,hc6⟩:=hSh.blk m hm
    cases hq6
    rw [yx] at hc6
    exact hc6⟩:FunSh g k bb f.blocks.length cb (lqW wk bb) (qE f) (lcW wk bb) W)
   have hpt:XI (lpW wk bb) (qE f) f.blocks.length ((jy (qE f) m').length+j) = .pointer (some ⟨lb,j*8,none⟩):=by
    have h2:=(HLs.out m' hm').2.2 (by omega)
    rw [hlq] at h2
    injection h2 with h2
    injection h2 with h3 h4
    rw [Vc hm' hj,←h3,←h4,yx]
   rw [hpt]
   obtain ⟨x,hx⟩:∃x,x=f.blocks[m'].list[j]:=⟨_,rfl⟩
   rw [←hx] at hci hsame hput
   have hxC:InsC f.regs T.funcs.length (Xs T) x:=by rw [hx];exact insC_iff.1 (HC.out.ins m' hm' _ (zP hj2))
   have x0:W.cell? ⟨lb,j*8,none⟩=some (.int .i64 x.op):=hci 0 (by omega)
   have x1:W.cell? ⟨lb,j*8+1,none⟩=some (.int .i64 x.dst):=hci 1 (by omega)
   have x3:W.cell? ⟨lb,j*8+4,none⟩=some (.bool x.br):=hci 4 (by omega)
   have x4:W.cell? ⟨lb,j*8+4+1,none⟩=some (.int .i64 x.bn):=hci 5 (by omega)
   have htQ:∀dd,I64 (qN f dd).lo:=fun dd=>(htN.out dd).lo
   have hdst:x.dst<f.regs∧f.regs≤100∧-1≤x.dst:=by
    have h1:=HR'.out.ins m' hm' x (by rw [hx];exact zP hj2)
    have h2:=HR'.out.reg
    have h3:=(insL_dst (insC_iff.2 hxC))
    exact ⟨h1.2.2.1,h2,h3⟩
   have l9w:W.heap[w7.heap.size]?=some (.cells #[.slice (some ⟨O,0,none⟩) f.regs.toNat f.regs.toNat] 49 (0,0)):=(hKp.block _ (q8 HL8.out) (fun h=>by have:=HL.out.inb _ h;omega)).trans HL8.out
   have l9:W.cell? ⟨w7.heap.size,0,none⟩=some (.slice (some ⟨O,0,none⟩) f.regs.toNat f.regs.toNat):=(blk l9w).1 0
   have l9z:=q8 l9w
   have hcU:=hdD.out.of_block (hKp.block O hdD.out.lt (fun h=>by have:=HL.out.inb _ h;omega))
   have hdQ:xp (qN f) x=x→∀Wq,Below W.heap.size W Wq→Qz W0.heap.size (fun W W'=>EachSh w8.heap.size g (k*4) (some ⟨bb,0,none⟩) f.blocks.length cb (lqW wk bb) (qE f) (lcW wk bb) W→EachSh w8.heap.size g (k*4) (some ⟨bb,0,none⟩) f.blocks.length cb (lqW wk bb) (qE f) (lcW wk bb) W') (fun i W=>SlO 36 4 FunO W (.slice (some ⟨g,0,none⟩) u.funcs.length c4) ((zM k xU xs).set k (upI (fun _=>xp (qN f)) f i)) Sk∧EachSh w8.heap.size g (k*4) (some ⟨bb,0,none⟩) f.blocks.length cb (lqW wk bb) (qE f) (lcW wk bb) W∧Kept Sk W0 W) (fun _ _ _=>False) ((jy (qE f) m').length+j) W Exit.normal Wq:=fun h1 Wq hb=>by
    refine ⟨⟨hb.size,fun q o _ hq _=>(hb.block q (q8 hq)).trans hq⟩,fun h=>h.below hb,(hsame h1).below xu hb,hSh.below hb,hKp.trans (Kept.of_below hb) (fun _ _ h=>h)⟩
   have hpE:∀dd:Nat,x.dst=(dd:Int)→xp (qN f) x=⟨1,x.dst,false,(qN f dd).lo,false,0,0,[]⟩→∀Wq,Below W.heap.size W Wq→Qz W0.heap.size (fun W W'=>EachSh w8.heap.size g (k*4) (some ⟨bb,0,none⟩) f.blocks.length cb (lqW wk bb) (qE f) (lcW wk bb) W→EachSh w8.heap.size g (k*4) (some ⟨bb,0,none⟩) f.blocks.length cb (lqW wk bb) (qE f) (lcW wk bb) W') (fun i W=>SlO 36 4 FunO W (.slice (some ⟨g,0,none⟩) u.funcs.length c4) ((zM k xU xs).set k (upI (fun _=>xp (qN f)) f i)) Sk∧EachSh w8.heap.size g (k*4) (some ⟨bb,0,none⟩) f.blocks.length cb (lqW wk bb) (qE f) (lcW wk bb) W∧Kept Sk W0 W) (fun _ _ _=>False) ((jy (qE f) m').length+j) W Exit.normal (eight Wq.drew lb (j*8) (.int .i64 1) (.int .i64 dd) (.bool false) (.int .i64 (qN f dd).lo) (.bool false) (.int .i64 0) (.int .i64 0) (.slice none 0 0)):=fun dd hdd h1 Wq hb=>by
    have hbd:Below W.heap.size W Wq.drew:=hb.drew
    have htR:=hSl.below xu hbd
    have hpF:=hSh.below hbd
    obtain ⟨lb2,qa2,ca2,hpG,htS,htT,_,_,hvG,htU,_,hdT⟩:=Yz htR hkm hm' hj2 (⟨hpF.fn,fun m hm=>by
     obtain ⟨b6,o6,hq6,hc6⟩:=hpF.blk m hm
     cases hq6
     rw [yx] at hc6
     exact hc6⟩:FunSh g k bb f.blocks.length cb (lqW wk bb) (qE f) (lcW wk bb) Wq.drew)
    obtain rfl:lb=lb2:=by
     rw [hlq] at hpG
     injection hpG with a
     injection a
    have hd:=htQ dd
    have h2:=hdT ⟨1,x.dst,false,(qN f dd).lo,false,0,0,[]⟩ rfl ⟨by show I64 1;unfold I64;omega,by show I64 x.dst;unfold I64;have:=hxC.d0;have:=hdst;omega,hd,by show I64 0;unfold I64;omega,by show I64 0;unfold I64;omega⟩ (by rw [←hx];exact h1)
    rw [show ((⟨1,x.dst,false,(qN f dd).lo,false,0,0,[]⟩:InsL).dst)=(dd:Int) from hdd] at h2
    obtain ⟨W',hW'⟩:∃W',W'=eight Wq.drew lb (j*8) (.int .i64 1) (.int .i64 dd) (.bool false) (.int .i64 (qN f dd).lo) (.bool false) (.int .i64 0) (.int .i64 0) (.slice none 0 0):=⟨_,rfl⟩
    have h2':SlO 36 4 FunO W' (.slice (some ⟨g,0,none⟩) u.funcs.length c4) ((zM k xU xs).set k (upI (fun _=>xp (qN f)) f ((jy (qE f) m').length+j+1))) Sk:=by rw [hW'];exact h2
    have hK8:Kept (fun i=>i=lb) Wq.drew W':=by rw [hW'];exact kX ..
    rw [←hW']
    have hvH:=hlE lb hlF
    have hzq:=hbd.size
    have hKB:Kept (fun i=>i=lb) W W':=(Kept.of_below hbd).trans hK8 (fun _ _ h=>h)
    have hpH:EachSh w8.heap.size g (k*4) (some ⟨bb,0,none⟩) f.blocks.length cb (lqW wk bb) (qE f) (lcW wk bb) W':=hSh.other fun b o v hc hw=>by
     have hbz:=qd hc
     refine (zN (a:=⟨b,o,none⟩) (hKB.block b hbz ?_)).trans hc
     rcases hw with e|e|⟨o',e⟩
     ·intro e2
      have e2:b=lb:=e2
      have:=HL.out.inb lb hlF
      have:=HZ8.out
      omega
     ·exact fun e2=>hlg (by rw [←e,←e2])
     have e3:bb=b:=by injection e with e;injection e
     exact fun e2=>he6 (by rw [←e2,e3])
    exact ⟨⟨hKB.size,fun q o hq0 hq _=>(hKB.block q (q8 hq) (fun e=>by have e:q=lb:=e;omega)).trans hq⟩,fun _=>hpH,h2',hpH,hKp.trans hKB (fun i _ e=>by have e:i=lb:=e;rw [e];exact hlF)⟩
   have HSame:=q7 hdQ
   have HCi:=q7 hci
   have hlG:=q7 hhM
   have HHx:=q7 hx
   have HHp:=q7 hput
   have HHl:=q7 hlq
   have HKp:=q7 hKp
   have HSh:=q7 hSh
   have HSl:=q7 hSl
   have HL9:=q7 l9w
   clear hsame hdQ hput hx hci hlq hKp hSh hSl l9w hhM hpt
   by_cases h17:x.op≤17
   rotate_left
   ·have q5:(x.op == 5)=false:=by simp;omega
    have q6:(x.op == 6)=false:=by simp;omega
    have q17:decide (x.op≤17)=false:=by simpa using h17
    have y0:∀d os,(Go.Sort.grow (redrawn W d) os).cell? ⟨lb,j*8,none⟩=some (.int .i64 x.op):=cell_regrown x0
    have dd:Nat:=0
    have hid:xp (qN f) x=x:=by unfold xp;rw [zQ (fun h=>h17 h.1)]
    gi_wp2
    refine qI (by kernel_rfl) (by kernel_rfl) (fun ⟨_,_,h⟩=>h.2) (by kernel_rfl) ?_
    repeat (go_big_quiet_step (exact Calls.regrown_of ((qB (qN f dd) _).mono fun e w' h=>⟨h.1,by rw [h.2];exact (zI _ _).alloc (zK _) _⟩)))
    refine wpQuiet_nil ?_
    intro Wq hWq
    have hbq:Below W.heap.size W Wq:=by
     obtain ⟨p,rfl⟩:=hWq
     exact below_regrown _ _ _
    clear hWq
    gi_wp2
    exact HSame.out hid Wq hbq
   have hd:=hxC.d1 (by unfold shD;rw [yY];have:=hxC.op;omega) (by omega)
   obtain ⟨dd,hdd⟩:∃dd:Nat,x.dst=(dd:Int):=⟨x.dst.toNat,by omega⟩
   have hdE:x.dst.toNat=dd:=by omega
   rw [hdd] at x1
   have hvI:dd<f.regs.toNat:=by omega
   have o0:W.cell? ⟨O,dd*3,none⟩=some (.int .i64 (qN f dd).lo):=(hcU.cell (by omega)).trans (by rw [spF_0])
   have o1:W.cell? ⟨O,dd*3+1,none⟩=some (.int .i64 (qN f dd).hi):=(hcU.cell (by omega)).trans (by rw [spF_1])
   have o2:W.cell? ⟨O,dd*3+2,none⟩=some (.bool (qN f dd).has):=(hcU.cell (by omega)).trans (by rw [spF_2])
   have oOz:=hcU.lt
   have hlH:=q7 (hpE dd hdd)
   have di0:(0:Int)≤(dd:Int):=by omega
   have di1:(dd:Int)<(f.regs.toNat:Int):=by omega
   have di2:¬ max f.regs 0≤(dd:Int):=by simp only [Int.max_def];split<;>omega
   have q17:decide (x.op≤17)=true:=by simpa using h17
   have y0:∀d os,(Go.Sort.grow (redrawn W d) os).cell? ⟨lb,j*8,none⟩=some (.int .i64 x.op):=cell_regrown x0
   have y1:∀d os,(Go.Sort.grow (redrawn W d) os).cell? ⟨lb,j*8+1,none⟩=some (.int .i64 dd):=cell_regrown x1
   have y9:∀d os,(Go.Sort.grow (redrawn W d) os).cell? ⟨w7.heap.size,0,none⟩=some (.slice (some ⟨O,0,none⟩) f.regs.toNat f.regs.toNat):=cell_regrown l9
   have yo0:∀d os,(Go.Sort.grow (redrawn W d) os).cell? ⟨O,dd*3,none⟩=some (.int .i64 (qN f dd).lo):=cell_regrown o0
   have yo1:∀d os,(Go.Sort.grow (redrawn W d) os).cell? ⟨O,dd*3+1,none⟩=some (.int .i64 (qN f dd).hi):=cell_regrown o1
   have yo2:∀d os,(Go.Sort.grow (redrawn W d) os).cell? ⟨O,dd*3+2,none⟩=some (.bool (qN f dd).has):=cell_regrown o2
   have HDd:=q7 hdd
   clear hpE hdd hd hcU hxC
   by_cases h5:x.op=5
   ·have hhs:x.op=5∨x.op=6:=.inl h5
    have q5:(x.op == 5)=true:=by simp [h5]
    have HH5:=q7 h5
    clear h5
    cases hbr:x.br with
    | true=>
     rw [hbr] at x3
     have hid:xp (qN f) x=x:=by unfold xp;rw [zQ (fun h=>h.2.1 ⟨hhs,.inl hbr⟩)]
     gi_wp2
     refine qI (by kernel_rfl) (by kernel_rfl) (fun ⟨_,_,h⟩=>h.2) (by kernel_rfl) ?_
     repeat (go_big_quiet_step (exact Calls.regrown_of ((qB (qN f dd) _).mono fun e w' h=>⟨h.1,by rw [h.2];exact (zI _ _).alloc (zK _) _⟩)))
     refine wpQuiet_nil ?_
     intro Wq hWq
     have hbq:Below W.heap.size W Wq:=by
      obtain ⟨p,rfl⟩:=hWq
      exact below_regrown _ _ _
     clear hWq
     gi_wp2
     exact HSame.out hid Wq hbq
    | false=>
     rw [hbr] at x3
     cases hbn:(x.bn == 0) with
     | true=>
      have hid:xp (qN f) x=x:=by unfold xp;rw [zQ (fun h=>h.2.1 ⟨hhs,.inr (by simpa using hbn)⟩)]
      gi_wp2
      refine qI (by kernel_rfl) (by kernel_rfl) (fun ⟨_,_,h⟩=>h.2) (by kernel_rfl) ?_
      repeat (go_big_quiet_step (exact Calls.regrown_of ((qB (qN f dd) _).mono fun e w' h=>⟨h.1,by rw [h.2];exact (zI _ _).alloc (zK _) _⟩)))
      refine wpQuiet_nil ?_
      intro Wq hWq
      have hbq:Below W.heap.size W Wq:=by
       obtain ⟨p,rfl⟩:=hWq
       exact below_regrown _ _ _
      clear hWq
      gi_wp2
      exact HSame.out hid Wq hbq
     | false=>
      have hnE:¬((x.op=5∨x.op=6)∧(x.br=true∨x.bn=0)):=fun h=>h.2.elim (fun h=>by rw [hbr] at h;cases h) (fun h=>by rw [h] at hbn;cases hbn)
      cases ho:Ys (qN f dd) with
      | false=>
       have hid:xp (qN f) x=x:=by unfold xp;rw [zQ (fun h=>by rw [hdE,ho] at h;exact absurd h.2.2 (by decide))]
       gi_wp2
       refine qI (by kernel_rfl) (by kernel_rfl) (fun ⟨_,_,h⟩=>h.2) (by kernel_rfl) ?_
       repeat (go_big_quiet_step (exact Calls.regrown_of ((qB (qN f dd) _).mono fun e w' h=>⟨h.1,by rw [h.2];exact (zI _ _).alloc (zK _) _⟩)))
       refine wpQuiet_nil ?_
       intro Wq hWq
       have hbq:Below W.heap.size W Wq:=by
        obtain ⟨p,rfl⟩:=hWq
        exact below_regrown _ _ _
       clear hWq
       gi_wp2
       exact HSame.out hid Wq hbq
      | true=>
       have hsu:xp (qN f) x=⟨1,x.dst,false,(qN f dd).lo,false,0,0,[]⟩:=by
        unfold xp
        rw [zZ ⟨by omega,hnE,by rw [hdE];exact ho⟩,hdE]
       gi_wp2
       refine qI (by kernel_rfl) (by kernel_rfl) (fun ⟨_,_,h⟩=>h.2) (by kernel_rfl) ?_
       repeat (go_big_quiet_step (exact Calls.regrown_of ((qB (qN f dd) _).mono fun e w' h=>⟨h.1,by rw [h.2];exact (zI _ _).alloc (zK _) _⟩)))
       refine wpQuiet_nil ?_
       intro Wq hWq
       have hbq:Below W.heap.size W Wq:=by
        obtain ⟨p,rfl⟩:=hWq
        exact below_regrown _ _ _
       clear hWq
       have q1:Wq.cell? ⟨lb,j*8+1,none⟩=some (.int .i64 dd):=(hbq.cell (p:=⟨lb,j*8+1,none⟩) hdK).trans x1
       have q9:Wq.cell? ⟨w7.heap.size,0,none⟩=some (.slice (some ⟨O,0,none⟩) f.regs.toNat f.regs.toNat):=(hbq.cell (p:=⟨w7.heap.size,0,none⟩) l9z).trans l9
       have qO:Wq.cell? ⟨O,dd*3,none⟩=some (.int .i64 (qN f dd).lo):=(hbq.cell (p:=⟨O,dd*3,none⟩) oOz).trans o0
       gi_wp2
       refine jx (S:=(fun W':World=>W'.cell? ⟨lb,j*8+1,none⟩=some (.int .i64 (dd:Int))∧W'.cell? ⟨w7.heap.size,0,none⟩=some (.slice (some ⟨O,0,none⟩) f.regs.toNat f.regs.toNat)∧W'.cell? ⟨O,dd*3,none⟩=some (.int .i64 (qN f dd).lo))) (by kernel_rfl) (fun ⟨_,_,h⟩=>h.2) (by kernel_rfl) 16 ?_
       have hSp:(fun W':World=>W'.cell? ⟨lb,j*8+1,none⟩=some (.int .i64 (dd:Int))∧W'.cell? ⟨w7.heap.size,0,none⟩=some (.slice (some ⟨O,0,none⟩) f.regs.toNat f.regs.toNat)∧W'.cell? ⟨O,dd*3,none⟩=some (.int .i64 (qN f dd).lo)) Wq.drew:=⟨q1,q9,qO⟩
       refine tkZ 0 97 (.pointer (some ⟨lb,j*8,none⟩)) rfl rfl hSp (fun W' hS'=>(by obtain ⟨h1,h2,h3⟩:=hS';go_simp)) ?_
       refine tkZ 1 98 (.pointer (some ⟨lb,j*8,none⟩)) rfl rfl hSp (fun W' hS'=>(by obtain ⟨h1,h2,h3⟩:=hS';go_simp)) ?_
       refine tkZ 2 99 (.pointer (some ⟨lb,j*8,none⟩)) rfl rfl hSp (fun W' hS'=>(by obtain ⟨h1,h2,h3⟩:=hS';go_simp)) ?_
       refine tkZ 3 100 (.pointer (some ⟨lb,j*8+1,none⟩)) rfl rfl hSp (fun W' hS'=>(by obtain ⟨h1,h2,h3⟩:=hS';go_simp)) ?_
       refine tkZ 4 101 (.int .i64 dd) rfl rfl hSp (fun W' hS'=>(by obtain ⟨h1,h2,h3⟩:=hS';go_simp)) ?_
       refine tkZ 5 102 (.slice (some ⟨O,0,none⟩) f.regs.toNat f.regs.toNat) rfl rfl hSp (fun W' hS'=>(by obtain ⟨h1,h2,h3⟩:=hS';go_simp)) ?_
       refine tkZ 6 103 (.pointer (some ⟨lb,j*8,none⟩)) rfl rfl hSp (fun W' hS'=>(by obtain ⟨h1,h2,h3⟩:=hS';go_simp)) ?_
       refine tkZ 7 104 (.pointer (some ⟨lb,j*8,none⟩)) rfl rfl hSp (fun W' hS'=>(by obtain ⟨h1,h2,h3⟩:=hS';go_simp)) ?_
       refine tkZ 8 105 (.pointer (some ⟨lb,j*8+1,none⟩)) rfl rfl hSp (fun W' hS'=>(by obtain ⟨h1,h2,h3⟩:=hS';go_simp)) ?_
       refine tkZ 9 106 (.int .i64 dd) rfl rfl hSp (fun W' hS'=>(by obtain ⟨h1,h2,h3⟩:=hS';go_simp)) ?_
       refine tkZ 10 107 (.pointer (some ⟨O,dd*3,none⟩)) rfl rfl hSp (fun W' hS'=>(by obtain ⟨h1,h2,h3⟩:=hS';go_simp)) ?_
       refine tkZ 11 108 (.pointer (some ⟨O,dd*3,none⟩)) rfl rfl hSp (fun W' hS'=>(by obtain ⟨h1,h2,h3⟩:=hS';go_simp)) ?_
       refine tkZ 12 109 (.int .i64 (qN f dd).lo) rfl rfl hSp (fun W' hS'=>(by obtain ⟨h1,h2,h3⟩:=hS';go_simp)) ?_
       refine tkZ 13 110 (.agg #[.bool false,.int .i64 (qN f dd).lo]) rfl rfl hSp (fun W' hS'=>(by obtain ⟨h1,h2,h3⟩:=hS';go_simp)) ?_
       refine tkZ 14 111 (.agg #[.int .i64 1,.int .i64 dd,.bool false,.int .i64 (qN f dd).lo,.bool false,.int .i64 0,.int .i64 0,.slice none 0 0]) rfl rfl hSp (fun W' hS'=>(by obtain ⟨h1,h2,h3⟩:=hS';go_simp)) ?_
       refine tkZ 15 112 (.pointer (some ⟨lb,j*8,none⟩)) rfl rfl hSp (fun W' hS'=>(by obtain ⟨h1,h2,h3⟩:=hS';go_simp)) ?_
       have hay:Wq.heap[lb]?=W.heap[lb]?:=hbq.block _ hdK
       have r0:Wq.cell? ⟨lb,j*8,none⟩=some (.int .i64 x.op):=(zN (a:=⟨lb,j*8,none⟩) hay).trans (HCi.out 0 (by omega))
       have r2:Wq.cell? ⟨lb,j*8+2,none⟩=some (.bool x.ar):=(zN (a:=⟨lb,j*8+2,none⟩) hay).trans (HCi.out 2 (by omega))
       have r3:Wq.cell? ⟨lb,j*8+3,none⟩=some (.int .i64 x.an):=(zN (a:=⟨lb,j*8+3,none⟩) hay).trans (HCi.out 3 (by omega))
       have r4:Wq.cell? ⟨lb,j*8+4,none⟩=some (.bool x.br):=(zN (a:=⟨lb,j*8+4,none⟩) hay).trans (HCi.out 4 (by omega))
       have r5:Wq.cell? ⟨lb,j*8+5,none⟩=some (.int .i64 x.bn):=(zN (a:=⟨lb,j*8+5,none⟩) hay).trans (HCi.out 5 (by omega))
       have r6:Wq.cell? ⟨lb,j*8+6,none⟩=some (.int .i64 x.fn):=(zN (a:=⟨lb,j*8+6,none⟩) hay).trans (HCi.out 6 (by omega))
       have r7:Wq.cell? ⟨lb,j*8+7,none⟩=some (.slice qa x.args.length ca):=(zN (a:=⟨lb,j*8+7,none⟩) hay).trans (HCi.out 7 (by omega))
       have rf:∀o,Wq.frozen? ⟨lb,o,none⟩=false:=fun o=>(yB (a:=⟨lb,o,none⟩) hay).trans (hlG.out o)
       have rz:lb<Wq.heap.size:=by have:=hbq.size;omega
       refine qk (i:=16) (by kernel_rfl) (qA (eight Wq.drew lb (j*8) (.int .i64 1) (.int .i64 dd) (.bool false) (.int .i64 (qN f dd).lo) (.bool false) (.int .i64 0) (.int .i64 0) (.slice none 0 0)) rfl rfl rfl (by unfold eight;go_simp) (fun h=>absurd rfl h) (qx (by kernel_rfl) ?_ _))
       exact hlH.out hsu Wq hbq
   have q5:(x.op == 5)=false:=by simp [h5]
   by_cases h6:x.op=6
   rotate_left
   ·have q6:(x.op == 6)=false:=by simp [h6]
    have hnE:¬((x.op=5∨x.op=6)∧(x.br=true∨x.bn=0)):=fun h=>h.1.elim h5 h6
    cases ho:Ys (qN f dd) with
    | false=>
     have hid:xp (qN f) x=x:=by unfold xp;rw [zQ (fun h=>by rw [hdE,ho] at h;exact absurd h.2.2 (by decide))]
     gi_wp2
     refine qI (by kernel_rfl) (by kernel_rfl) (fun ⟨_,_,h⟩=>h.2) (by kernel_rfl) ?_
     repeat (go_big_quiet_step (exact Calls.regrown_of ((qB (qN f dd) _).mono fun e w' h=>⟨h.1,by rw [h.2];exact (zI _ _).alloc (zK _) _⟩)))
     refine wpQuiet_nil ?_
     intro Wq hWq
     have hbq:Below W.heap.size W Wq:=by
      obtain ⟨p,rfl⟩:=hWq
      exact below_regrown _ _ _
     clear hWq
     gi_wp2
     exact HSame.out hid Wq hbq
    | true=>
     have hsu:xp (qN f) x=⟨1,x.dst,false,(qN f dd).lo,false,0,0,[]⟩:=by
      unfold xp
      rw [zZ ⟨by omega,hnE,by rw [hdE];exact ho⟩,hdE]
     gi_wp2
     refine qI (by kernel_rfl) (by kernel_rfl) (fun ⟨_,_,h⟩=>h.2) (by kernel_rfl) ?_
     repeat (go_big_quiet_step (exact Calls.regrown_of ((qB (qN f dd) _).mono fun e w' h=>⟨h.1,by rw [h.2];exact (zI _ _).alloc (zK _) _⟩)))
     refine wpQuiet_nil ?_
     intro Wq hWq
     have hbq:Below W.heap.size W Wq:=by
      obtain ⟨p,rfl⟩:=hWq
      exact below_regrown _ _ _
     clear hWq
     have q1:Wq.cell? ⟨lb,j*8+1,none⟩=some (.int .i64 dd):=(hbq.cell (p:=⟨lb,j*8+1,none⟩) hdK).trans x1
     have q9:Wq.cell? ⟨w7.heap.size,0,none⟩=some (.slice (some ⟨O,0,none⟩) f.regs.toNat f.regs.toNat):=(hbq.cell (p:=⟨w7.heap.size,0,none⟩) l9z).trans l9
     have qO:Wq.cell? ⟨O,dd*3,none⟩=some (.int .i64 (qN f dd).lo):=(hbq.cell (p:=⟨O,dd*3,none⟩) oOz).trans o0
     gi_wp2
     refine jx (S:=(fun W':World=>W'.cell? ⟨lb,j*8+1,none⟩=some (.int .i64 (dd:Int))∧W'.cell? ⟨w7.heap.size,0,none⟩=some (.slice (some ⟨O,0,none⟩) f.regs.toNat f.regs.toNat)∧W'.cell? ⟨O,dd*3,none⟩=some (.int .i64 (qN f dd).lo))) (by kernel_rfl) (fun ⟨_,_,h⟩=>h.2) (by kernel_rfl) 16 ?_
     have hSp:(fun W':World=>W'.cell? ⟨lb,j*8+1,none⟩=some (.int .i64 (dd:Int))∧W'.cell? ⟨w7.heap.size,0,none⟩=some (.slice (some ⟨O,0,none⟩) f.regs.toNat f.regs.toNat)∧W'.cell? ⟨O,dd*3,none⟩=some (.int .i64 (qN f dd).lo)) Wq.drew:=⟨q1,q9,qO⟩
     refine tkZ 0 97 (.pointer (some ⟨lb,j*8,none⟩)) rfl rfl hSp (fun W' hS'=>(by obtain ⟨h1,h2,h3⟩:=hS';go_simp)) ?_
     refine tkZ 1 98 (.pointer (some ⟨lb,j*8,none⟩)) rfl rfl hSp (fun W' hS'=>(by obtain ⟨h1,h2,h3⟩:=hS';go_simp)) ?_
     refine tkZ 2 99 (.pointer (some ⟨lb,j*8,none⟩)) rfl rfl hSp (fun W' hS'=>(by obtain ⟨h1,h2,h3⟩:=hS';go_simp)) ?_
     refine tkZ 3 100 (.pointer (some ⟨lb,j*8+1,none⟩)) rfl rfl hSp (fun W' hS'=>(by obtain ⟨h1,h2,h3⟩:=hS';go_simp)) ?_
     refine tkZ 4 101 (.int .i64 dd) rfl rfl hSp (fun W' hS'=>(by obtain ⟨h1,h2,h3⟩:=hS';go_simp)) ?_
     refine tkZ 5 102 (.slice (some ⟨O,0,none⟩) f.regs.toNat f.regs.toNat) rfl rfl hSp (fun W' hS'=>(by obtain ⟨h1,h2,h3⟩:=hS';go_simp)) ?_
     refine tkZ 6 103 (.pointer (some ⟨lb,j*8,none⟩)) rfl rfl hSp (fun W' hS'=>(by obtain ⟨h1,h2,h3⟩:=hS';go_simp)) ?_
     refine tkZ 7 104 (.pointer (some ⟨lb,j*8,none⟩)) rfl rfl hSp (fun W' hS'=>(by obtain ⟨h1,h2,h3⟩:=hS';go_simp)) ?_
     refine tkZ 8 105 (.pointer (some ⟨lb,j*8+1,none⟩)) rfl rfl hSp (fun W' hS'=>(by obtain ⟨h1,h2,h3⟩:=hS';go_simp)) ?_
     refine tkZ 9 106 (.int .i64 dd) rfl rfl hSp (fun W' hS'=>(by obtain ⟨h1,h2,h3⟩:=hS';go_simp)) ?_
     refine tkZ 10 107 (.pointer (some ⟨O,dd*3,none⟩)) rfl rfl hSp (fun W' hS'=>(by obtain ⟨h1,h2,h3⟩:=hS';go_simp)) ?_
     refine tkZ 11 108 (.pointer (some ⟨O,dd*3,none⟩)) rfl rfl hSp (fun W' hS'=>(by obtain ⟨h1,h2,h3⟩:=hS';go_simp)) ?_
     refine tkZ 12 109 (.int .i64 (qN f dd).lo) rfl rfl hSp (fun W' hS'=>(by obtain ⟨h1,h2,h3⟩:=hS';go_simp)) ?_
     refine tkZ 13 110 (.agg #[.bool false,.int .i64 (qN f dd).lo]) rfl rfl hSp (fun W' hS'=>(by obtain ⟨h1,h2,h3⟩:=hS';go_simp)) ?_
     refine tkZ 14 111 (.agg #[.int .i64 1,.int .i64 dd,.bool false,.int .i64 (qN f dd).lo,.bool false,.int .i64 0,.int .i64 0,.slice none 0 0]) rfl rfl hSp (fun W' hS'=>(by obtain ⟨h1,h2,h3⟩:=hS';go_simp)) ?_
     refine tkZ 15 112 (.pointer (some ⟨lb,j*8,none⟩)) rfl rfl hSp (fun W' hS'=>(by obtain ⟨h1,h2,h3⟩:=hS';go_simp)) ?_
     have hay:Wq.heap[lb]?=W.heap[lb]?:=hbq.block _ hdK
     have r0:Wq.cell? ⟨lb,j*8,none⟩=some (.int .i64 x.op):=(zN (a:=⟨lb,j*8,none⟩) hay).trans (HCi.out 0 (by omega))
     have r2:Wq.cell? ⟨lb,j*8+2,none⟩=some (.bool x.ar):=(zN (a:=⟨lb,j*8+2,none⟩) hay).trans (HCi.out 2 (by omega))
     have r3:Wq.cell? ⟨lb,j*8+3,none⟩=some (.int .i64 x.an):=(zN (a:=⟨lb,j*8+3,none⟩) hay).trans (HCi.out 3 (by omega))
     have r4:Wq.cell? ⟨lb,j*8+4,none⟩=some (.bool x.br):=(zN (a:=⟨lb,j*8+4,none⟩) hay).trans (HCi.out 4 (by omega))
     have r5:Wq.cell? ⟨lb,j*8+5,none⟩=some (.int .i64 x.bn):=(zN (a:=⟨lb,j*8+5,none⟩) hay).trans (HCi.out 5 (by omega))
     have r6:Wq.cell? ⟨lb,j*8+6,none⟩=some (.int .i64 x.fn):=(zN (a:=⟨lb,j*8+6,none⟩) hay).trans (HCi.out 6 (by omega))
     have r7:Wq.cell? ⟨lb,j*8+7,none⟩=some (.slice qa x.args.length ca):=(zN (a:=⟨lb,j*8+7,none⟩) hay).trans (HCi.out 7 (by omega))
     have rf:∀o,Wq.frozen? ⟨lb,o,none⟩=false:=fun o=>(yB (a:=⟨lb,o,none⟩) hay).trans (hlG.out o)
     have rz:lb<Wq.heap.size:=by have:=hbq.size;omega
     refine qk (i:=16) (by kernel_rfl) (qA (eight Wq.drew lb (j*8) (.int .i64 1) (.int .i64 dd) (.bool false) (.int .i64 (qN f dd).lo) (.bool false) (.int .i64 0) (.int .i64 0) (.slice none 0 0)) rfl rfl rfl (by unfold eight;go_simp) (fun h=>absurd rfl h) (qx (by kernel_rfl) ?_ _))
     exact hlH.out hsu Wq hbq
   have hhs:x.op=5∨x.op=6:=.inr h6
   have q6:(x.op == 6)=true:=by simp [h6]
   have HH6:=q7 h6
   clear h6 h5
   cases hbr:x.br with
   | true=>
    rw [hbr] at x3
    have hid:xp (qN f) x=x:=by unfold xp;rw [zQ (fun h=>h.2.1 ⟨hhs,.inl hbr⟩)]
    gi_wp2
    refine qI (by kernel_rfl) (by kernel_rfl) (fun ⟨_,_,h⟩=>h.2) (by kernel_rfl) ?_
    repeat (go_big_quiet_step (exact Calls.regrown_of ((qB (qN f dd) _).mono fun e w' h=>⟨h.1,by rw [h.2];exact (zI _ _).alloc (zK _) _⟩)))
    refine wpQuiet_nil ?_
    intro Wq hWq
    have hbq:Below W.heap.size W Wq:=by
     obtain ⟨p,rfl⟩:=hWq
     exact below_regrown _ _ _
    clear hWq
    gi_wp2
    exact HSame.out hid Wq hbq
   | false=>
    rw [hbr] at x3
    cases hbn:(x.bn == 0) with
    | true=>
     have hid:xp (qN f) x=x:=by unfold xp;rw [zQ (fun h=>h.2.1 ⟨hhs,.inr (by simpa using hbn)⟩)]
     gi_wp2
     refine qI (by kernel_rfl) (by kernel_rfl) (fun ⟨_,_,h⟩=>h.2) (by kernel_rfl) ?_
     repeat (go_big_quiet_step (exact Calls.regrown_of ((qB (qN f dd) _).mono fun e w' h=>⟨h.1,by rw [h.2];exact (zI _ _).alloc (zK _) _⟩)))
     refine wpQuiet_nil ?_
     intro Wq hWq
     have hbq:Below W.heap.size W Wq:=by
      obtain ⟨p,rfl⟩:=hWq
      exact below_regrown _ _ _
     clear hWq
     gi_wp2
     exact HSame.out hid Wq hbq
    | false=>
     have hnE:¬((x.op=5∨x.op=6)∧(x.br=true∨x.bn=0)):=fun h=>h.2.elim (fun h=>by rw [hbr] at h;cases h) (fun h=>by rw [h] at hbn;cases hbn)
     cases ho:Ys (qN f dd) with
     | false=>
      have hid:xp (qN f) x=x:=by unfold xp;rw [zQ (fun h=>by rw [hdE,ho] at h;exact absurd h.2.2 (by decide))]
      gi_wp2
      refine qI (by kernel_rfl) (by kernel_rfl) (fun ⟨_,_,h⟩=>h.2) (by kernel_rfl) ?_
      repeat (go_big_quiet_step (exact Calls.regrown_of ((qB (qN f dd) _).mono fun e w' h=>⟨h.1,by rw [h.2];exact (zI _ _).alloc (zK _) _⟩)))
      refine wpQuiet_nil ?_
      intro Wq hWq
      have hbq:Below W.heap.size W Wq:=by
       obtain ⟨p,rfl⟩:=hWq
       exact below_regrown _ _ _
      clear hWq
      gi_wp2
      exact HSame.out hid Wq hbq
     | true=>
      have hsu:xp (qN f) x=⟨1,x.dst,false,(qN f dd).lo,false,0,0,[]⟩:=by
       unfold xp
       rw [zZ ⟨by omega,hnE,by rw [hdE];exact ho⟩,hdE]
      gi_wp2
      refine qI (by kernel_rfl) (by kernel_rfl) (fun ⟨_,_,h⟩=>h.2) (by kernel_rfl) ?_
      repeat (go_big_quiet_step (exact Calls.regrown_of ((qB (qN f dd) _).mono fun e w' h=>⟨h.1,by rw [h.2];exact (zI _ _).alloc (zK _) _⟩)))
      refine wpQuiet_nil ?_
      intro Wq hWq
      have hbq:Below W.heap.size W Wq:=by
       obtain ⟨p,rfl⟩:=hWq
       exact below_regrown _ _ _
      clear hWq
      have q1:Wq.cell? ⟨lb,j*8+1,none⟩=some (.int .i64 dd):=(hbq.cell (p:=⟨lb,j*8+1,none⟩) hdK).trans x1
      have q9:Wq.cell? ⟨w7.heap.size,0,none⟩=some (.slice (some ⟨O,0,none⟩) f.regs.toNat f.regs.toNat):=(hbq.cell (p:=⟨w7.heap.size,0,none⟩) l9z).trans l9
      have qO:Wq.cell? ⟨O,dd*3,none⟩=some (.int .i64 (qN f dd).lo):=(hbq.cell (p:=⟨O,dd*3,none⟩) oOz).trans o0
      gi_wp2
      refine jx (S:=(fun W':World=>W'.cell? ⟨lb,j*8+1,none⟩=some (.int .i64 (dd:Int))∧W'.cell? ⟨w7.heap.size,0,none⟩=some (.slice (some ⟨O,0,none⟩) f.regs.toNat f.regs.toNat)∧W'.cell? ⟨O,dd*3,none⟩=some (.int .i64 (qN f dd).lo))) (by kernel_rfl) (fun ⟨_,_,h⟩=>h.2) (by kernel_rfl) 16 ?_
      have hSp:(fun W':World=>W'.cell? ⟨lb,j*8+1,none⟩=some (.int .i64 (dd:Int))∧W'.cell? ⟨w7.heap.size,0,none⟩=some (.slice (some ⟨O,0,none⟩) f.regs.toNat f.regs.toNat)∧W'.cell? ⟨O,dd*3,none⟩=some (.int .i64 (qN f dd).lo)) Wq.drew:=⟨q1,q9,qO⟩
      refine tkZ 0 97 (.pointer (some ⟨lb,j*8,none⟩)) rfl rfl hSp (fun W' hS'=>(by obtain ⟨h1,h2,h3⟩:=hS';go_simp)) ?_
      refine tkZ 1 98 (.pointer (some ⟨lb,j*8,none⟩)) rfl rfl hSp (fun W' hS'=>(by obtain ⟨h1,h2,h3⟩:=hS';go_simp)) ?_
      refine tkZ 2 99 (.pointer (some ⟨lb,j*8,none⟩)) rfl rfl hSp (fun W' hS'=>(by obtain ⟨h1,h2,h3⟩:=hS';go_simp)) ?_
      refine tkZ 3 100 (.pointer (some ⟨lb,j*8+1,none⟩)) rfl rfl hSp (fun W' hS'=>(by obtain ⟨h1,h2,h3⟩:=hS';go_simp)) ?_
      refine tkZ 4 101 (.int .i64 dd) rfl rfl hSp (fun W' hS'=>(by obtain ⟨h1,h2,h3⟩:=hS';go_simp)) ?_
      refine tkZ 5 102 (.slice (some ⟨O,0,none⟩) f.regs.toNat f.regs.toNat) rfl rfl hSp (fun W' hS'=>(by obtain ⟨h1,h2,h3⟩:=hS';go_simp)) ?_
      refine tkZ 6 103 (.pointer (some ⟨lb,j*8,none⟩)) rfl rfl hSp (fun W' hS'=>(by obtain ⟨h1,h2,h3⟩:=hS';go_simp)) ?_
      refine tkZ 7 104 (.pointer (some ⟨lb,j*8,none⟩)) rfl rfl hSp (fun W' hS'=>(by obtain ⟨h1,h2,h3⟩:=hS';go_simp)) ?_
      refine tkZ 8 105 (.pointer (some ⟨lb,j*8+1,none⟩)) rfl rfl hSp (fun W' hS'=>(by obtain ⟨h1,h2,h3⟩:=hS';go_simp)) ?_
      refine tkZ 9 106 (.int .i64 dd) rfl rfl hSp (fun W' hS'=>(by obtain ⟨h1,h2,h3⟩:=hS';go_simp)) ?_
      refine tkZ 10 107 (.pointer (some ⟨O,dd*3,none⟩)) rfl rfl hSp (fun W' hS'=>(by obtain ⟨h1,h2,h3⟩:=hS';go_simp)) ?_
      refine tkZ 11 108 (.pointer (some ⟨O,dd*3,none⟩)) rfl rfl hSp (fun W' hS'=>(by obtain ⟨h1,h2,h3⟩:=hS';go_simp)) ?_
      refine tkZ 12 109 (.int .i64 (qN f dd).lo) rfl rfl hSp (fun W' hS'=>(by obtain ⟨h1,h2,h3⟩:=hS';go_simp)) ?_
      refine tkZ 13 110 (.agg #[.bool false,.int .i64 (qN f dd).lo]) rfl rfl hSp (fun W' hS'=>(by obtain ⟨h1,h2,h3⟩:=hS';go_simp)) ?_
      refine tkZ 14 111 (.agg #[.int .i64 1,.int .i64 dd,.bool false,.int .i64 (qN f dd).lo,.bool false,.int .i64 0,.int .i64 0,.slice none 0 0]) rfl rfl hSp (fun W' hS'=>(by obtain ⟨h1,h2,h3⟩:=hS';go_simp)) ?_
      refine tkZ 15 112 (.pointer (some ⟨lb,j*8,none⟩)) rfl rfl hSp (fun W' hS'=>(by obtain ⟨h1,h2,h3⟩:=hS';go_simp)) ?_
      have hay:Wq.heap[lb]?=W.heap[lb]?:=hbq.block _ hdK
      have r0:Wq.cell? ⟨lb,j*8,none⟩=some (.int .i64 x.op):=(zN (a:=⟨lb,j*8,none⟩) hay).trans (HCi.out 0 (by omega))
      have r2:Wq.cell? ⟨lb,j*8+2,none⟩=some (.bool x.ar):=(zN (a:=⟨lb,j*8+2,none⟩) hay).trans (HCi.out 2 (by omega))
      have r3:Wq.cell? ⟨lb,j*8+3,none⟩=some (.int .i64 x.an):=(zN (a:=⟨lb,j*8+3,none⟩) hay).trans (HCi.out 3 (by omega))
      have r4:Wq.cell? ⟨lb,j*8+4,none⟩=some (.bool x.br):=(zN (a:=⟨lb,j*8+4,none⟩) hay).trans (HCi.out 4 (by omega))
      have r5:Wq.cell? ⟨lb,j*8+5,none⟩=some (.int .i64 x.bn):=(zN (a:=⟨lb,j*8+5,none⟩) hay).trans (HCi.out 5 (by omega))
      have r6:Wq.cell? ⟨lb,j*8+6,none⟩=some (.int .i64 x.fn):=(zN (a:=⟨lb,j*8+6,none⟩) hay).trans (HCi.out 6 (by omega))
      have r7:Wq.cell? ⟨lb,j*8+7,none⟩=some (.slice qa x.args.length ca):=(zN (a:=⟨lb,j*8+7,none⟩) hay).trans (HCi.out 7 (by omega))
      have rf:∀o,Wq.frozen? ⟨lb,o,none⟩=false:=fun o=>(yB (a:=⟨lb,o,none⟩) hay).trans (hlG.out o)
      have rz:lb<Wq.heap.size:=by have:=hbq.size;omega
      refine qk (i:=16) (by kernel_rfl) (qA (eight Wq.drew lb (j*8) (.int .i64 1) (.int .i64 dd) (.bool false) (.int .i64 (qN f dd).lo) (.bool false) (.int .i64 0) (.int .i64 0) (.slice none 0 0)) rfl rfl rfl (by unfold eight;go_simp) (fun h=>absurd rfl h) (qx (by kernel_rfl) ?_ _))
      exact hlH.out hsu Wq hbq
  case done=>
   rintro D W hD ⟨hSl,hSh,hKp⟩ hDl
   have hins:({ f with blocks:=f.blocks.map fun b=>K1 b (b.list.map (xp (qN f))) }:FunL)=insT (qN f) f:=rfl
   rw [upI_all,hins] at hSl
   have hDn:¬ Sk D:=fun h=>by have:=hlE D h;omega
   have hhu:=hdD.out.of_block (hKp.block O hdD.out.lt (fun h=>by have:=HL.out.inb _ h;omega))
   have hpI:W.heap[w7.heap.size]?=some (.cells #[.slice (some ⟨O,0,none⟩) f.regs.toNat f.regs.toNat] 49 (0,0)):=(hKp.block _ (q8 HL8.out) (fun h=>by have:=HL.out.inb _ h;omega)).trans HL8.out
   have c3:W.cell? ⟨g,k*4+3,none⟩=some (.slice (some ⟨bb,0,none⟩) f.blocks.length cb):=hSh.fn
   have gzW:g<W.heap.size:=by have:=hKp.size;omega
   have HDl:=q7 hDl
   have HDn:=q7 hDn
   have hhv:=q7 hhu
   have hpJ:=q7 hpI
   have HKp:=q7 hKp
   have HSl:=q7 hSl
   have hzW:=hKp.size
   clear hSl hSh hKp hDl hDn hhu hpI hins
   go_wp2_with fail
   clear c3
   go_loopg [118] f.blocks.length (fun q s118 wr=>∃(b:Nat) (Sb:Blks),b≤f.blocks.length∧q=f.blocks.length - b∧s118 = .int .i64 b∧SlO 36 4 FunO wr (.slice (some ⟨g,0,none⟩) u.funcs.length c4) ((zM k xU xs).set k (Q7 (qN f) f b)) Sb∧(∀i,Sb i→Sk i∨W.heap.size≤i)∧Kept Sk W wr)
   case atStart=>exact ⟨0,Sk,by omega,rfl,rfl,HSl.out,fun i h=>.inl h,Kept.refl _ _⟩
   case round=>
    obtain ⟨wo,hwo⟩:∃wo,wo=wr:=⟨_,rfl⟩
    subst hwo
    obtain ⟨b,Sb,hb,rfl,rfl,hO,hSb,hK2⟩:=hrel
    have HO:=q7 hO
    have HSb:=q7 hSb
    have HK2:=q7 hK2
    have hzo:=hK2.size
    clear hO hSb hK2
    by_cases hvJ:b<f.blocks.length
    rotate_left
    ·obtain rfl:b=f.blocks.length:=by omega
     have hset:(zM k xU xs).set k (Q7 (qN f) f f.blocks.length)=zM (k+1) xU xs:=by
      rw [show Q7 (qN f) f f.blocks.length=xU f from rfl,HFe.out]
      exact x9 hkx
     have hOf:=HO.out
     rw [hset] at hOf
     have hDs:∀D'∈Ds,D'<wk.heap.size:=fun D' h=>q8 (HD.out D' h).2.1
     have hDW:=q8 HDl.out
     have hpK:∀D'∈D::Ds,W6.heap.size≤D'∧wo.heap[D']?=some (.deferred (some []))∧¬ Sb D':=fun D' h=>by
      rcases yC.1 h with rfl|h
      ·refine ⟨by omega,(HK2.out.block _ hDW HDn.out).trans HDl.out,fun h=>?_⟩
       rcases HSb.out _ h with h|h
       ·exact HDn.out h
       omega
      obtain ⟨e1,e2,e3⟩:=HD.out D' h
      have e4:=hDs D' h
      refine ⟨e1,(HK2.out.block _ (by omega) e3).trans ((HKp.out.block _ (by omega) e3).trans ((heF.out.block _ e4).trans e2)),fun h=>?_⟩
      rcases HSb.out _ h with h|h
      ·exact e3 h
      omega
     have heY:∀i,Sb i→S2 i∨W6.heap.size≤i:=fun i h=>by
      rcases HSb.out i h with h|h
      ·exact HSk.out i h
      right;omega
     have hk6:∀i,i<W6.heap.size→Sk i→S2 i:=fun i hi h=>(HSk.out i h).elim id (fun g=>by omega)
     have hKf:Kept S2 W6 wo:=((HK.out.trans (Kept.of_below (S:=fun _=>False) heF.out) (fun _ _ h=>h.elim)).trans HKp.out hk6).trans HK2.out hk6
     have HFin:=q7 (zh hOf (zh hpK (zh heY hKf)))
     have hnd:(D::Ds).Nodup:=List.nodup_cons.2 ⟨fun h=>by have:=hDs D h;omega,HN.out⟩
     have HNd:=q7 hnd
     clear hset hOf hDs hpK heY hk6 hKf hnd
     go_wp2_with fail
     refine ⟨⟨k+1,D::Ds,Sb,⟨by omega,HNd.out,HFin.out.2.1,HFin.out.1,HFin.out.2.2.1,HFin.out.2.2.2⟩,rfl,rfl,rfl,rfl,rfl,rfl,rfl⟩,?_⟩
     show u.funcs.length - ((k:Int)+1).toNat<u.funcs.length - ((k:Int)).toNat
     omega
    have hks:k<((zM k xU xs).set k (Q7 (qN f) f b)).length:=by rw [List.length_set];exact hkm
    obtain ⟨g1,cg1,csF,TF,hvF,heG,hvK,htV,hF1,hlI,hhX,hlJ,htW,⟨curF,hhw⟩,hhy⟩:=HO.out.focus xu (by omega) hks
    rw [List.getElem_set_self] at hF1
    obtain rfl:g=g1:=by
     injection hvF with y1 _ _
     injection y1 with y1
     injection y1
    obtain ⟨hCF,hFl⟩:=YG (qN f) HC.out b hb
    obtain ⟨hpL,hpM,hlK⟩:=J6 (qN f) f b
    obtain ⟨F,hFd⟩:∃F,F=Q7 (qN f) f b:=⟨_,rfl⟩
    rw [←hFd] at hF1 hCF hFl hpL hpM hlK
    obtain ⟨vF,rfl,hnF,hpN,hpO,hBF⟩:=hF1
    obtain ⟨bp,d1,rfl,_⟩:=hBF.sl.val
    have hbF:b<F.blocks.length:=by omega
    obtain ⟨b1,_,csy,Ty,hvy,hvL,hvM,hfO,hy,htX,htY,hbV,hhL,_⟩:=hBF.sl.focus qK (by omega) hbF
    obtain rfl:bp=some ⟨b1,0,none⟩:=by injection hvy
    obtain ⟨y,hyd⟩:∃y,y=F.blocks[b]:=⟨_,rfl⟩
    rw [←hyd] at hy
    obtain ⟨u1,u2,u3,_,_,Ut,rfl,_,_,_,_,hyt,_⟩:=hy
    obtain ⟨qt,dt,rfl,_,_⟩:=hyt.sl.val
    have hyE:EndC F.regs F.blocks.length y.fin:=by rw [hyd];exact hCF.fin b hbF
    have hya:(atF F b).fin=y.fin:=by rw [qC hbF,hyd]
    have c3:wo.cell? ⟨g,k*4+3,none⟩=some (.slice (some ⟨b1,0,none⟩) F.blocks.length d1):=hlJ 3 (by omega)
    have z2:wo.cell? ⟨b1,b*6+2,none⟩=some (.int .i64 y.fin.kind):=hbV 2 (by omega)
    have z3:wo.cell? ⟨b1,b*6+2+1,none⟩=some (.bool y.fin.onr):=hbV 3 (by omega)
    have z4:wo.cell? ⟨b1,b*6+2+2,none⟩=some (.int .i64 y.fin.onn):=hbV 4 (by omega)
    have z5:wo.cell? ⟨b1,b*6+2+3,none⟩=some (.slice qt y.fin.to.length dt):=hbV 5 (by omega)
    have hhA:=hhv.out.of_block (HK2.out.block O hhv.out.lt (fun h=>by have:=HL.out.inb _ h;omega))
    have hhY:wo.heap[w7.heap.size]?=some (.cells #[.slice (some ⟨O,0,none⟩) f.regs.toNat f.regs.toNat] 49 (0,0)):=(HK2.out.block _ (q8 hpJ.out) (fun h=>by have:=HL.out.inb _ h;omega)).trans hpJ.out
    have hpP:SliceAt wo 1 kh qt y.fin.to:=by
     obtain ⟨p',c',e,_,_,h⟩:=hyt.sl.read (R':=kh) xr (by omega) fun _ _ _ h=>h
     cases e
     exact h
    have bi:(b:Int)<F.blocks.length:=by omega
    have bi0:(0:Int)≤(b:Int):=by omega
    have hclose:∀(Wx:World) (F':FunL) (S':Blks),kg (qN f) F b=F'→SlO 45 6 BlkO Wx (.slice (some ⟨b1,0,none⟩) F.blocks.length d1) F'.blocks S'→(∀i,S' i→TF i∨wo.heap.size≤i)→Kept TF wo Wx→
      SlO 36 4 FunO Wx (.slice (some ⟨g,0,none⟩) u.funcs.length c4) ((zM k xU xs).set k (Q7 (qN f) f (b+1))) (fun i=>Sb i∨S' i)∧(∀i,Sb i∨S' i→Sk i∨W.heap.size≤i)∧Kept Sk W Wx:=fun Wx F' S' hF' hSx hSn hKx=>by
     have hl':F'.blocks.length=F.blocks.length:=by rw [←hF'];exact Yx _ _ _
     obtain ⟨n1,n2,n3⟩:=VP (qN f) F b
     have hp:=hhy Wx _ F' S' (RowPut.same hhw (hKx.block g heG hlI) hlJ) rfl (fun u hu=>by
       simp only [yC,yG,yl] at hu
       rcases hu with rfl|rfl|rfl|rfl<;>rfl) hKx.size (fun i h1 h2 h3=>hKx.block i (HO.out.inb i h1) h2)
      ⟨.slice (some ⟨b1,0,none⟩) F.blocks.length d1,by rw [←hF',n1,n2,n3],by rw [←hF',n1];exact hnF,by rw [←hF',n2];exact hpN,by rw [←hF',n3];exact hpO,⟨hSx,by rw [hl'];exact hBF.bd⟩⟩
      (fun i hi=>⟨hSn i hi,hSx.inb i hi⟩)
     rw [List.set_set] at hp
     have e:F'=Q7 (qN f) f (b+1):=by rw [Za,←hFd,hF']
     rw [e] at hp
     refine ⟨hp,fun i hi=>?_,HK2.out.trans hKx (fun i hi h=>?_)⟩
     ·rcases hi with h|h
      ·exact HSb.out i h
      rcases hSn i h with h|h
      ·exact HSb.out i (hhX i h)
      exact .inr (by omega)
     rcases HSb.out i (hhX i h) with h|h
     ·exact h
     omega
    have hau:=q7 hclose
    have HCF:=q7 hCF
    have HTF:=q7 (zh hlI hhX)
    have HBF:=q7 hBF
    have HYd:=q7 hyd
    have HYa:=q7 hya
    have HYE:=q7 hyE
    have hdG:=q7 hhA
    have hvO:=q7 hhY
    have HTo:=q7 hpP
    have HFl:=q7 hFl
    have HF3:=q7 hlK
    have HC3:=q7 c3
    have l91:wo.cell? ⟨w7.heap.size,0,none⟩=some (.slice (some ⟨O,0,none⟩) f.regs.toNat f.regs.toNat):=(blk hhY).1 0
    have l9z:=q8 hhY
    clear hclose hCF hlI hhX hBF hyd hya hyE hhA hhY hpP hFl hpL hpM hlK hFd hlJ hhw hhy hnF hpN hpO hbV htX htY hvy hvF hyt htW hhL hfO htV
    by_cases hk3:y.fin.kind=3
    rotate_left
    ·have q3:(y.fin.kind == 3)=false:=by simp [hk3]
     have ha9:jr (qN f) (atF F b).fin=none:=by rw [HYa.out];unfold jr;rw [zQ hk3]
     have haZ:=q7 ha9
     clear hk3 ha9
     go_wp2_with fail
     obtain ⟨wn,hwn⟩:∃wn,wn=wo.alloc (.cells #[.int .i64 y.fin.kind,.bool y.fin.onr,.int .i64 y.fin.onn,.slice qt y.fin.to.length dt] 43):=⟨_,rfl⟩
     rw [←hwn]
     have hbn:Below wo.heap.size wo wn:=by rw [hwn];exact bZ
     clear hwn
     have hrel:=hau.out wn F TF (by unfold kg;rw [haZ.out]) (HBF.out.sl.below qK hbn) (fun i h=>.inl h) (Kept.of_below hbn)
     have ha6:=q7 hrel
     clear hrel
     go_roundg (f.blocks.length - (b+1))
     case measure=>omega
     case rel=>exact ⟨b+1,_,by omega,rfl,by go_num,ha6.out.1,ha6.out.2.1,ha6.out.2.2⟩
    have q3:(y.fin.kind == 3)=true:=by simp [hk3]
    have HK3:=q7 hk3
    clear hk3
    cases hr:y.fin.onr with
    | false=>
     rw [hr] at z3
     go_wp2_with fail
     refine (qP y.fin.onn _).mono ?_
     rintro e wj ⟨rfl,rfl⟩
     have hvs:vlS (qN f) (y.fin.onr,y.fin.onn)=⟨y.fin.onn,y.fin.onn,true⟩:=by unfold vlS;rw [hr];rfl
     have HVs:=q7 hvs
     clear hvs hr z2 z3 z4 z5
     go_wp2_with fail
     obtain ⟨wv,hwv⟩:∃wv,wv=((wo.alloc (.cells #[.int .i64 y.fin.kind,.bool false,.int .i64 y.fin.onn,.slice qt y.fin.to.length dt] 43)).alloc (.cells #[.int .i64 y.fin.onn,.int .i64 y.fin.onn,.bool true] 59)).alloc (.cells #[.int .i64 y.fin.onn,.int .i64 y.fin.onn,.bool true] 59):=⟨_,rfl⟩
     rw [←hwv]
     have hV:wv.heap[wo.heap.size+1+1]?=some (.cells #[.int .i64 y.fin.onn,.int .i64 y.fin.onn,.bool true] 59 (0,0)):=by rw [hwv];exact qh (by simp)
     have hEv:wv.heap[wo.heap.size]?=some (.cells #[.int .i64 y.fin.kind,.bool false,.int .i64 y.fin.onn,.slice qt y.fin.to.length dt] 43 (0,0)):=by rw [hwv];exact qg (qg (qh rfl))
     have hbv:Below wo.heap.size wo wv:=by rw [hwv];exact bZ
     clear hwv
     have hl2:y.fin.to.length=2:=by have:=HYE.out.len;have:=HK3.out;omega
     obtain ⟨tb,t_,hpt,ht0,-⟩:=ZJ HTo.out (zI _ _) (i:=0) (by omega)
     obtain ⟨tb',t_',heH,ht1,-⟩:=ZJ HTo.out (zI _ _) (i:=1) (by omega)
     obtain ⟨rfl,rfl⟩:tb=tb'∧t_=t_':=by rw [hpt] at heH;cases heH;exact ⟨rfl,rfl⟩
     subst hpt
     clear heH
     have hge:∀t∈y.fin.to,1≤t:=fun t ht=>(HYE.out.to t ht).1
     obtain ⟨t0,hhB⟩:∃t0:Nat,y.fin.to[0]=(t0:Int):=⟨y.fin.to[0].toNat,by have:=hge _ (zP (l:=y.fin.to) (n:=0) (by omega));omega⟩
     obtain ⟨t1,hhC⟩:∃t1:Nat,y.fin.to[1]=(t1:Int):=⟨y.fin.to[1].toNat,by have:=hge _ (zP (l:=y.fin.to) (n:=1) (by omega));omega⟩
     rw [hhB,yJ] at ht0
     rw [hhC] at ht1
     have hd0:(y.fin.to.getD 0 0).toNat=t0:=by rw [List.getD,zj (by omega)];show (y.fin.to[0]).toNat=t0;omega
     have hd1:(y.fin.to.getD 1 0).toNat=t1:=by rw [List.getD,zj (by omega)];show (y.fin.to[1]).toNat=t1;omega
     have htz:=qd ht0
     have hdH:=q7 hl2
     have heI:=q7 (zh hd0 hd1)
     clear hl2 hge hhB hhC hd0 hd1
     have yv0:∀d os,(Go.Sort.grow (redrawn wv d) os).cell? ⟨wo.heap.size+1+1,0,none⟩=some (.int .i64 y.fin.onn):=cell_regrown ((blk hV).1 0)
     have yv1:∀d os,(Go.Sort.grow (redrawn wv d) os).cell? ⟨wo.heap.size+1+1,1,none⟩=some (.int .i64 y.fin.onn):=cell_regrown ((blk hV).1 1)
     have yv2:∀d os,(Go.Sort.grow (redrawn wv d) os).cell? ⟨wo.heap.size+1+1,2,none⟩=some (.bool true):=cell_regrown ((blk hV).1 2)
     by_cases h0:y.fin.onn=0∧y.fin.onn=0
     ·have ha9:jr (qN f) (atF F b).fin=some t0:=by rw [HYa.out,gone_0 HK3.out HVs.out h0,heI.out.1]
      have hqe:∀w,(binOp .eql 59 (.agg #[.int .i64 y.fin.onn,.int .i64 y.fin.onn,.bool true]) (.agg #[.int .i64 0,.int .i64 0,.bool true])).run Tryz.prog w = .ok (.bool true) w:=fun w=>by
       rw [jp]
       simp only [beq_self_eq_true,Bool.and_true]
       congr 2
       simp [h0]
      refine wp_region_quiet_below (by kernel_rfl) (by kernel_rfl) ?_
      repeat (go_big_quiet_step (exact Calls.regrown_of ((qP 0 _).mono fun e w' h=>⟨h.1,by rw [h.2];exact (zI _ _).alloc (zK _) _⟩)))
      refine wpQuiet_nil ?_
      intro wn hwn
      have hbq:Below wv.heap.size wv wn:=by
       obtain ⟨p,rfl⟩:=hwn
       exact below_regrown _ _ _
      clear hwn
      have hbn:Below wo.heap.size wo wn:=hbv.trans (hbq.mono (by have:=hbv.size;omega))
      have hEn:=(hbq.block _ (q8 hEv)).trans hEv
      have hVn:=(hbq.block _ (q8 hV)).trans hV
      have e3:wn.cell? ⟨wo.heap.size,3,none⟩=some (.slice (some ⟨tb,t_,none⟩) y.fin.to.length dt):=(blk hEn).1 3
      have ez:=q8 hEn
      have n0:wn.cell? ⟨wo.heap.size+1+1,0,none⟩=some (.int .i64 y.fin.onn):=(blk hVn).1 0
      have n1:wn.cell? ⟨wo.heap.size+1+1,1,none⟩=some (.int .i64 y.fin.onn):=(blk hVn).1 1
      have nz:=q8 hVn
      have tc0:=(hbn.cell (p:=⟨tb,t_,none⟩) htz).trans ht0
      have tc1:=(hbn.cell (p:=⟨tb,t_+1,none⟩) htz).trans ht1
      have tl2:(0:Int)<y.fin.to.length∧(1:Int)<y.fin.to.length:=by rw [hdH.out];omega
      obtain ⟨tl0,tl1⟩:=tl2
      clear hqe hEn hVn
      have HH0:=q7 h0
      clear h0
      have haD:=vu HCF.out hbF ha9
      have haS:=q7 haD
      clear haD
      go_wp2_with fail
      refine (Z7 F HCF.out b t0 haS.out g (k*4) (some ⟨b1,0,none⟩) d1 wn TF ((hbn.cell (p:=⟨g,k*4+3,none⟩) heG).trans HC3.out) HTF.out.1 (HBF.out.sl.below qK hbn)).mono ?_
      rintro e wz ⟨rfl,Sz,hSz,haN,hKz⟩
      have hrel:=hau.out wz (jV F b t0) Sz (by unfold kg;rw [ha9]) hSz (fun i hi=>(haN i hi).imp id (fun h=>by have:=hbn.size;omega)) ((Kept.of_below hbn).trans hKz (fun _ _ h=>h))
      have ha6:=q7 hrel
      clear hrel hSz haN hKz
      go_wp2_with fail
      go_roundg (f.blocks.length - (b+1))
      case measure=>omega
      case rel=>exact ⟨b+1,_,by omega,rfl,by go_num,ha6.out.1,ha6.out.2.1,ha6.out.2.2⟩
     by_cases h1:0<y.fin.onn
     ·have ha9:jr (qN f) (atF F b).fin=some t1:=by rw [HYa.out,YF HK3.out HVs.out h0 (.inl h1),heI.out.2]
      have hqe:∀w,(binOp .eql 59 (.agg #[.int .i64 y.fin.onn,.int .i64 y.fin.onn,.bool true]) (.agg #[.int .i64 0,.int .i64 0,.bool true])).run Tryz.prog w = .ok (.bool false) w:=fun w=>by
       rw [jp]
       simp only [beq_self_eq_true,Bool.and_true]
       congr 2
       simpa using h0
      refine wp_region_quiet_below (by kernel_rfl) (by kernel_rfl) ?_
      repeat (go_big_quiet_step (exact Calls.regrown_of ((qP 0 _).mono fun e w' h=>⟨h.1,by rw [h.2];exact (zI _ _).alloc (zK _) _⟩)))
      refine wpQuiet_nil ?_
      intro wn hwn
      have hbq:Below wv.heap.size wv wn:=by
       obtain ⟨p,rfl⟩:=hwn
       exact below_regrown _ _ _
      clear hwn
      have hbn:Below wo.heap.size wo wn:=hbv.trans (hbq.mono (by have:=hbv.size;omega))
      have hEn:=(hbq.block _ (q8 hEv)).trans hEv
      have hVn:=(hbq.block _ (q8 hV)).trans hV
      have e3:wn.cell? ⟨wo.heap.size,3,none⟩=some (.slice (some ⟨tb,t_,none⟩) y.fin.to.length dt):=(blk hEn).1 3
      have ez:=q8 hEn
      have n0:wn.cell? ⟨wo.heap.size+1+1,0,none⟩=some (.int .i64 y.fin.onn):=(blk hVn).1 0
      have n1:wn.cell? ⟨wo.heap.size+1+1,1,none⟩=some (.int .i64 y.fin.onn):=(blk hVn).1 1
      have nz:=q8 hVn
      have tc0:=(hbn.cell (p:=⟨tb,t_,none⟩) htz).trans ht0
      have tc1:=(hbn.cell (p:=⟨tb,t_+1,none⟩) htz).trans ht1
      have tl2:(0:Int)<y.fin.to.length∧(1:Int)<y.fin.to.length:=by rw [hdH.out];omega
      obtain ⟨tl0,tl1⟩:=tl2
      clear hqe hEn hVn
      have g1:decide (0<y.fin.onn)=true:=by simpa using h1
      have HH0:=q7 h0
      clear h0 h1
      have haD:=vu HCF.out hbF ha9
      have haS:=q7 haD
      clear haD
      go_wp2_with fail
      refine (Z7 F HCF.out b t1 haS.out g (k*4) (some ⟨b1,0,none⟩) d1 wn TF ((hbn.cell (p:=⟨g,k*4+3,none⟩) heG).trans HC3.out) HTF.out.1 (HBF.out.sl.below qK hbn)).mono ?_
      rintro e wz ⟨rfl,Sz,hSz,haN,hKz⟩
      have hrel:=hau.out wz (jV F b t1) Sz (by unfold kg;rw [ha9]) hSz (fun i hi=>(haN i hi).imp id (fun h=>by have:=hbn.size;omega)) ((Kept.of_below hbn).trans hKz (fun _ _ h=>h))
      have ha6:=q7 hrel
      clear hrel hSz haN hKz
      go_wp2_with fail
      go_roundg (f.blocks.length - (b+1))
      case measure=>omega
      case rel=>exact ⟨b+1,_,by omega,rfl,by go_num,ha6.out.1,ha6.out.2.1,ha6.out.2.2⟩
     have g1:decide (0<y.fin.onn)=false:=by simpa using h1
     by_cases h2:y.fin.onn<0
     ·have ha9:jr (qN f) (atF F b).fin=some t1:=by rw [HYa.out,YF HK3.out HVs.out h0 (.inr h2),heI.out.2]
      have hqe:∀w,(binOp .eql 59 (.agg #[.int .i64 y.fin.onn,.int .i64 y.fin.onn,.bool true]) (.agg #[.int .i64 0,.int .i64 0,.bool true])).run Tryz.prog w = .ok (.bool false) w:=fun w=>by
       rw [jp]
       simp only [beq_self_eq_true,Bool.and_true]
       congr 2
       simpa using h0
      refine wp_region_quiet_below (by kernel_rfl) (by kernel_rfl) ?_
      repeat (go_big_quiet_step (exact Calls.regrown_of ((qP 0 _).mono fun e w' h=>⟨h.1,by rw [h.2];exact (zI _ _).alloc (zK _) _⟩)))
      refine wpQuiet_nil ?_
      intro wn hwn
      have hbq:Below wv.heap.size wv wn:=by
       obtain ⟨p,rfl⟩:=hwn
       exact below_regrown _ _ _
      clear hwn
      have hbn:Below wo.heap.size wo wn:=hbv.trans (hbq.mono (by have:=hbv.size;omega))
      have hEn:=(hbq.block _ (q8 hEv)).trans hEv
      have hVn:=(hbq.block _ (q8 hV)).trans hV
      have e3:wn.cell? ⟨wo.heap.size,3,none⟩=some (.slice (some ⟨tb,t_,none⟩) y.fin.to.length dt):=(blk hEn).1 3
      have ez:=q8 hEn
      have n0:wn.cell? ⟨wo.heap.size+1+1,0,none⟩=some (.int .i64 y.fin.onn):=(blk hVn).1 0
      have n1:wn.cell? ⟨wo.heap.size+1+1,1,none⟩=some (.int .i64 y.fin.onn):=(blk hVn).1 1
      have nz:=q8 hVn
      have tc0:=(hbn.cell (p:=⟨tb,t_,none⟩) htz).trans ht0
      have tc1:=(hbn.cell (p:=⟨tb,t_+1,none⟩) htz).trans ht1
      have tl2:(0:Int)<y.fin.to.length∧(1:Int)<y.fin.to.length:=by rw [hdH.out];omega
      obtain ⟨tl0,tl1⟩:=tl2
      clear hqe hEn hVn
      have g2:decide (y.fin.onn<0)=true:=by simpa using h2
      have HH0:=q7 h0
      clear h0 h1 h2
      have haD:=vu HCF.out hbF ha9
      have haS:=q7 haD
      clear haD
      go_wp2_with fail
      refine (Z7 F HCF.out b t1 haS.out g (k*4) (some ⟨b1,0,none⟩) d1 wn TF ((hbn.cell (p:=⟨g,k*4+3,none⟩) heG).trans HC3.out) HTF.out.1 (HBF.out.sl.below qK hbn)).mono ?_
      rintro e wz ⟨rfl,Sz,hSz,haN,hKz⟩
      have hrel:=hau.out wz (jV F b t1) Sz (by unfold kg;rw [ha9]) hSz (fun i hi=>(haN i hi).imp id (fun h=>by have:=hbn.size;omega)) ((Kept.of_below hbn).trans hKz (fun _ _ h=>h))
      have ha6:=q7 hrel
      clear hrel hSz haN hKz
      go_wp2_with fail
      go_roundg (f.blocks.length - (b+1))
      case measure=>omega
      case rel=>exact ⟨b+1,_,by omega,rfl,by go_num,ha6.out.1,ha6.out.2.1,ha6.out.2.2⟩
     have ha9:jr (qN f) (atF F b).fin=none:=by rw [HYa.out,gone_2 HK3.out HVs.out h0 (fun g=>g.elim h1 h2)]
     have hqe:∀w,(binOp .eql 59 (.agg #[.int .i64 y.fin.onn,.int .i64 y.fin.onn,.bool true]) (.agg #[.int .i64 0,.int .i64 0,.bool true])).run Tryz.prog w = .ok (.bool false) w:=fun w=>by
      rw [jp]
      simp only [beq_self_eq_true,Bool.and_true]
      congr 2
      simpa using h0
     refine wp_region_quiet_below (by kernel_rfl) (by kernel_rfl) ?_
     repeat (go_big_quiet_step (exact Calls.regrown_of ((qP 0 _).mono fun e w' h=>⟨h.1,by rw [h.2];exact (zI _ _).alloc (zK _) _⟩)))
     refine wpQuiet_nil ?_
     intro wn hwn
     have hbq:Below wv.heap.size wv wn:=by
      obtain ⟨p,rfl⟩:=hwn
      exact below_regrown _ _ _
     clear hwn
     have hbn:Below wo.heap.size wo wn:=hbv.trans (hbq.mono (by have:=hbv.size;omega))
     have hEn:=(hbq.block _ (q8 hEv)).trans hEv
     have hVn:=(hbq.block _ (q8 hV)).trans hV
     have e3:wn.cell? ⟨wo.heap.size,3,none⟩=some (.slice (some ⟨tb,t_,none⟩) y.fin.to.length dt):=(blk hEn).1 3
     have ez:=q8 hEn
     have n0:wn.cell? ⟨wo.heap.size+1+1,0,none⟩=some (.int .i64 y.fin.onn):=(blk hVn).1 0
     have n1:wn.cell? ⟨wo.heap.size+1+1,1,none⟩=some (.int .i64 y.fin.onn):=(blk hVn).1 1
     have nz:=q8 hVn
     have tc0:=(hbn.cell (p:=⟨tb,t_,none⟩) htz).trans ht0
     have tc1:=(hbn.cell (p:=⟨tb,t_+1,none⟩) htz).trans ht1
     have tl2:(0:Int)<y.fin.to.length∧(1:Int)<y.fin.to.length:=by rw [hdH.out];omega
     obtain ⟨tl0,tl1⟩:=tl2
     clear hqe hEn hVn
     have g2:decide (y.fin.onn<0)=false:=by simpa using h2
     have haZ:=q7 ha9
     clear h0 h1 h2 ha9
     go_wp2_with fail
     have hrel:=hau.out wn F TF (by unfold kg;rw [haZ.out]) (HBF.out.sl.below qK hbn) (fun i h=>.inl h) (Kept.of_below hbn)
     have ha6:=q7 hrel
     clear hrel
     go_roundg (f.blocks.length - (b+1))
     case measure=>omega
     case rel=>exact ⟨b+1,_,by omega,rfl,by go_num,ha6.out.1,ha6.out.2.1,ha6.out.2.2⟩
    | true=>
     rw [hr] at z3
     go_wp2_with fail
     refine (qP y.fin.onn _).mono ?_
     rintro e wj ⟨rfl,rfl⟩
     have hon:=HYE.out.on hr
     obtain ⟨rr,hrr⟩:∃rr:Nat,y.fin.onn=(rr:Int):=⟨y.fin.onn.toNat,by omega⟩
     have hrR:rr<f.regs.toNat:=by have:=HF3.out;omega
     have hvs:vlS (qN f) (y.fin.onr,y.fin.onn)=qN f rr:=by unfold vlS;rw [hr,zZ rfl,hrr];rfl
     have HVs:=q7 hvs
     have o0:wo.cell? ⟨O,rr*3,none⟩=some (.int .i64 (qN f rr).lo):=(hdG.out.cell (by omega)).trans (by rw [spF_0])
     have o1:wo.cell? ⟨O,rr*3+1,none⟩=some (.int .i64 (qN f rr).hi):=(hdG.out.cell (by omega)).trans (by rw [spF_1])
     have o2:wo.cell? ⟨O,rr*3+2,none⟩=some (.bool (qN f rr).has):=(hdG.out.cell (by omega)).trans (by rw [spF_2])
     have oOz:=hdG.out.lt
     have ri0:(0:Int)≤(rr:Int):=by omega
     have ri1:(rr:Int)<(f.regs.toNat:Int):=by omega
     have ri2:¬ max f.regs 0≤(rr:Int):=by simp only [Int.max_def];split<;>omega
     have HRr:=q7 hrr
     have l9z1:w7.heap.size<wo.heap.size+1:=by omega
     have l9z2:w7.heap.size<wo.heap.size+1+1:=by omega
     have oOz1:O<wo.heap.size+1:=by omega
     have oOz2:O<wo.heap.size+1+1:=by omega
     rw [hrr]
     clear hvs hr z2 z3 z4 z5 hon hrr
     cases hh:(qN f rr).has with
     | false=>
      rw [hh] at o2
      have ha9:jr (qN f) (atF F b).fin=none:=by rw [HYa.out];exact gone_n (by rw [HVs.out];exact hh)
      have haZ:=q7 ha9
      clear ha9 hh
      go_wp2_with fail
      obtain ⟨wn,hwn⟩:∃wn,wn=((wo.alloc (.cells #[.int .i64 y.fin.kind,.bool true,.int .i64 rr,.slice qt y.fin.to.length dt] 43)).alloc (.cells #[.int .i64 rr,.int .i64 rr,.bool true] 59)).alloc (.cells #[.int .i64 (qN f rr).lo,.int .i64 (qN f rr).hi,.bool false] 59):=⟨_,rfl⟩
      rw [←hwn]
      have hbn:Below wo.heap.size wo wn:=by rw [hwn];exact bZ
      clear hwn
      have hrel:=hau.out wn F TF (by unfold kg;rw [haZ.out]) (HBF.out.sl.below qK hbn) (fun i h=>.inl h) (Kept.of_below hbn)
      have ha6:=q7 hrel
      clear hrel
      go_roundg (f.blocks.length - (b+1))
      case measure=>omega
      case rel=>exact ⟨b+1,_,by omega,rfl,by go_num,ha6.out.1,ha6.out.2.1,ha6.out.2.2⟩
     | true=>
      rw [hh] at o2
      have hhZ:=q7 (show vlS (qN f) (y.fin.onr,y.fin.onn)=⟨(qN f rr).lo,(qN f rr).hi,true⟩ by rw [HVs.out,←hh])
      clear hh
      obtain ⟨lo,hlo⟩:∃lo,lo=(qN f rr).lo:=⟨_,rfl⟩
      obtain ⟨hi,hhi⟩:∃hi,hi=(qN f rr).hi:=⟨_,rfl⟩
      rw [←hlo] at o0 hhZ
      rw [←hhi] at o1 hhZ
      clear HVs hlo hhi
      have HVs:=hhZ
      clear hhZ
      go_wp2_with fail
      obtain ⟨wv,hwv⟩:∃wv,wv=((wo.alloc (.cells #[.int .i64 y.fin.kind,.bool true,.int .i64 rr,.slice qt y.fin.to.length dt] 43)).alloc (.cells #[.int .i64 rr,.int .i64 rr,.bool true] 59)).alloc (.cells #[.int .i64 lo,.int .i64 hi,.bool true] 59):=⟨_,rfl⟩
      rw [←hwv]
      have hV:wv.heap[wo.heap.size+1+1]?=some (.cells #[.int .i64 lo,.int .i64 hi,.bool true] 59 (0,0)):=by rw [hwv];exact qh (by simp)
      have hEv:wv.heap[wo.heap.size]?=some (.cells #[.int .i64 y.fin.kind,.bool true,.int .i64 rr,.slice qt y.fin.to.length dt] 43 (0,0)):=by rw [hwv];exact qg (qg (qh rfl))
      have hbv:Below wo.heap.size wo wv:=by rw [hwv];exact bZ
      clear hwv o0 o1 o2
      have hl2:y.fin.to.length=2:=by have:=HYE.out.len;have:=HK3.out;omega
      obtain ⟨tb,t_,hpt,ht0,-⟩:=ZJ HTo.out (zI _ _) (i:=0) (by omega)
      obtain ⟨tb',t_',heH,ht1,-⟩:=ZJ HTo.out (zI _ _) (i:=1) (by omega)
      obtain ⟨rfl,rfl⟩:tb=tb'∧t_=t_':=by rw [hpt] at heH;cases heH;exact ⟨rfl,rfl⟩
      subst hpt
      clear heH
      have hge:∀t∈y.fin.to,1≤t:=fun t ht=>(HYE.out.to t ht).1
      obtain ⟨t0,hhB⟩:∃t0:Nat,y.fin.to[0]=(t0:Int):=⟨y.fin.to[0].toNat,by have:=hge _ (zP (l:=y.fin.to) (n:=0) (by omega));omega⟩
      obtain ⟨t1,hhC⟩:∃t1:Nat,y.fin.to[1]=(t1:Int):=⟨y.fin.to[1].toNat,by have:=hge _ (zP (l:=y.fin.to) (n:=1) (by omega));omega⟩
      rw [hhB,yJ] at ht0
      rw [hhC] at ht1
      have hd0:(y.fin.to.getD 0 0).toNat=t0:=by rw [List.getD,zj (by omega)];show (y.fin.to[0]).toNat=t0;omega
      have hd1:(y.fin.to.getD 1 0).toNat=t1:=by rw [List.getD,zj (by omega)];show (y.fin.to[1]).toNat=t1;omega
      have htz:=qd ht0
      have hdH:=q7 hl2
      have heI:=q7 (zh hd0 hd1)
      clear hl2 hge hhB hhC hd0 hd1
      have yv0:∀d os,(Go.Sort.grow (redrawn wv d) os).cell? ⟨wo.heap.size+1+1,0,none⟩=some (.int .i64 lo):=cell_regrown ((blk hV).1 0)
      have yv1:∀d os,(Go.Sort.grow (redrawn wv d) os).cell? ⟨wo.heap.size+1+1,1,none⟩=some (.int .i64 hi):=cell_regrown ((blk hV).1 1)
      have yv2:∀d os,(Go.Sort.grow (redrawn wv d) os).cell? ⟨wo.heap.size+1+1,2,none⟩=some (.bool true):=cell_regrown ((blk hV).1 2)
      by_cases h0:lo=0∧hi=0
      ·have ha9:jr (qN f) (atF F b).fin=some t0:=by rw [HYa.out,gone_0 HK3.out HVs.out h0,heI.out.1]
       have hqe:∀w,(binOp .eql 59 (.agg #[.int .i64 lo,.int .i64 hi,.bool true]) (.agg #[.int .i64 0,.int .i64 0,.bool true])).run Tryz.prog w = .ok (.bool true) w:=fun w=>by
        rw [jp]
        simp only [beq_self_eq_true,Bool.and_true]
        congr 2
        simp [h0]
       refine wp_region_quiet_below (by kernel_rfl) (by kernel_rfl) ?_
       repeat (go_big_quiet_step (exact Calls.regrown_of ((qP 0 _).mono fun e w' h=>⟨h.1,by rw [h.2];exact (zI _ _).alloc (zK _) _⟩)))
       refine wpQuiet_nil ?_
       intro wn hwn
       have hbq:Below wv.heap.size wv wn:=by
        obtain ⟨p,rfl⟩:=hwn
        exact below_regrown _ _ _
       clear hwn
       have hbn:Below wo.heap.size wo wn:=hbv.trans (hbq.mono (by have:=hbv.size;omega))
       have hEn:=(hbq.block _ (q8 hEv)).trans hEv
       have hVn:=(hbq.block _ (q8 hV)).trans hV
       have e3:wn.cell? ⟨wo.heap.size,3,none⟩=some (.slice (some ⟨tb,t_,none⟩) y.fin.to.length dt):=(blk hEn).1 3
       have ez:=q8 hEn
       have n0:wn.cell? ⟨wo.heap.size+1+1,0,none⟩=some (.int .i64 lo):=(blk hVn).1 0
       have n1:wn.cell? ⟨wo.heap.size+1+1,1,none⟩=some (.int .i64 hi):=(blk hVn).1 1
       have nz:=q8 hVn
       have tc0:=(hbn.cell (p:=⟨tb,t_,none⟩) htz).trans ht0
       have tc1:=(hbn.cell (p:=⟨tb,t_+1,none⟩) htz).trans ht1
       have tl2:(0:Int)<y.fin.to.length∧(1:Int)<y.fin.to.length:=by rw [hdH.out];omega
       obtain ⟨tl0,tl1⟩:=tl2
       clear hqe hEn hVn
       have HH0:=q7 h0
       clear h0
       have haD:=vu HCF.out hbF ha9
       have haS:=q7 haD
       clear haD
       go_wp2_with fail
       refine (Z7 F HCF.out b t0 haS.out g (k*4) (some ⟨b1,0,none⟩) d1 wn TF ((hbn.cell (p:=⟨g,k*4+3,none⟩) heG).trans HC3.out) HTF.out.1 (HBF.out.sl.below qK hbn)).mono ?_
       rintro e wz ⟨rfl,Sz,hSz,haN,hKz⟩
       have hrel:=hau.out wz (jV F b t0) Sz (by unfold kg;rw [ha9]) hSz (fun i hi=>(haN i hi).imp id (fun h=>by have:=hbn.size;omega)) ((Kept.of_below hbn).trans hKz (fun _ _ h=>h))
       have ha6:=q7 hrel
       clear hrel hSz haN hKz
       go_wp2_with fail
       go_roundg (f.blocks.length - (b+1))
       case measure=>omega
       case rel=>exact ⟨b+1,_,by omega,rfl,by go_num,ha6.out.1,ha6.out.2.1,ha6.out.2.2⟩
      by_cases h1:0<lo
      ·have ha9:jr (qN f) (atF F b).fin=some t1:=by rw [HYa.out,YF HK3.out HVs.out h0 (.inl h1),heI.out.2]
       have hqe:∀w,(binOp .eql 59 (.agg #[.int .i64 lo,.int .i64 hi,.bool true]) (.agg #[.int .i64 0,.int .i64 0,.bool true])).run Tryz.prog w = .ok (.bool false) w:=fun w=>by
        rw [jp]
        simp only [beq_self_eq_true,Bool.and_true]
        congr 2
        simpa using h0
       refine wp_region_quiet_below (by kernel_rfl) (by kernel_rfl) ?_
       repeat (go_big_quiet_step (exact Calls.regrown_of ((qP 0 _).mono fun e w' h=>⟨h.1,by rw [h.2];exact (zI _ _).alloc (zK _) _⟩)))
       refine wpQuiet_nil ?_
       intro wn hwn
       have hbq:Below wv.heap.size wv wn:=by
        obtain ⟨p,rfl⟩:=hwn
        exact below_regrown _ _ _
       clear hwn
       have hbn:Below wo.heap.size wo wn:=hbv.trans (hbq.mono (by have:=hbv.size;omega))
       have hEn:=(hbq.block _ (q8 hEv)).trans hEv
       have hVn:=(hbq.block _ (q8 hV)).trans hV
       have e3:wn.cell? ⟨wo.heap.size,3,none⟩=some (.slice (some ⟨tb,t_,none⟩) y.fin.to.length dt):=(blk hEn).1 3
       have ez:=q8 hEn
       have n0:wn.cell? ⟨wo.heap.size+1+1,0,none⟩=some (.int .i64 lo):=(blk hVn).1 0
       have n1:wn.cell? ⟨wo.heap.size+1+1,1,none⟩=some (.int .i64 hi):=(blk hVn).1 1
       have nz:=q8 hVn
       have tc0:=(hbn.cell (p:=⟨tb,t_,none⟩) htz).trans ht0
       have tc1:=(hbn.cell (p:=⟨tb,t_+1,none⟩) htz).trans ht1
       have tl2:(0:Int)<y.fin.to.length∧(1:Int)<y.fin.to.length:=by rw [hdH.out];omega
       obtain ⟨tl0,tl1⟩:=tl2
       clear hqe hEn hVn
       have g1:decide (0<lo)=true:=by simpa using h1
       have HH0:=q7 h0
       clear h0 h1
       have haD:=vu HCF.out hbF ha9
       have haS:=q7 haD
       clear haD
       go_wp2_with fail
       refine (Z7 F HCF.out b t1 haS.out g (k*4) (some ⟨b1,0,none⟩) d1 wn TF ((hbn.cell (p:=⟨g,k*4+3,none⟩) heG).trans HC3.out) HTF.out.1 (HBF.out.sl.below qK hbn)).mono ?_
       rintro e wz ⟨rfl,Sz,hSz,haN,hKz⟩
       have hrel:=hau.out wz (jV F b t1) Sz (by unfold kg;rw [ha9]) hSz (fun i hi=>(haN i hi).imp id (fun h=>by have:=hbn.size;omega)) ((Kept.of_below hbn).trans hKz (fun _ _ h=>h))
       have ha6:=q7 hrel
       clear hrel hSz haN hKz
       go_wp2_with fail
       go_roundg (f.blocks.length - (b+1))
       case measure=>omega
       case rel=>exact ⟨b+1,_,by omega,rfl,by go_num,ha6.out.1,ha6.out.2.1,ha6.out.2.2⟩
      have g1:decide (0<lo)=false:=by simpa using h1
      by_cases h2:hi<0
      ·have ha9:jr (qN f) (atF F b).fin=some t1:=by rw [HYa.out,YF HK3.out HVs.out h0 (.inr h2),heI.out.2]
       have hqe:∀w,(binOp .eql 59 (.agg #[.int .i64 lo,.int .i64 hi,.bool true]) (.agg #[.int .i64 0,.int .i64 0,.bool true])).run Tryz.prog w = .ok (.bool false) w:=fun w=>by
        rw [jp]
        simp only [beq_self_eq_true,Bool.and_true]
        congr 2
        simpa using h0
       refine wp_region_quiet_below (by kernel_rfl) (by kernel_rfl) ?_
       repeat (go_big_quiet_step (exact Calls.regrown_of ((qP 0 _).mono fun e w' h=>⟨h.1,by rw [h.2];exact (zI _ _).alloc (zK _) _⟩)))
       refine wpQuiet_nil ?_
       intro wn hwn
       have hbq:Below wv.heap.size wv wn:=by
        obtain ⟨p,rfl⟩:=hwn
        exact below_regrown _ _ _
       clear hwn
       have hbn:Below wo.heap.size wo wn:=hbv.trans (hbq.mono (by have:=hbv.size;omega))
       have hEn:=(hbq.block _ (q8 hEv)).trans hEv
       have hVn:=(hbq.block _ (q8 hV)).trans hV
       have e3:wn.cell? ⟨wo.heap.size,3,none⟩=some (.slice (some ⟨tb,t_,none⟩) y.fin.to.length dt):=(blk hEn).1 3
       have ez:=q8 hEn
       have n0:wn.cell? ⟨wo.heap.size+1+1,0,none⟩=some (.int .i64 lo):=(blk hVn).1 0
       have n1:wn.cell? ⟨wo.heap.size+1+1,1,none⟩=some (.int .i64 hi):=(blk hVn).1 1
       have nz:=q8 hVn
       have tc0:=(hbn.cell (p:=⟨tb,t_,none⟩) htz).trans ht0
       have tc1:=(hbn.cell (p:=⟨tb,t_+1,none⟩) htz).trans ht1
       have tl2:(0:Int)<y.fin.to.length∧(1:Int)<y.fin.to.length:=by rw [hdH.out];omega
       obtain ⟨tl0,tl1⟩:=tl2
       clear hqe hEn hVn
       have g2:decide (hi<0)=true:=by simpa using h2
       have HH0:=q7 h0
       clear h0 h1 h2
       have haD:=vu HCF.out hbF ha9
       have haS:=q7 haD
       clear haD
       go_wp2_with fail
       refine (Z7 F HCF.out b t1 haS.out g (k*4) (some ⟨b1,0,none⟩) d1 wn TF ((hbn.cell (p:=⟨g,k*4+3,none⟩) heG).trans HC3.out) HTF.out.1 (HBF.out.sl.below qK hbn)).mono ?_
       rintro e wz ⟨rfl,Sz,hSz,haN,hKz⟩
       have hrel:=hau.out wz (jV F b t1) Sz (by unfold kg;rw [ha9]) hSz (fun i hi=>(haN i hi).imp id (fun h=>by have:=hbn.size;omega)) ((Kept.of_below hbn).trans hKz (fun _ _ h=>h))
       have ha6:=q7 hrel
       clear hrel hSz haN hKz
       go_wp2_with fail
       go_roundg (f.blocks.length - (b+1))
       case measure=>omega
       case rel=>exact ⟨b+1,_,by omega,rfl,by go_num,ha6.out.1,ha6.out.2.1,ha6.out.2.2⟩
      have ha9:jr (qN f) (atF F b).fin=none:=by rw [HYa.out,gone_2 HK3.out HVs.out h0 (fun g=>g.elim h1 h2)]
      have hqe:∀w,(binOp .eql 59 (.agg #[.int .i64 lo,.int .i64 hi,.bool true]) (.agg #[.int .i64 0,.int .i64 0,.bool true])).run Tryz.prog w = .ok (.bool false) w:=fun w=>by
       rw [jp]
       simp only [beq_self_eq_true,Bool.and_true]
       congr 2
       simpa using h0
      refine wp_region_quiet_below (by kernel_rfl) (by kernel_rfl) ?_
      repeat (go_big_quiet_step (exact Calls.regrown_of ((qP 0 _).mono fun e w' h=>⟨h.1,by rw [h.2];exact (zI _ _).alloc (zK _) _⟩)))
      refine wpQuiet_nil ?_
      intro wn hwn
      have hbq:Below wv.heap.size wv wn:=by
       obtain ⟨p,rfl⟩:=hwn
       exact below_regrown _ _ _
      clear hwn
      have hbn:Below wo.heap.size wo wn:=hbv.trans (hbq.mono (by have:=hbv.size;omega))
      have hEn:=(hbq.block _ (q8 hEv)).trans hEv
      have hVn:=(hbq.block _ (q8 hV)).trans hV
      have e3:wn.cell? ⟨wo.heap.size,3,none⟩=some (.slice (some ⟨tb,t_,none⟩) y.fin.to.length dt):=(blk hEn).1 3
      have ez:=q8 hEn
      have n0:wn.cell? ⟨wo.heap.size+1+1,0,none⟩=some (.int .i64 lo):=(blk hVn).1 0
      have n1:wn.cell? ⟨wo.heap.size+1+1,1,none⟩=some (.int .i64 hi):=(blk hVn).1 1
      have nz:=q8 hVn
      have tc0:=(hbn.cell (p:=⟨tb,t_,none⟩) htz).trans ht0
      have tc1:=(hbn.cell (p:=⟨tb,t_+1,none⟩) htz).trans ht1
      have tl2:(0:Int)<y.fin.to.length∧(1:Int)<y.fin.to.length:=by rw [hdH.out];omega
      obtain ⟨tl0,tl1⟩:=tl2
      clear hqe hEn hVn
      have g2:decide (hi<0)=false:=by simpa using h2
      have haZ:=q7 ha9
      clear h0 h1 h2 ha9
      go_wp2_with fail
      have hrel:=hau.out wn F TF (by unfold kg;rw [haZ.out]) (HBF.out.sl.below qK hbn) (fun i h=>.inl h) (Kept.of_below hbn)
      have ha6:=q7 hrel
      clear hrel
      go_roundg (f.blocks.length - (b+1))
      case measure=>omega
      case rel=>exact ⟨b+1,_,by omega,rfl,by go_num,ha6.out.1,ha6.out.2.1,ha6.out.2.2⟩
  case stop=>
   rintro D c i W _ _ h _
   exact h.elim
end Go.Proofs.YtbnnhmcloecijaaGreatDoor
