/-
  The listed variable code.ways: what the row's condition gives the walks; the door's own he
-/
import Derived.Test.YtecdphhdmjmmnaaGreatDoorTdnB
import Derived.LaidMore
import Derived.OpenShut
import Derived.Stop.Joined
import Derived.LaidHandle
set_option maxRecDepth 100000
set_option maxHeartbeats 16000000
namespace Go.Proofs.YtecdphhdmjmmnaaGreatDoor
open Go.RowKit Go.Shelf

def refU (u:UniL):UniL:={ u with funcs:=u.funcs.mapIdx refT }
theorem VF (u:UniL):(refU u).funcs.length=u.funcs.length:=by simp[refU]
theorem refU_at {u:UniL} {k:Nat} (hk:k<u.funcs.length):(refU u).funcs[k]'(by rw[VF];exact hk)=refT k u.funcs[k]:=by simp[refU]
theorem FunC.refT {nf:Nat} {P:Nat→Int} {f:FunL} {k:Nat} (h:FunC nf P f) (hP:P k=f.params):FunC nf P (refT k f):=by
 unfold Go.Proofs.YtecdphhdmjmmnaaGreatDoor.refT
 split
 ·next hc=>exact(ref_iso h (jn f hc.1)).funC (h.round hP (jn f hc.1) hc.2)
 exact h
theorem refT_do {nf:Nat} {P:Nat→Int} {f:FunL} {k:Nat} (h:FunC nf P f) (hP:P k=f.params):doT (refT k f)=doT (tailF qO k f):=by
 unfold refT tailF
 split
 ·next hc=>exact(ref_iso h (jn f hc.1)).doT (h.round hP (jn f hc.1) hc.2)
 rfl
theorem ChkOk.ref {u:UniL} (h:ChkOk u):chk (refU u)=(0,0)∧ChkOk (refU u):=
 h.same rfl (VF u) fun k hk=>by
  rw[refU_at hk]
  refine⟨?_,?_,(h.funC hk).refT (QL hk)⟩<;>(unfold Go.Proofs.YtecdphhdmjmmnaaGreatDoor.refT;split<;>rfl)
theorem ChkOk.ref_tidy {u:UniL} (h:ChkOk u):xB (refU u)=xB (xW qO u):=by
 have e:(refU u).funcs.map doT=(xW qO u).funcs.map doT:=by
  refine List.ext_getElem (by simp[refU,xW]) fun k h1 h2=>?_
  have hk:k<u.funcs.length:=by simpa[refU]using h1
  rw[List.getElem_map,List.getElem_map,refU_at hk,Vm hk]
  exact refT_do (h.funC hk) (QL hk)
 show UniL.mk _ ((refU u).funcs.map doT)=UniL.mk _ ((xW qO u).funcs.map doT)
 rw[e]
 rfl

theorem tsa_bad (u:UniL) (gp fp:Option Addr) (gc fc:Nat) (w:World) (hgl:u.globals.length*48≤140737488351232) (hG:SliceAt w 3 (GloR w) gp u.globals) (hfl:u.funcs.length*56≤140737488351232) (hF:SliceAt w 4 (FunR w) fp u.funcs) (hw0:Ways w) (h:(chk u).1≠0) :
  Calls Tryz.prog 3 #[.agg #[.slice gp u.globals.length gc,.slice fp u.funcs.length fc]] w fun e w'=>e = .returned (.bool true)∧Below w.heap.size w w':=by
 have HG:=q7 hG
 have HF:=q7 hF
 have HW:=q7 hw0
 have HH:=q7 h
 have hne:((chk u).1 != 0)=true:=by simp[h]
 have hq:∀w,(binOp .eql 27 (.agg #[.int .i64 (chk u).1,.int .i64 (chk u).2]) (.agg #[.int .i64 (chk u).1,.int .i64 (chk u).2])).run Tryz.prog w = .ok (.bool true) w:=fun w=>by rw[Ql];simp
 clear hG hF hw0 h
 go_enter Tryz.func3,Tryz.ntmps3
 go_wp2_with fail
 refine(tld_bad u _ _ _ _ _ hgl (zS HG.out bZ) hfl (xI HF.out bZ) (HW.out.below bZ) HH.out).mono ?_
 rintro e w1 ⟨rfl,hb1⟩
 have HB1:Hid (Below w.heap.size w w1):=Below.trans bZ (hb1.mono (by simp))
 have hc0:=fun o=>(blk (qd hb1 (k:=w.heap.size) (by simp) (qr w _))).1 o
 have hz1:w.heap.size<w1.heap.size:=by have:=hb1.size;simp at this;omega
 have hsC:w.heap.size<w1.heap.size+1:=by omega
 clear hb1
 go_wp2_with fail
 refine(js u _ _ _ _ _ hgl (zS HG.out bZ) hfl (xI HF.out bZ) (HW.out.below bZ)).mono ?_
 rintro e w3 ⟨rfl,hb3⟩
 have HB3:Hid (Below w.heap.size w w3):=Below.trans bZ (hb3.mono (by simp;omega))
 have hV:=qd hb3 (k:=w1.heap.size) (by simp;omega) (qj (qh (w:=w1) (o:=.cells #[.slice none 0 0,.slice none 0 0] 25) rfl))
 have hE:=qd hb3 (k:=w1.heap.size+1) (by simp) (qh (w:=w1.alloc (.cells #[.slice none 0 0,.slice none 0 0] 25)) (o:=.cells #[.int .i64 (chk u).1,.int .i64 (chk u).2] 27) (by simp))
 have v0:w3.cell? ⟨w1.heap.size,0,none⟩=some (.slice none 0 0):=(blk hV).1 0
 have v1:w3.cell? ⟨w1.heap.size,1,none⟩=some (.slice none 0 0):=(blk hV).1 1
 have f0:w3.cell? ⟨w1.heap.size+1,0,none⟩=some (.int .i64 (chk u).1):=(blk hE).1 0
 have f1:w3.cell? ⟨w1.heap.size+1,1,none⟩=some (.int .i64 (chk u).2):=(blk hE).1 1
 have z1:=q9 hV
 have z2:=q9 hE
 have z11:w1.heap.size<w3.heap.size+1:=by omega
 have z12:w1.heap.size+1<w3.heap.size+1:=by omega
 clear hb3 hV hE
 go_wp2_with (go_at_call 11;refine(none_none _).mono ?_;rintro e w4 ⟨rfl,hb4⟩)
 have HB4:Hid (Below w.heap.size w w4):=Below.trans bZ (hb4.mono (by have:=HB3.out.size;simp;omega))
 clear hb4
 go_wp2_with fail
 go_ret
 exact⟨rfl,HB4.out⟩

theorem tsa_ok (u:UniL) (gp fp:Option Addr) (gc fc:Nat) (w:World) (hG:SlF w 3 48 (GloR w) (.slice gp u.globals.length gc) u.globals) (hF:SlF w 4 56 (FunR w) (.slice fp u.funcs.length fc) u.funcs) (hw0:Ways w) (hc:ChkOk u) :
  Calls Tryz.prog 3 #[.agg #[.slice gp u.globals.length gc,.slice fp u.funcs.length fc]] w fun e w'=>e = .returned (.bool true)∧Below w.heap.size w w':=by
 obtain⟨⟨hgl,hG0⟩,hfl,hF0⟩:(u.globals.length*48≤140737488351232∧SliceAt w 3 (GloR w) gp u.globals)∧u.funcs.length*56≤140737488351232∧SliceAt w 4 (FunR w) fp u.funcs:=by
  obtain⟨_,_,e1,_,_,h1⟩:=hG.outC
  obtain⟨_,_,e2,_,_,h2⟩:=hF.outC
  cases e1
  cases e2
  exact⟨⟨hG.bdC,h1⟩,hF.bdC,h2⟩
 obtain⟨m,hm,_⟩:=hc.main
 have hpos:0<u.funcs.length:=Nat.lt_of_le_of_lt (Nat.zero_le _) (Jc hm)
 have hp0:((u.funcs.length:Int) == 0)=false:=beq_eq_false_iff_ne.2 (by omega)
 have hzr:=hc.zero
 have HGs:=q7 hG
 have HFs:=q7 hF
 have HG0:=q7 hG0
 have HF0:=q7 hF0
 have HW:=q7 hw0
 have HC:=q7 hc
 have HZ:=q7 hzr
 clear hG hF hw0 hG0 hF0 hc hzr hm
 go_enter Tryz.func3,Tryz.ntmps3
 go_wp2_with fail
 obtain⟨w1,hw1⟩:∃w1,w1=w.alloc (.cells #[.slice gp u.globals.length gc,.slice fp u.funcs.length fc] 25):=⟨_,rfl⟩
 rw[←hw1]
 have hb1:Below w.heap.size w w1:=by rw[hw1];exact bZ
 have hO1:w1.heap[w.heap.size]?=some (.cells #[.slice gp u.globals.length gc,.slice fp u.funcs.length fc] 25 (0,0)):=by rw[hw1];exact qh rfl
 have hz1:w1.heap.size=w.heap.size+1:=by rw[hw1];simp
 have hgm:=SlF.mono HGs.out hb1 (by omega) fun _ _ h=>h.below hb1
 have hfm:=SlF.mono HFs.out hb1 (by omega) fun _ _ h=>h.below hb1
 have HB1:=q7 hb1
 have HO1:=q7 hO1
 clear hw1 hb1 hO1
 refine(tld_ok u gp fp gc fc w1 hgl hgm hfl hfm (HW.out.below HB1.out) (by rw[HZ.out])).mono ?_
 rintro e w2 ⟨⟨p1,c1,p2,c2,rfl,S0,hS0,_⟩,hb2⟩
 obtain⟨hvg,hvf⟩:=hS0.readT
 have HB2:=q7 (HB1.out.trans (hb2.mono HB1.out.size))
 have hO2:=(hb2.block _ (by omega)).trans HO1.out
 have HO2:=q7 hO2
 have hz2:=hb2.size
 have HVg:=q7 hvg
 have HVf:=q7 hvf
 have u0:w2.cell? ⟨w.heap.size,0,none⟩=some (.slice gp u.globals.length gc):=(blk hO2).1 0
 have u1:w2.cell? ⟨w.heap.size,1,none⟩=some (.slice fp u.funcs.length fc):=(blk hO2).1 1
 have uz:=q9 hO2
 have uz1:w.heap.size<w2.heap.size+1:=by omega
 clear hgm hfm hb2 hO2 hS0 hvg hvf
 go_wp2_with fail
 obtain⟨W3,hW3⟩:∃W3,W3=(w2.alloc (.cells #[.slice p1 u.globals.length c1,.slice p2 u.funcs.length c2] 25)).alloc (.cells #[.int .i64 0,.int .i64 0] 27):=⟨_,rfl⟩
 rw[←hW3]
 have hz3:W3.heap.size=w2.heap.size+1+1:=by rw[hW3];simp
 have hb3:Below w2.heap.size w2 W3:=by rw[hW3];exact bZ
 have HV3:Hid (W3.heap[w2.heap.size]?=some (.cells #[.slice p1 u.globals.length c1,.slice p2 u.funcs.length c2] 25 (0,0))):=q7 (by rw[hW3];exact qj (qh rfl))
 have HT3:Hid (W3.heap[w2.heap.size+1]?=some (.cells #[.int .i64 0,.int .i64 0] 27 (0,0))):=q7 (by rw[hW3];exact qh (by simp))
 have HU3:=q7 ((hb3.block _ uz).trans HO2.out)
 have HB3:=q7 (HB2.out.trans (hb3.mono HB2.out.size))
 have hoJ:=q7 hb3
 clear hW3 hb3 u0 u1 uz uz1
 have hck:=js u gp fp gc fc W3 hgl (zS HG0.out HB3.out) hfl (xI HF0.out HB3.out) (HW.out.below HB3.out)
 rw[HZ.out]at hck
 refine hck.mono ?_
 rintro e w4 ⟨rfl,hb4⟩
 have HB4:=q7 (HB3.out.trans (hb4.mono HB3.out.size))
 have hoK:=q7 (hoJ.out.trans (hb4.mono hoJ.out.size))
 have HU4:=q7 ((hb4.block _ (q9 HU3.out)).trans HU3.out)
 have HV4:=q7 ((hb4.block _ (q9 HV3.out)).trans HV3.out)
 have HT4:=q7 ((hb4.block _ (q9 HT3.out)).trans HT3.out)
 have u0:w4.cell? ⟨w.heap.size,0,none⟩=some (.slice gp u.globals.length gc):=(blk HU4.out).1 0
 have u1:w4.cell? ⟨w.heap.size,1,none⟩=some (.slice fp u.funcs.length fc):=(blk HU4.out).1 1
 have uz:=q9 HU4.out
 have uz1:w.heap.size<w4.heap.size+1:=by omega
 have hz4:=hb4.size
 clear hb4 hck HU3 HV3 HT3 HO2
 go_wp2_with fail
 obtain⟨W5,hW5⟩:∃W5,W5=w4.alloc (.cells #[.int .i64 0,.int .i64 0] 27):=⟨_,rfl⟩
 rw[←hW5]
 have hb5:Below w4.heap.size w4 W5:=by rw[hW5];exact bZ
 have HB5:=q7 (HB4.out.trans (hb5.mono HB4.out.size))
 have hoL:=q7 (hoK.out.trans (hb5.mono hoK.out.size))
 have HV5:=q7 ((hb5.block _ (q9 HV4.out)).trans HV4.out)
 have HT5:=q7 ((hb5.block _ (q9 HT4.out)).trans HT4.out)
 have hz5:=hb5.size
 clear hW5 hb5 u0 u1 uz uz1 HU4 HV4 HT4
 refine(Vz u gp fp gc fc W5 hgl (HGs.out.mono HB5.out (by omega) fun _ _ h=>h.below HB5.out) hfl (HFs.out.mono HB5.out (by omega) fun _ _ h=>h.below HB5.out) (HW.out.below HB5.out) (by rw[HZ.out])).mono ?_
 rintro e w6 ⟨⟨t1,d1,t2,d2,rfl,S,hS,_⟩,hb6⟩
 obtain⟨hr1,hr2⟩:=hS.readT
 have HR1:=q7 hr1
 have HR2:=q7 hr2
 have HB6:=q7 (HB5.out.trans (hb6.mono HB5.out.size))
 have hoM:=q7 (hoL.out.trans (hb6.mono hoL.out.size))
 have HV6:=q7 ((hb6.block _ (q9 HV5.out)).trans HV5.out)
 have HT6:=q7 ((hb6.block _ (q9 HT5.out)).trans HT5.out)
 have hz6:=hb6.size
 clear hS hr1 hr2 hb6 HV5 HT5
 go_wp2_with fail
 obtain⟨W7,hW7⟩:∃W7,W7=(w6.alloc (.cells #[.slice t1 u.globals.length d1,.slice t2 u.funcs.length d2] 25)).alloc (.cells #[.int .i64 0,.int .i64 0] 27):=⟨_,rfl⟩
 rw[←hW7]
 have hb7:Below w6.heap.size w6 W7:=by rw[hW7];exact bZ
 have htl:(xB u).funcs.length=u.funcs.length:=by simp[xB]
 have hct:=HC.out.tidy.2
 have hda:=tdone_any u.globals (xB u).funcs t1 t2 d1 d2 W7 (fun k hk=>⟨hct.funC hk,QL hk⟩) (by rw[htl];exact hpos) (HR1.out.mono hb7 (by omega) fun _ _ h=>h.below hb7) (by rw[htl];exact HR2.out.mono hb7 (by omega) fun _ _ h=>h.below hb7)
 rw[htl]at hda
 have hlr:((xB u).funcs.mapIdx refT).length=u.funcs.length:=by rw[List.length_mapIdx,htl]
 obtain⟨rs,hrs⟩:∃rs,rs=(xB u).funcs.mapIdx refT:=⟨_,rfl⟩
 have hkr:chk { globals:=u.globals,funcs:=rs }=(0,0):=by rw[hrs];exact hct.ref.1
 have hte:xB { globals:=u.globals,funcs:=rs }=xB (xW qO (xB u)):=by rw[hrs];exact hct.ref_tidy
 rw[←hrs]at hda hlr
 have HB7:=q7 (HB6.out.trans (hb7.mono HB6.out.size))
 have hoN:=q7 (hoM.out.trans (hb7.mono hoM.out.size))
 have HV7:=q7 ((hb7.block _ (q9 HV6.out)).trans HV6.out)
 have HT7:=q7 ((hb7.block _ (q9 HT6.out)).trans HT6.out)
 have hkI:Hid (W7.heap[w6.heap.size]?=some (.cells #[.slice t1 u.globals.length d1,.slice t2 u.funcs.length d2] 25 (0,0))):=q7 (by rw[hW7];exact qj (qh rfl))
 have HKr:=q7 hkr
 have HTe:=q7 hte
 have HLr:=q7 hlr
 have HDa:=q7 hda
 have hz7:=hb7.size
 have tt0:W7.cell? ⟨w6.heap.size,0,none⟩=some (.slice t1 u.globals.length d1):=(blk hkI.out).1 0
 have tt1:W7.cell? ⟨w6.heap.size,1,none⟩=some (.slice t2 u.funcs.length d2):=(blk hkI.out).1 1
 have ttz:=q9 hkI.out
 clear hW7 hb7 htl HV6 HT6 HR1 HR2 hct hda hlr hkr hte hrs
 go_wp2_with fail
 refine HDa.out.mono ?_
 rintro e w8 ⟨⟨r1,d3,r2,d4,rfl,hr1,hr2⟩,hb8⟩
 have HB8:=q7 (HB7.out.trans (hb8.mono HB7.out.size))
 have hoO:=q7 (hoN.out.trans (hb8.mono hoN.out.size))
 have HV8:=q7 ((hb8.block _ (q9 HV7.out)).trans HV7.out)
 have HT8:=q7 ((hb8.block _ (q9 HT7.out)).trans HT7.out)
 have hz8:=hb8.size
 have htd:=Vz { globals:=u.globals,funcs:=rs } r1 r2 d3 d4 w8 hgl hr1 (by show rs.length*56≤_;rw[HLr.out];exact hfl) (by show SlF _ _ _ _ (.slice r2 rs.length d4) _;rw[HLr.out];exact hr2) (HW.out.below HB8.out) (by rw[HKr.out])
 dsimp only at htd
 rw[HLr.out]at htd
 have HTd:=q7 htd
 clear htd hr1 hr2 hb8 HV7 HT7 tt0 tt1 ttz
 go_wp2_with fail
 refine HTd.out.mono ?_
 rintro e w11 ⟨⟨q1,e1,q2,e2,rfl,S,hS,_⟩,hbM⟩
 obtain⟨hr1,hr2⟩:=hS.readT
 rw[HTe.out]at hr1 hr2
 have HR3:=q7 hr1
 have HR4:=q7 hr2
 have hoP:=q7 (HB8.out.trans (hbM.mono HB8.out.size))
 have hgF:=q7 (hoO.out.trans (hbM.mono hoO.out.size))
 have hV:=(hbM.block _ (q9 HV8.out)).trans HV8.out
 have hT:=(hbM.block _ (q9 HT8.out)).trans HT8.out
 have hsC:=hbM.size
 have x0:w11.cell? ⟨w2.heap.size,0,none⟩=some (.slice p1 u.globals.length c1):=(blk hV).1 0
 have x1:w11.cell? ⟨w2.heap.size,1,none⟩=some (.slice p2 u.funcs.length c2):=(blk hV).1 1
 have g0:w11.cell? ⟨w2.heap.size+1,0,none⟩=some (.int .i64 0):=(blk hT).1 0
 have g1:w11.cell? ⟨w2.heap.size+1,1,none⟩=some (.int .i64 0):=(blk hT).1 1
 have xz:=q9 hV
 have gz:=q9 hT
 have hsD:=q7 hV
 obtain⟨W12,hhy⟩:∃W12,W12=(w11.alloc (.cells #[.slice q1 u.globals.length e1,.slice q2 u.funcs.length e2] 25)).alloc (.cells #[.int .i64 0,.int .i64 0] 27):=⟨_,rfl⟩
 have hdu:Below w11.heap.size w11 W12:=by rw[hhy];exact bZ
 have hbY:Below w2.heap.size w2 W12:=hgF.out.trans (hdu.mono hgF.out.size)
 have hxl:(xB (xW qO (xB u))).funcs.length=u.funcs.length:=by simp[xB,xW]
 have hu:=Kl (xB (xW qO (xB u))) p1 p2 q1 q2 c1 c2 e1 e2 W12 (HVg.out.mono hbY (by omega) fun _ _ h=>h.below hbY) (by rw[hxl];exact HVf.out.mono hbY (by omega) fun _ _ h=>h.below hbY) (HR3.out.mono hdu (by omega) fun _ _ h=>h.below hdu) (by rw[hxl];exact HR4.out.mono hdu (by omega) fun _ _ h=>h.below hdu)
 rw[show(xB (xW qO (xB u))).globals.length=u.globals.length from rfl,hxl,hhy]at hu
 rw[hhy]at hdu
 have HU:=q7 hu
 have het:=q7 hdu
 clear hhy hdu hbY hxl hu hr1 hr2 hS hbM hV hT
 have hp1:decide ((u.funcs.length:Int) > 0)=true:=decide_eq_true (by omega)
 have hq:∀w,(binOp .eql 27 (.agg #[.int .i64 0,.int .i64 0]) (.agg #[.int .i64 0,.int .i64 0])).run Tryz.prog w = .ok (.bool true) w:=fun w=>by rw[Ql];simp
 go_wp2_with (go_at_call 14;refine HU.out.mono ?_;rintro e w13 ⟨rfl,hkJ⟩;have hx:=(hkJ.block w2.heap.size (by simp;omega)).trans ((het.out.block _ xz).trans hsD.out);have y0:=(blk hx).1 0;have y1:w13.cell? ⟨w2.heap.size,1,none⟩=some (.slice p2 u.funcs.length c2):=(blk hx).1 1;have yz:=q9 hx;have hsE:Hid (Below w.heap.size w w13):=q7 ((hoP.out.trans (het.out.mono hoP.out.size)).trans (hkJ.mono (by simp;omega)));clear hkJ)
 go_ret
 exact⟨rfl,hsE.out⟩
theorem tsa_all (u:UniL) (gp fp:Option Addr) (gc fc:Nat) (w:World) (hG:SlF w 3 48 (GloR w) (.slice gp u.globals.length gc) u.globals) (hF:SlF w 4 56 (FunR w) (.slice fp u.funcs.length fc) u.funcs) (hw0:Ways w) :
  Calls Tryz.prog 3 #[.agg #[.slice gp u.globals.length gc,.slice fp u.funcs.length fc]] w fun e w'=>e = .returned (.bool true)∧Below w.heap.size w w':=by
 by_cases h:(chk u).1=0
 ·exact tsa_ok u gp fp gc fc w hG hF hw0 (ki h).2
 obtain⟨_,_,e1,_,_,h1⟩:=hG.outC
 obtain⟨_,_,e2,_,_,h2⟩:=hF.outC
 cases e1
 cases e2
 exact tsa_bad u gp fp gc fc w hG.bdC h1 hF.bdC h2 hw0 h
end Go.Proofs.YtecdphhdmjmmnaaGreatDoor
namespace Go.Proofs.YtecdphhdmjmmnaaGreatDoor
open Go.ChangeShapes Go.WideShapes Go.ChangeAt Go.RowKit

def kJ:List (String×DataW Unit):=Rows.tailSaysRow.laid
def nameWays : String := (Rows.tailSaysRow.laid.map (·.1)).headD ""
theorem gWays:Tryz.prog.globalNamed nameWays=some 0:=by kernel_rfl
theorem tWays:(Tryz.prog.globals[0]?).map (·.type)=some 135:=by kernel_rfl
theorem own:ownKnob Tryz.prog.godebug=none:=by kernel_rfl
theorem laidOut:laidOutB Tryz.prog=true:=by kernel_rfl
theorem door_ways (os:Os) (args:Array Value):laidMetH Tryz.prog kJ ((World.doorLaid Tryz.prog 400 os).forCall (fun _ _=>0) ⟨#[],args,[]⟩).memory:=
 laidMetH_of_parts3 (fuel:=8) (laidMet_of_run' 8 (by kernel_rfl) (by kernel_rfl)) (by kernel_rfl) (by kernel_rfl)

theorem Jh {W:World} (h:laidMetH Tryz.prog kJ W):Ways W:=by
 rw[MakeChecks.laidMetH_plain _ _ _ (by kernel_rfl)]at h
 obtain⟨ps,⟨g1,t1,cs1,f1,p1,q1,hg1,ht1,hv1,hd1,_,_⟩,_,_⟩:=h
 obtain rfl:=Option.some.inj (gWays.symm.trans hg1)
 obtain rfl:=Option.some.inj (tWays.symm.trans ht1)
 obtain⟨xs,m1,rfl,hx1,hlen,hn4,hel⟩:=DataW.trod_array Tryz.underlying135 hd1
 have c3:Tryz.prog.cellsOf 3=1:=by kernel_rfl
 have c4:Tryz.prog.cellsOf 135=4:=by kernel_rfl
 rw[c4]at hlen
 obtain⟨l1⟩:=cs1
 obtain⟨a0,a1,a2,a3,rfl⟩:=VH (show l1.length=4 from hlen)
 obtain⟨x0,x1,x2,x3,rfl⟩:=VH hn4
 simp only[Rows.laid_turnery_code_ways,List.map_cons,List.map_nil,Prod.mk.injEq,DataW.agg.injEq,List.cons.injEq]at hx1
 rw[c3]at hel
 have hv:=World.var?_cell hg1 hv1
 have one:∀(i:Nat) (a:Value) (x:DataW Unit×List MemPlace) (n:Int),DataW.trod (fun _=>()) Tryz.prog W 0 (fun _=>true) false m1 3 [a]=some x→DataW.lit (.int .i64 n)=x.1→a = .int .i64 n:=fun i a x n h e=>by
  obtain⟨k,e1,e2,_⟩:=DataW.trod_int Tryz.underlying3 (show DataW.trod _ Tryz.prog W 0 _ false m1 3 _=some x from h)
  rw[e2]at e
  simp at e e1
  rw[e1,e]
 obtain⟨⟨e0,e1,e2,e3,_⟩,_⟩:=hx1
 obtain rfl:=one 0 a0 x0 0 (hel 0 (by decide)) e0
 obtain rfl:=one 1 a1 x1 0 (hel 1 (by decide)) e1
 obtain rfl:=one 2 a2 x2 1 (hel 2 (by decide)) e2
 obtain rfl:=one 3 a3 x3 2 (hel 3 (by decide)) e3
 exact⟨by simpa using hv 0,by simpa using hv 1,by simpa using hv 2,by simpa using hv 3⟩
end Go.Proofs.YtecdphhdmjmmnaaGreatDoor
