/-
  The walk of ArgsRest: it tells true.
-/
import Derived.Test.YtgjjhadbjmcnpaaGreatDoorJLaidW
set_option maxRecDepth 100000
set_option maxHeartbeats 16000000
namespace Go.Proofs.YtgjjhadbjmcnpaaGreatDoor
open Go.RowKit Go.Shelf

theorem arr_all (u:UniL) (gp fp:Option Addr) (gc fc:Nat) (w:World) (hG:SlF w 3 48 (GloR w) (.slice gp u.globals.length gc) u.globals) (hF:SlF w 4 56 (FunR w) (.slice fp u.funcs.length fc) u.funcs) (hw0:Ways w) :
  Calls Tryz.prog 6 #[.agg #[.slice gp u.globals.length gc,.slice fp u.funcs.length fc]] w fun e w'=>e = .returned (.bool true)∧Below w.heap.size w w':=by
 have hF0:SliceAt w 4 (FunR w) fp u.funcs:=by
  obtain ⟨p,c,e,_,_,h⟩:=hF.outC
  cases e
  exact h
 have hgl:u.globals.length*48≤140737488351232:=hG.bdC
 have hfl:u.funcs.length*56≤140737488351232:=hF.bdC
 have HGs:=q8 hG
 have HFs:=q8 hF
 have HW:=q8 hw0
 have HF0:=q8 hF0
 clear hG hF hF0 hw0
 go_enter Tryz.func6,Tryz.ntmps6
 go_wp2_with fail
 obtain ⟨w1,hw1⟩:∃w1,w1=w.alloc (.cells #[.slice gp u.globals.length gc,.slice fp u.funcs.length fc] 25):=⟨_,rfl⟩
 rw [←hw1]
 have hb1:Below w.heap.size w w1:=by rw [hw1];exact bZ
 have hO1:w1.heap[w.heap.size]?=some (.cells #[.slice gp u.globals.length gc,.slice fp u.funcs.length fc] 25 (0,0)):=by rw [hw1];exact qm rfl
 have hz1:w1.heap.size=w.heap.size+1:=by rw [hw1];simp
 have hgm:=SlF.mono HGs.out hb1 (by omega) fun _ _ h=>h.below hb1
 have hfm:=SlF.mono HFs.out hb1 (by omega) fun _ _ h=>h.below hb1
 have HB1:=q8 hb1
 have HO1:=q8 hO1
 clear hw1 hb1 hO1
 refine (ado_any u gp fp gc fc w1 hgm hfm (HW.out.below HB1.out)).mono ?_
 rintro e w2 ⟨h,hb2⟩
 have HB2:=q8 (HB1.out.trans (hb2.mono HB1.out.size))
 have HO2:=q8 ((hb2.block _ (by omega)).trans HO1.out)
 have hz2:=hb2.size
 clear hgm hfm hb2
 rcases h with ⟨c,k,hne,rfl⟩|⟨hc,V,hV,p1,c1,p2,c2,rfl,hgr,hfr⟩
 ·go_wp2_with fail
  refine (XL _).mono ?_
  rintro e w3 ⟨rfl,hb3⟩
  have HB3:Hid (Below w.heap.size w w3):=q8 (HB2.out.trans (Below.trans bZ (hb3.mono (by simp;omega))))
  clear hb3
  go_wp2_with fail
  go_ret
  exact ⟨rfl,HB3.out⟩
 obtain ⟨m,hm,_⟩:=hc.main
 have hpos:0<u.funcs.length:=Nat.lt_of_le_of_lt (Nat.zero_le _) (QF hm)
 have HC:=q8 hc
 have HV:=q8 hV
 have HGr:=q8 hgr
 have HFr:=q8 hfr
 clear hc hm hV hgr hfr
 have hp1:decide (0<(u.funcs.length:Int))=true:=decide_eq_true (by omega)
 go_wp2_with fail
 obtain ⟨W3,hW3⟩:∃W3,W3=(w2.alloc (.cells #[.slice p1 u.globals.length c1,.slice p2 u.funcs.length c2] 25)).alloc (.cells #[.int .i64 0,.int .i64 0] 27):=⟨_,rfl⟩
 rw [←hW3]
 have hz3:W3.heap.size=w2.heap.size+1+1:=by rw [hW3];simp
 have hb3:Below w2.heap.size w2 W3:=by rw [hW3];exact bZ
 have hO3:W3.heap[w2.heap.size]?=some (.cells #[.slice p1 u.globals.length c1,.slice p2 u.funcs.length c2] 25 (0,0)):=by rw [hW3];exact qh (qm rfl)
 have HO4:=q8 ((hb3.block _ (by omega)).trans HO2.out)
 have HB3:=q8 hb3
 have HBw:=q8 (HB2.out.trans (hb3.mono HB2.out.size))
 have HO3:=q8 hO3
 clear hW3 hb3 hO3
 have hgr:=HGr.out.mono HB3.out (by omega) fun _ _ h=>h.below HB3.out
 have hfr:=HFr.out.mono HB3.out (by omega) fun _ _ h=>h.below HB3.out
 have hqE:=q8 hgr
 have hqF:=q8 hfr
 refine (ado_again HV.out p1 p2 c1 c2 W3 hgr hfr (HW.out.below HBw.out)).mono ?_
 rintro e w5 ⟨⟨q1,d1,q2,d2,rfl,hr1,hr2⟩,hb5⟩
 have HR1:=q8 hr1
 have HR2:=q8 hr2
 have HB5:=q8 hb5
 have heI:=q8 (HBw.out.trans (hb5.mono HBw.out.size))
 have hz5:=hb5.size
 have hzw:=heI.out.size
 have hec:=q8 ((hb5.block _ (by omega)).trans HO3.out)
 have v0:w5.cell? ⟨w2.heap.size,0,none⟩=some (.slice p1 u.globals.length c1):=(blk hec.out).1 0
 have v1:w5.cell? ⟨w2.heap.size,1,none⟩=some (.slice p2 u.funcs.length c2):=(blk hec.out).1 1
 have vz:=qd hec.out
 clear hr1 hr2 hb5 hgr hfr
 obtain ⟨W6,hW6⟩:∃W6,W6=(w5.alloc (.cells #[.slice q1 u.globals.length d1,.slice q2 u.funcs.length d2] 25)).alloc (.cells #[.int .i64 0,.int .i64 0] 27):=⟨_,rfl⟩
 have hb6:Below w5.heap.size w5 W6:=by rw [hW6];exact bZ
 have hbV:Below W3.heap.size W3 W6:=HB5.out.trans (hb6.mono HB5.out.size)
 have hVl:=HV.out.len
 have hu:=Ze { globals:=u.globals,funcs:=V } p1 p2 q1 q2 c1 c2 d1 d2 W6 (hqE.out.mono hbV (by omega) fun _ _ h=>h.below hbV) (by rw [hVl];exact hqF.out.mono hbV (by omega) fun _ _ h=>h.below hbV) (HR1.out.mono hb6 (by omega) fun _ _ h=>h.below hb6) (by rw [hVl];exact HR2.out.mono hb6 (by omega) fun _ _ h=>h.below hb6)
 rw [hVl,hW6] at hu
 rw [hW6] at hb6
 have HU:=q8 hu
 have HB6:=q8 hb6
 clear hW6 hb6 hbV hu hVl
 go_wp2_with (go_at_call 15;refine HU.out.mono ?_;rintro e w7 ⟨rfl,hb7⟩;have HB7:Hid (Below w.heap.size w w7):=q8 ((heI.out.trans (HB6.out.mono heI.out.size)).trans (hb7.mono (by simp;omega)));clear hb7)
 go_ret
 exact ⟨rfl,HB7.out⟩
end Go.Proofs.YtgjjhadbjmcnpaaGreatDoor
