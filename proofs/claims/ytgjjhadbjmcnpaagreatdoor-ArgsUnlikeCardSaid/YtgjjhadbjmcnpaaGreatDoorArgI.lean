/-
  The contract of args.always: the number that a parameter always is.
-/
import Derived.Test.YtgjjhadbjmcnpaaGreatDoorArgC
set_option maxRecDepth 100000
set_option maxHeartbeats 16000000
namespace Go.Proofs.YtgjjhadbjmcnpaaGreatDoor
open Go.RowKit Go.Shelf Go.Sort
attribute [local go_sem] Oper.semAt_some

theorem all_len (f:FunL):(f.blocks.flatMap fun b:BlkL=>b.list).length=(zX (ql f) f.blocks.length).length:=by
 have h:=Jr f f.blocks.length (Nat.le_refl _)
 rwa [List.take_length] at h
theorem ZP {B b:Nat} {o:Obj} (hb:b<B) {W W':World} {row:Option Nat} (hg:W.grownBy W' row) (hr:∀r,row=some r→B≤r∧∃o,W.heap[r]?=some o∧o.isCells=false) (h:W.heap[b]?=some o):W'.heap[b]?=some o:=
 (hg.block b (qd h) (fun e=>by have:=(hr b e.symm).1;omega)).trans h

theorem VT (U g c k p:Nat) (xs:List FunL) (w:World) (S:Blks) (hU:w.cell? ⟨U,1,none⟩=some (.slice (some ⟨g,0,none⟩) xs.length c)) (hS:SlO 38 4 FunO w (.slice (some ⟨g,0,none⟩) xs.length c) xs S) (hn:xs.length≤140737488355328)
  (h0:∀f∈xs,0<f.blocks.length) (hcall:∀f∈xs,∀b∈f.blocks,∀x∈b.list,x.op=20→x.fn=(k:Int)→p<x.args.length) :
  Calls Tryz.prog 20 #[.pointer (some ⟨U,0,none⟩),.int .i64 k,.int .i64 p] w fun e w'=>e = .returned (.tuple #[.int .i64 ((kK k p xs).getD 0),.bool (kK k p xs).isSome])∧Below w.heap.size w w':=by
 have zU:=q9 hU
 have HS:=q8 hS
 have hbh:=q8 hcall
 have H0:=q8 h0
 have HU:=q8 hU
 clear hS hcall h0 hU
 refine (callsIn_wide (n:=3)).1 ?_
 refine callsIn_of_wp_marks Tryz.func20 rfl trivial ?_ rfl
 simp only [Tryz.ntmps20,List.size_toArray,List.length_cons,List.length_nil,Nat.reduceAdd,Nat.reduceSub,Array.replicate_succ,Array.replicate_zero,List.push_toArray,List.append_toArray,List.nil_append,List.cons_append]
 refine wpIn_wide.2 ?_
 obtain ⟨w2,hw2⟩:∃w2,w2=(((((w.alloc (.cells #[.int .i64 k] 3)).alloc (.cells #[.int .i64 p] 3)).alloc (.cells #[.int .i64 0] 3)).alloc (.cells #[.bool false] 4)).alloc (.cells #[.bool false] 4)).alloc (.cells #[.int .i64 0] 3):=⟨_,rfl⟩
 have hb2:Below w.heap.size w w2:=by rw [hw2];exact bZ
 have hU2:w2.cell? ⟨U,1,none⟩=some (.slice (some ⟨g,0,none⟩) xs.length c):=(hb2.cell (p:=⟨U,1,none⟩) zU).trans HU.out
 have zU2:=q9 hU2
 have hz2:w2.heap.size=w.heap.size+1+1+1+1+1+1:=by rw [hw2];simp
 have hc0:w2.heap[w.heap.size]?=some (.cells #[.int .i64 k] 3 (0,0)):=by rw [hw2];exact qh (qh (qh (qh (qh (qx w _)))))
 have hc1:w2.heap[w.heap.size+1]?=some (.cells #[.int .i64 p] 3 (0,0)):=by rw [hw2];exact qh (qh (qh (qh (qq (by simp)))))
 have hc2:w2.heap[w.heap.size+1+1]?=some (.cells #[.int .i64 0] 3 (0,0)):=by rw [hw2];exact qh (qh (qh (qq (by simp))))
 have hc3:w2.heap[w.heap.size+1+1+1]?=some (.cells #[.bool false] 4 (0,0)):=by rw [hw2];exact qh (qh (qq (by simp)))
 have hc4:w2.heap[w.heap.size+1+1+1+1]?=some (.cells #[.bool false] 4 (0,0)):=by rw [hw2];exact qh (qq (by simp))
 have hc5:w2.heap[w.heap.size+1+1+1+1+1]?=some (.cells #[.int .i64 0] 3 (0,0)):=by rw [hw2];exact qq (by simp)
 have HZ2:=q8 hz2
 have HB2:=q8 hb2
 have HC0:=q8 hc0
 have HC1:=q8 hc1
 have HC2:=q8 hc2
 have HC3:=q8 hc3
 have HC4:=q8 hc4
 have HC5:=q8 hc5
 rw [hw2] at hU2 zU2
 clear hz2 hb2 hc0 hc1 hc2 hc3 hc4 hc5
 have HW2:=q8 hw2
 clear hw2
 go_wp2_with fail
 rw [←HW2.out] at hU2 zU2 ⊢
 have HU2:=q8 hU2
 clear hU2 zU2
 refine (wpIn_wide (n:=3)).1 ?_
 refine wpIn_loop (fun a' w'=>∃(cc:Nat) (Ds:List Nat),(cc≤xs.length∧Ds.Nodup∧(∀D∈Ds,w2.heap.size≤D∧w'.heap[D]?=some (.deferred (some [])))∧(∃h:Option Int,jd k p xs cc 0=some h∧w'.heap[w.heap.size+1+1+1+1]?=some (.cells #[.bool h.isSome] 4 (0,0))∧w'.heap[w.heap.size+1+1+1+1+1]?=some (.cells #[.int .i64 (h.getD 0)] 3 (0,0)))∧Kept (fun b=>b=w.heap.size+1+1+1+1∨b=w.heap.size+1+1+1+1+1) w2 w')∧a'.defers=QY Ds∧a'.tmps.size=65∧a'.tmps.getD 0 undef = .pointer (some ⟨U,0,none⟩)∧a'.tmps.getD 4 undef = .pointer (some ⟨w.heap.size,0,none⟩)∧a'.tmps.getD 5 undef = .pointer (some ⟨w.heap.size+1,0,none⟩)∧a'.tmps.getD 6 undef = .pointer (some ⟨w.heap.size+1+1,0,none⟩)∧a'.tmps.getD 7 undef = .pointer (some ⟨w.heap.size+1+1+1,0,none⟩)∧a'.tmps.getD 8 undef = .pointer (some ⟨w.heap.size+1+1+1+1,0,none⟩)∧a'.tmps.getD 9 undef = .pointer (some ⟨w.heap.size+1+1+1+1+1,0,none⟩)∧a'.tmps.getD 17 undef = .int .i64 xs.length∧a'.tmps.getD 18 undef = .int .i64 cc) (fun a' _=>xs.length - (intOf (a'.tmps.getD 18 undef)).toNat) ?start ?round
 case start=>
  exact ⟨0,[],⟨Nat.zero_le _,List.nodup_nil,fun D h=>(by cases h),⟨none,VN _ _ _,HC4.out,HC5.out⟩,Kept.refl _ _⟩,rfl,rfl,rfl,rfl,rfl,rfl,rfl,rfl,rfl,rfl,rfl⟩
 case round=>
  rintro ⟨ts,ds⟩ wk ⟨cc,Ds,⟨hcc,hN,hD,⟨h,hst,hH,hNn⟩,hK⟩,hdf,hfs,hf0,hf4,hf5,hf6,hf7,hf8,hf9,hiF,hiG⟩
  simp only at hdf hfs hf0 hf4 hf5 hf6 hf7 hf8 hf9 hiF hiG
  subst hdf
  obtain ⟨us,hus⟩:∃us:Nat→Value,us=fun i=>ts.getD i undef:=⟨_,rfl⟩
  have hts:ts=((.pointer (some ⟨U,0,none⟩))::(us 1)::(us 2)::(us 3)::(.pointer (some ⟨w.heap.size,0,none⟩))::(.pointer (some ⟨w.heap.size+1,0,none⟩))::(.pointer (some ⟨w.heap.size+1+1,0,none⟩))::(.pointer (some ⟨w.heap.size+1+1+1,0,none⟩))::(.pointer (some ⟨w.heap.size+1+1+1+1,0,none⟩))::(.pointer (some ⟨w.heap.size+1+1+1+1+1,0,none⟩))::(us 10)::(us 11)::(us 12)::(us 13)::(us 14)::(us 15)::(us 16)::(.int .i64 xs.length)::(.int .i64 cc)::(us 19)::(us 20)::(us 21)::(us 22)::(us 23)::(us 24)::(us 25)::(us 26)::(us 27)::(us 28)::(us 29)::(us 30)::(us 31)::(us 32)::(us 33)::(us 34)::(us 35)::(us 36)::(us 37)::(us 38)::(us 39)::(us 40)::(us 41)::(us 42)::(us 43)::(us 44)::(us 45)::(us 46)::(us 47)::(us 48)::(us 49)::(us 50)::(us 51)::(us 52)::(us 53)::(us 54)::(us 55)::(us 56)::(us 57)::(us 58)::(us 59)::(us 60)::(us 61)::(us 62)::(us 63)::(us 64)::[]).toArray:=by
   have hfr:=xJ hfs
   rw [←hus] at hfr
   have h0:us 0 = .pointer (some ⟨U,0,none⟩):=by rw [hus];exact hf0
   have h4:us 4 = .pointer (some ⟨w.heap.size,0,none⟩):=by rw [hus];exact hf4
   have h5:us 5 = .pointer (some ⟨w.heap.size+1,0,none⟩):=by rw [hus];exact hf5
   have h6:us 6 = .pointer (some ⟨w.heap.size+1+1,0,none⟩):=by rw [hus];exact hf6
   have h7:us 7 = .pointer (some ⟨w.heap.size+1+1+1,0,none⟩):=by rw [hus];exact hf7
   have h8:us 8 = .pointer (some ⟨w.heap.size+1+1+1+1,0,none⟩):=by rw [hus];exact hf8
   have h9:us 9 = .pointer (some ⟨w.heap.size+1+1+1+1+1,0,none⟩):=by rw [hus];exact hf9
   have h17:us 17 = .int .i64 xs.length:=by rw [hus];exact hiF
   have h18:us 18 = .int .i64 cc:=by rw [hus];exact hiG
   refine hfr.trans ?_
   show ((us 0)::(us 1)::(us 2)::(us 3)::(us 4)::(us 5)::(us 6)::(us 7)::(us 8)::(us 9)::(us 10)::(us 11)::(us 12)::(us 13)::(us 14)::(us 15)::(us 16)::(us 17)::(us 18)::(us 19)::(us 20)::(us 21)::(us 22)::(us 23)::(us 24)::(us 25)::(us 26)::(us 27)::(us 28)::(us 29)::(us 30)::(us 31)::(us 32)::(us 33)::(us 34)::(us 35)::(us 36)::(us 37)::(us 38)::(us 39)::(us 40)::(us 41)::(us 42)::(us 43)::(us 44)::(us 45)::(us 46)::(us 47)::(us 48)::(us 49)::(us 50)::(us 51)::(us 52)::(us 53)::(us 54)::(us 55)::(us 56)::(us 57)::(us 58)::(us 59)::(us 60)::(us 61)::(us 62)::(us 63)::(us 64)::[]).toArray=_
   rw [h0,h4,h5,h6,h7,h8,h9,h17,h18]
  clear hus hfs hf0 hf4 hf5 hf6 hf7 hf8 hf9 hiF hiG
  subst hts
  have HN:=q8 hN
  have HD:=q8 hD
  have HK:=q8 hK
  have HSt:=q8 hst
  have HHd:=q8 hH
  have HNn:=q8 hNn
  have hKb:Below w.heap.size w2 wk:=hK.below HB2.out.size fun b h=>h.elim (fun e=>by omega) (fun e=>by omega)
  have HBk:=q8 (HB2.out.trans hKb)
  have cU:wk.cell? ⟨U,1,none⟩=some (.slice (some ⟨g,0,none⟩) xs.length c):=(HBk.out.cell (p:=⟨U,1,none⟩) zU).trans HU.out
  have zUk:=q9 cU
  have HCk:=q8 ((hK.block _ (qd HC0.out) (fun h=>h.elim (fun e=>by omega) (fun e=>by omega))).trans HC0.out)
  have HPk:=q8 ((hK.block _ (qd HC1.out) (fun h=>h.elim (fun e=>by omega) (fun e=>by omega))).trans HC1.out)
  have HR1:=q8 ((hK.block _ (qd HC2.out) (fun h=>h.elim (fun e=>by omega) (fun e=>by omega))).trans HC2.out)
  have HR2:=q8 ((hK.block _ (qd HC3.out) (fun h=>h.elim (fun e=>by omega) (fun e=>by omega))).trans HC3.out)
  have hzk:=hK.size
  clear hN hD hK hst hH hNn hKb
  refine wpIn_wide.2 ?_
  by_cases hlt:cc<xs.length
  rotate_left
  ·obtain rfl:cc=xs.length:=by omega
   have hal:kK k p xs=h:=by
    have e:=HSt.out
    rw [alwTo_all] at e
    unfold kK
    rw [e]
    rfl
   have HAl:=q8 hal
   clear hal
   go_wp2_with fail
   have hSp:(fun W':World=>W'.cell? ⟨w.heap.size+1+1+1+1,0,none⟩=some (.bool h.isSome)∧W'.cell? ⟨w.heap.size+1+1+1+1+1,0,none⟩=some (.int .i64 (h.getD 0))) wk.drew:=⟨(blk HHd.out).1 0,(blk HNn.out).1 0⟩
   refine qz (S:=(fun W':World=>W'.cell? ⟨w.heap.size+1+1+1+1,0,none⟩=some (.bool h.isSome)∧W'.cell? ⟨w.heap.size+1+1+1+1+1,0,none⟩=some (.int .i64 (h.getD 0)))) (by kernel_rfl) 3 ?_
   have zH:w.heap.size+1+1+1+1<wk.drew.heap.size:=qd HHd.out
   have zN:w.heap.size+1+1+1+1+1<wk.drew.heap.size:=qd HNn.out
   refine qD 0 63 (.int .i64 (h.getD 0)) rfl rfl hSp (fun W' hS'=>by obtain ⟨h1,h2⟩:=hS';go_simp) ?_
   refine qD 1 64 (.bool h.isSome) rfl rfl hSp (fun W' hS'=>by obtain ⟨h1,h2⟩:=hS';go_simp) ?_
   have r1:=(blk HR1.out).2
   have r1c:wk.drew.cell? ⟨w.heap.size+1+1,0,none⟩=some (.int .i64 0):=(blk HR1.out).1 0
   have r1z:w.heap.size+1+1<wk.drew.heap.size:=qd HR1.out
   have hkZ:(fun W':World=>W'.cell? ⟨w.heap.size+1+1+1+1,0,none⟩=some (.bool h.isSome)∧W'.cell? ⟨w.heap.size+1+1+1+1+1,0,none⟩=some (.int .i64 (h.getD 0))) (wk.drew.setCell ⟨w.heap.size+1+1,0,none⟩ (.int .i64 (h.getD 0))):=⟨(World.cell?_of_block (a:=⟨w.heap.size+1+1+1+1,0,none⟩) (Go.Deep.blk_setCell_other _ _ _ _ (by show w.heap.size+1+1+1+1≠w.heap.size+1+1;omega))).trans hSp.1,(World.cell?_of_block (a:=⟨w.heap.size+1+1+1+1+1,0,none⟩) (Go.Deep.blk_setCell_other _ _ _ _ (by show w.heap.size+1+1+1+1+1≠w.heap.size+1+1;omega))).trans hSp.2⟩
   refine qm (i:=2) (by kernel_rfl) (qt (wk.drew.setCell ⟨w.heap.size+1+1,0,none⟩ (.int .i64 (h.getD 0))) rfl rfl rfl (by go_simp) (fun _=>hkZ) ?_)
   have hR3:(wk.drew.setCell ⟨w.heap.size+1+1,0,none⟩ (.int .i64 (h.getD 0))).heap[w.heap.size+1+1+1]?=some (.cells #[.bool false] 4 (0,0)):=(Go.Deep.blk_setCell_other _ _ _ _ (by show w.heap.size+1+1+1≠w.heap.size+1+1;omega)).trans HR2.out
   have r3:=(blk hR3).2
   have r3c:(wk.drew.setCell ⟨w.heap.size+1+1,0,none⟩ (.int .i64 (h.getD 0))).cell? ⟨w.heap.size+1+1+1,0,none⟩=some (.bool false):=(blk hR3).1 0
   have r3z:w.heap.size+1+1+1<(wk.drew.setCell ⟨w.heap.size+1+1,0,none⟩ (.int .i64 (h.getD 0))).heap.size:=qd hR3
   have hF1:(wk.drew.setCell ⟨w.heap.size+1+1,0,none⟩ (.int .i64 (h.getD 0))).heap[w.heap.size+1+1]?=some (.cells #[.int .i64 (h.getD 0)] 3 (0,0)):=qj HR1.out 0 _
   obtain ⟨wa,hwa⟩:∃wa,wa=wk.drew.setCell ⟨w.heap.size+1+1,0,none⟩ (.int .i64 (h.getD 0)):=⟨_,rfl⟩
   have hKa:Kept (fun b=>b=w.heap.size+1+1) wk wa:=by rw [hwa];exact ((Kept.refl (fun b=>b=w.heap.size+1+1) wk).drew).setCell (p:=⟨w.heap.size+1+1,0,none⟩) rfl _
   rw [←hwa] at hR3 r3 r3c r3z hF1 ⊢
   clear hwa
   refine qm (i:=3) (by kernel_rfl) (qt (wa.setCell ⟨w.heap.size+1+1+1,0,none⟩ (.bool h.isSome)) rfl rfl rfl (by go_simp) (fun h=>absurd rfl h) ?_)
   have hF2:(wa.setCell ⟨w.heap.size+1+1+1,0,none⟩ (.bool h.isSome)).heap[w.heap.size+1+1+1]?=some (.cells #[.bool h.isSome] 4 (0,0)):=qj hR3 0 _
   have hF3:(wa.setCell ⟨w.heap.size+1+1+1,0,none⟩ (.bool h.isSome)).heap[w.heap.size+1+1]?=some (.cells #[.int .i64 (h.getD 0)] 3 (0,0)):=(Go.Deep.blk_setCell_other _ _ _ _ (by show w.heap.size+1+1≠w.heap.size+1+1+1;omega)).trans hF1
   have hKf:Kept (fun b=>b=w.heap.size+1+1∨b=w.heap.size+1+1+1∨b=w.heap.size+1+1+1+1∨b=w.heap.size+1+1+1+1+1) wk (wa.setCell ⟨w.heap.size+1+1+1,0,none⟩ (.bool h.isSome)):=(hKa.mono (fun _ _ h=>.inl h)).trans ((Kept.refl (fun b=>b=w.heap.size+1+1+1) wa).setCell (p:=⟨w.heap.size+1+1+1,0,none⟩) rfl _) (fun _ _ h=>.inr (.inl h))
   refine ⟨by kernel_rfl,?_⟩
   unfold calm
   dsimp only [Act.put]
   obtain ⟨wb,hwb⟩:∃wb,wb=wa.setCell ⟨w.heap.size+1+1+1,0,none⟩ (.bool h.isSome):=⟨_,rfl⟩
   rw [←hwb] at hF2 hF3 hKf ⊢
   have HF2:=q8 hF2
   have HF3:=q8 hF3
   have HKf:=q8 hKf
   clear hSp hkZ r1 r1c r1z hR3 r3 r3c r3z hF1 hKa hwb hF2 hF3 hKf zH zN
   go_wp2_with fail
   show LeavesInM _ _ _ _ _ _ (QY Ds) .returning _
   have hBf:Below w.heap.size w wb:=HBk.out.trans (HKf.out.below HBk.out.size fun b h=>by rcases h with h|h|h|h<;>omega)
   have hnm:∀E,E∈Ds→w2.heap.size≤E∧wb.heap[E]?=some (.deferred (some [])):=fun E hE=>by
    obtain ⟨d1,d2⟩:=HD.out E hE
    exact ⟨d1,(HKf.out.block _ (qd d2) (fun h=>by have:=HZ2.out;rcases h with h|h|h|h<;>omega)).trans d2⟩
   refine zS w2.heap.size Ds wb HN.out hnm (fun w' h1 h2 h3 h4 h5=>?_)
   have hne:∀b,b<w2.heap.size→b∉Ds:=fun b hb h=>by have:=(hnm b h).1;omega
   have q1:w'.cell? ⟨w.heap.size+1+1,0,none⟩=some (.int .i64 (h.getD 0)):=(blk ((h5 _ (hne _ (by have:=HZ2.out;omega))).trans HF3.out)).1 0
   have q2:w'.cell? ⟨w.heap.size+1+1+1,0,none⟩=some (.bool h.isSome):=(blk ((h5 _ (hne _ (by have:=HZ2.out;omega))).trans HF2.out)).1 0
   refine ⟨.tuple #[.int .i64 (h.getD 0),.bool h.isSome],?_,by rw [HAl.out],?_⟩
   ·simp [results,Tryz.results20,go_sem,q1,q2]
   exact ⟨h1.trans hBf.os,h2.trans hBf.tape,h3.trans hBf.output,Nat.le_trans hBf.size h4,fun b hb=>(h5 b (hne b (by have:=HZ2.out;omega))).trans (hBf.block b hb)⟩
  have c0:(0:Int)≤(cc:Int):=by omega
  have c1:(cc:Int)<xs.length:=by omega
  obtain ⟨g2,c2,csf,Tf,hvf,hgz,hiC,hdK,hFf,hiD,hfI,ham,hbE,⟨curf,haQ⟩,_⟩:=HS.out.focus qV (by omega) hlt
  obtain rfl:g=g2:=by injection hvf with a;injection a with a;injection a
  obtain ⟨f,hf⟩:∃f,f=xs[cc]:=⟨_,rfl⟩
  rw [←hf] at hFf
  have hgood:0<f.blocks.length∧∀b∈f.blocks,∀x∈b.list,x.op=20→x.fn=(k:Int)→p<x.args.length:=by
   rw [hf]
   exact ⟨H0.out _ (List.getElem_mem hlt),hbh.out _ (List.getElem_mem hlt)⟩
  have hlists:=hFf.lists hgood.1
  obtain ⟨vb,hbO,hnm,hi1,hi2,hBf⟩:=hFf
  obtain ⟨bb,cb,hcs2,haD,hbl,hbP⟩:=hlists
  have hvb:vb = .slice (some ⟨bb,0,none⟩) f.blocks.length cb:=by
   rw [hbO] at hcs2
   simpa using hcs2
  subst hvb
  subst hbO
  have hcN:=HS.out.inb bb (hfI bb haD)
  have e3:w.cell? ⟨g,cc*4+3,none⟩=some (.slice (some ⟨bb,0,none⟩) f.blocks.length cb):=ham 3 (by omega)
  have hsr:SliceAt w 6 (BlkR w) (some ⟨bb,0,none⟩) f.blocks:=by
   obtain ⟨p',c',e,_,_,h⟩:=hBf.sl.read (R':=BlkR w) qU (by omega) fun _ _ _ h=>h.read
   cases e
   exact h
  have HSr:=q8 hsr
  have HLs:=q8 hbP
  have HF:=q8 hf
  have hdR:=q8 hgood.2
  clear hvf hiC hdK hiD hfI ham hbE haQ hcs2 haD hnm hi1 hi2 hBf hbP hsr hf hgood
  go_wp2_with fail
  refine (Qe (some ⟨g,cc*4,none⟩) wk).mono ?_
  rintro e W0 ⟨rfl,hW0⟩
  have hb1:Below wk.heap.size wk W0:=by rw [hW0];exact bZ
  have HZ0:Hid (W0.heap.size=wk.heap.size+1):=q8 (by rw [hW0];simp)
  have hx0:W0.cell? ⟨wk.heap.size,0,none⟩=some (.pointer (some ⟨g,cc*4,none⟩)):=by rw [hW0];exact (blk (qx wk _)).1 0
  have HBW:=q8 (HBk.out.trans (hb1.mono HBk.out.size))
  have hbQ:EachSh wk.heap.size g (cc*4) (some ⟨bb,0,none⟩) f.blocks.length cb (lqW w bb) (ql f) (lcW w bb) W0:=by
   refine ⟨hx0,?_,fun mm hmm=>⟨bb,0,rfl,?_⟩⟩
   ·exact (HBW.out.cell (p:=⟨g,cc*4+3,none⟩) hgz).trans e3
   rw [Nat.zero_add,HBW.out.cell (p:=⟨bb,mm*6+1,none⟩) hcN]
   exact (HLs.out mm hmm).1
  have HSH:=q8 hbQ
  have HB1:=q8 hb1
  clear hb1 hx0 hbQ hW0
  go_wp2_with fail
  refine (wpIn_wide (n:=3)).1 ?_
  refine xR rfl (by omega) (gf:=74) (lb:=#[.pointer (some ⟨wk.heap.size,0,none⟩)]) rfl trivial (enters_of Tryz.func74 (by kernel_rfl) rfl)
   (ZC Fence.wide 2 trivial rfl (by omega) wk.heap.size g (cc*4) cb f.blocks.length (some ⟨bb,0,none⟩) (lqW w bb) (lpW w bb) (ql f) (lcW w bb) W0 hbl (fun mm hmm=>(HLs.out mm hmm).2.1) (fun mm hmm h0=>(HLs.out mm hmm).2.2 h0) HSH.out) (fun h k x=>k (h x)) (fun W l o o' _ hl ho _ h=>h.putObj o' hl ho) (Below.refl _ _) (fun i _=>rfl)
   (fun i W=>(∃h:Option Int,jd k p xs cc i=some h∧W.heap[w.heap.size+1+1+1+1]?=some (.cells #[.bool h.isSome] 4 (0,0))∧W.heap[w.heap.size+1+1+1+1+1]?=some (.cells #[.int .i64 (h.getD 0)] 3 (0,0)))∧EachSh wk.heap.size g (cc*4) (some ⟨bb,0,none⟩) f.blocks.length cb (lqW w bb) (ql f) (lcW w bb) W∧Kept (fun b=>b=w.heap.size+1+1+1+1∨b=w.heap.size+1+1+1+1+1) W0 W) (fun ct i W=>ct = .ret∧jd k p xs cc (i+1)=none∧W.heap[w.heap.size+1+1]?=some (.cells #[.int .i64 0] 3 (0,0))∧W.heap[w.heap.size+1+1+1]?=some (.cells #[.bool false] 4 (0,0))∧Kept (fun b=>b=w.heap.size+1+1∨b=w.heap.size+1+1+1∨b=w.heap.size+1+1+1+1∨b=w.heap.size+1+1+1+1+1) W0 W)
   (fun s W W' row ⟨⟨h,a1,a2,a3⟩,hsh,hk⟩ hg hr=>⟨⟨h,a1,ZP (by have:=HZ0.out;have:=HZ2.out;omega) hg hr a2,ZP (by have:=HZ0.out;have:=HZ2.out;omega) hg hr a3⟩,own_sh s W W' row hsh hg hr,vB (Nat.le_refl _) s W W' row hk hg hr⟩)
   (fun ct s W W' row ⟨a1,a2,a3,a4,hk⟩ hg hr=>⟨a1,a2,ZP (by have:=HZ0.out;have:=HZ2.out;omega) hg hr a3,ZP (by have:=HZ0.out;have:=HZ2.out;omega) hg hr a4,vB (Nat.le_refl _) s W W' row hk hg hr⟩)
   ⟨⟨h,HSt.out,(HB1.out.block _ (qd HHd.out)).trans HHd.out,(HB1.out.block _ (qd HNn.out)).trans HNn.out⟩,HSH.out,Kept.refl _ _⟩
   (fun i=>{ tmps:=((.pointer (some ⟨U,0,none⟩))::(us 1)::(us 2)::(us 3)::(.pointer (some ⟨w.heap.size,0,none⟩))::(.pointer (some ⟨w.heap.size+1,0,none⟩))::(.pointer (some ⟨w.heap.size+1+1,0,none⟩))::(.pointer (some ⟨w.heap.size+1+1+1,0,none⟩))::(.pointer (some ⟨w.heap.size+1+1+1+1,0,none⟩))::(.pointer (some ⟨w.heap.size+1+1+1+1+1,0,none⟩))::(.int .i64 cc)::((j9 (lpW w bb) (ql f) f.blocks.length i))::(us 12)::(us 13)::(us 14)::(us 15)::(us 16)::(.int .i64 xs.length)::(.int .i64 cc)::(.bool true)::(.int .i64 cc)::(.pointer (some ⟨U,0,none⟩))::(.pointer (some ⟨U,0,none⟩))::(.pointer (some ⟨U,1,none⟩))::(.slice (some ⟨g,0,none⟩) xs.length c)::(.int .i64 cc)::(.pointer (some ⟨g,cc*4,none⟩))::(.func (.func 74) #[] #[.pointer (some ⟨wk.heap.size,0,none⟩)])::((j9 (lpW w bb) (ql f) f.blocks.length i))::(us 29)::(us 30)::(us 31)::(us 32)::(us 33)::(us 34)::(us 35)::(us 36)::(us 37)::(us 38)::(us 39)::(us 40)::(us 41)::(us 42)::(us 43)::(us 44)::(us 45)::(us 46)::(us 47)::(us 48)::(us 49)::(us 50)::(us 51)::(us 52)::(us 53)::(us 54)::(us 55)::(us 56)::(us 57)::(us 58)::(us 59)::(us 60)::(us 61)::(us 62)::(us 63)::(us 64)::[]).toArray,defers:=[] }) ?assign ?body ?done ?stop
  case assign=>
   intro l i W K hi hK
   unfold Qx
   gi_wp2
   exact hK
  case body=>
   rintro l i W hl hi ⟨⟨h,hst,hHd,hNn⟩,hSh,hKp⟩
   obtain ⟨m',j,hm',hj,rfl⟩:=vA hi
   have hj2:j<f.blocks[m'].list.length:=by rw [←zM hm'];exact hj
   have hKw:Kept (fun b=>b=w.heap.size+1+1+1+1∨b=w.heap.size+1+1+1+1+1) wk W:=(Kept.of_below HB1.out).trans hKp fun _ _ h=>h
   have hbw:Below w.heap.size w W:=HBk.out.trans (hKw.below HBk.out.size fun b h=>by rcases h with h|h<;>omega)
   obtain ⟨b2,o2,q1,e1,q2,e2,q3,e3',hp2,_,b1,_,_,_,_,_,_,_,_,_,_,hls,_⟩:=jH HSr.out hbw hm'
   obtain ⟨rfl,rfl⟩:bb=b2∧o2=0:=by cases hp2;exact ⟨rfl,rfl⟩
   have hq2:q2=some ⟨(lpW w bb m').1,(lpW w bb m').2,none⟩:=by
    have h1:=(HLs.out m' hm').1
    rw [←hbw.cell (p:=⟨bb,m'*6+1,none⟩) hcN] at h1
    rw [Nat.zero_add] at b1
    rw [h1] at b1
    have h2:lqW w bb m'=q2:=by simpa using congrArg (fun v=>match v with|some (Value.slice p _ _)=>p|_=>none) b1
    rw [←h2]
    exact (HLs.out m' hm').2.2 (by omega)
   obtain ⟨lb,lo,qa,ca,hp3,y0,y1,y2,y3,y4,y5,y6,y7,i0,i1,i2,i3,i4,hal,has⟩:=Xa hls (Below.refl _ _) hj2
   have hpt:j9 (lpW w bb) (ql f) f.blocks.length ((zX (ql f) m').length+j) = .pointer (some ⟨lb,lo+j*8,none⟩):=by
    rw [jX hm' hj]
    rw [hq2] at hp3
    injection hp3 with h2
    injection h2 with h3 h4
    rw [h3,h4]
   rw [hpt]
   obtain ⟨x,hx⟩:∃x,x=f.blocks[m'].list[j]:=⟨_,rfl⟩
   rw [←hx] at y0 y1 y2 y3 y4 y5 y6 y7 hal has
   have hnext:jd k p xs cc ((zX (ql f) m').length+j+1)=Xm k p (some h) x:=by
    have hm2:m'<xs[cc].blocks.length:=by rw [←HF.out];exact hm'
    have hj3:j<(xs[cc].blocks[m']'hm2).list.length:=by simp only [←HF.out];exact hj2
    have e:=VO (k:=k) (p:=p) hlt hm2 hj3
    simp only [←HF.out] at e
    rw [e,hst,hx]
   have hlen:x.op=20→x.fn=(k:Int)→p<x.args.length:=hdR.out _ (List.getElem_mem hm') x (by rw [hx];exact List.getElem_mem hj2)
   have hCc:=(hKw.block _ (qd HCk.out) (fun h=>by rcases h with h|h<;>omega)).trans HCk.out
   have hPc:=(hKw.block _ (qd HPk.out) (fun h=>by rcases h with h|h<;>omega)).trans HPk.out
   have hR1:=(hKw.block _ (qd HR1.out) (fun h=>by rcases h with h|h<;>omega)).trans HR1.out
   have hR2:=(hKw.block _ (qd HR2.out) (fun h=>by rcases h with h|h<;>omega)).trans HR2.out
   have lbz:=q9 y0
   have yK:W.cell? ⟨w.heap.size,0,none⟩=some (.int .i64 k):=(blk hCc).1 0
   have zK:=qd hCc
   have z0:∀d os,(grow (redrawn W d) os).cell? ⟨lb,lo+j*8,none⟩=some (.int .i64 x.op):=cell_regrown y0
   have z6:∀d os,(grow (redrawn W d) os).cell? ⟨lb,lo+j*8+6,none⟩=some (.int .i64 x.fn):=cell_regrown y6
   have zk:∀d os,(grow (redrawn W d) os).cell? ⟨w.heap.size,0,none⟩=some (.int .i64 k):=cell_regrown yK
   have haE:Xm k p (some h) x=some h→∀Wq,Below W.heap.size W Wq→xQ W0.heap.size (fun W W'=>EachSh wk.heap.size g (cc*4) (some ⟨bb,0,none⟩) f.blocks.length cb (lqW w bb) (ql f) (lcW w bb) W→EachSh wk.heap.size g (cc*4) (some ⟨bb,0,none⟩) f.blocks.length cb (lqW w bb) (ql f) (lcW w bb) W') (fun i W=>(∃h:Option Int,jd k p xs cc i=some h∧W.heap[w.heap.size+1+1+1+1]?=some (.cells #[.bool h.isSome] 4 (0,0))∧W.heap[w.heap.size+1+1+1+1+1]?=some (.cells #[.int .i64 (h.getD 0)] 3 (0,0)))∧EachSh wk.heap.size g (cc*4) (some ⟨bb,0,none⟩) f.blocks.length cb (lqW w bb) (ql f) (lcW w bb) W∧Kept (fun b=>b=w.heap.size+1+1+1+1∨b=w.heap.size+1+1+1+1+1) W0 W) (fun ct i W=>ct = .ret∧jd k p xs cc (i+1)=none∧W.heap[w.heap.size+1+1]?=some (.cells #[.int .i64 0] 3 (0,0))∧W.heap[w.heap.size+1+1+1]?=some (.cells #[.bool false] 4 (0,0))∧Kept (fun b=>b=w.heap.size+1+1∨b=w.heap.size+1+1+1∨b=w.heap.size+1+1+1+1∨b=w.heap.size+1+1+1+1+1) W0 W) ((zX (ql f) m').length+j) W .normal Wq:=fun h1 Wq hb=>by
    refine ⟨⟨hb.size,fun q o _ hq _=>(hb.block q (qd hq)).trans hq⟩,fun h=>h.below hb,⟨h,hnext.trans h1,(hb.block _ (qd hHd)).trans hHd,(hb.block _ (qd hNn)).trans hNn⟩,hSh.below hb,hKp.trans (Kept.of_below hb) (fun _ _ h=>h)⟩
   have haT:=q8 haE
   have hfL:=q8 hnext
   have HSh:=q8 hSh
   have HKp:=q8 hKp
   have hiH:=q8 hHd
   have hl6:=q8 hNn
   have HPc:=q8 hPc
   have hl7:=q8 hR1
   have hl9:=q8 hR2
   have HAs:=q8 has
   have hbW0:W0.heap.size≤W.heap.size:=hKp.size
   clear hst hHd hNn hSh hKp hKw hbw hp2 hq2 hp3 hpt hx hnext hCc hPc hR1 hR2 has hls haE b1 y1 y2 y3 y4 y5
   by_cases hop:x.op=20
   rotate_left
   ·have q20:(x.op != 20)=true:=by simp [hop]
    have hid:Xm k p (some h) x=some h:=by
     show (if x.op=20∧x.fn=(k:Int) then _ else some h)=_
     rw [if_neg fun h=>hop h.1]
    clear hlen hop
    gi_wp2
    refine qJ (by kernel_rfl) (by kernel_rfl) (fun ⟨_,_,h⟩=>h.2) (by kernel_rfl) ?_
    repeat go_big_quiet_step (fail)
    refine wpQuiet_nil ?_
    intro Wq hWq
    have hbq:Below W.heap.size W Wq:=by
     obtain ⟨p,rfl⟩:=hWq
     exact below_regrown _ _ _
    clear hWq
    gi_wp2
    exact haT.out hid Wq hbq
   have q20:(x.op != 20)=false:=by simp [hop]
   by_cases hfn:x.fn=(k:Int)
   rotate_left
   ·have qk:(x.fn != (k:Int))=true:=by simp [hfn]
    have hid:Xm k p (some h) x=some h:=by
     show (if x.op=20∧x.fn=(k:Int) then _ else some h)=_
     rw [if_neg fun h=>hfn h.2]
    clear hlen hop hfn
    gi_wp2
    refine qJ (by kernel_rfl) (by kernel_rfl) (fun ⟨_,_,h⟩=>h.2) (by kernel_rfl) ?_
    repeat go_big_quiet_step (fail)
    refine wpQuiet_nil ?_
    intro Wq hWq
    have hbq:Below W.heap.size W Wq:=by
     obtain ⟨p,rfl⟩:=hWq
     exact below_regrown _ _ _
    clear hWq
    gi_wp2
    exact haT.out hid Wq hbq
   have qk:(x.fn != (k:Int))=false:=by simp [hfn]
   have hpl:=hlen hop hfn
   have HOp:=q8 (And.intro hop hfn)
   clear hlen hop hfn
   gi_wp2
   refine qJ (by kernel_rfl) (by kernel_rfl) (fun ⟨_,_,h⟩=>h.2) (by kernel_rfl) ?_
   repeat go_big_quiet_step (fail)
   refine wpQuiet_nil ?_
   intro Wq hWq
   have hbq:Below W.heap.size W Wq:=by
    obtain ⟨p,rfl⟩:=hWq
    exact below_regrown _ _ _
   clear hWq
   have y7q:=(hbq.cell (p:=⟨lb,lo+j*8+7,none⟩) lbz).trans y7
   have yP:Wq.cell? ⟨w.heap.size+1,0,none⟩=some (.int .i64 p):=(blk ((hbq.block _ (qd HPc.out)).trans HPc.out)).1 0
   obtain ⟨la,ao,hqa,v0,v1,hv64⟩:=Ql HAs.out hbq hpl
   obtain ⟨vr,hvr⟩:∃vr,vr=x.args[p].1:=⟨_,rfl⟩
   obtain ⟨vn,hvn⟩:∃vn,vn=x.args[p].2:=⟨_,rfl⟩
   have hgd:x.args.getD p (false,0)=(vr,vn):=by rw [hvr,hvn];simp [List.getD,hpl]
   rw [←hvr] at v0
   rw [←hvn] at v1
   rw [hqa] at y7q
   have hres:Xm k p (some h) x=(if vr=true∨(h.isSome=true∧h≠some vn) then none else some (some vn)):=by
    show (if x.op=20∧x.fn=(k:Int) then _ else some h)=_
    rw [if_pos HOp.out]
    simp only [hgd]
   have hhv:=q8 hres
   have hlx:p<x.args.length:=hpl
   have zla:=q9 v0
   have zlb:=q9 y7q
   have zP:=q9 yP
   clear hres hgd hvr hvn hqa
   gi_wp2
   refine qR (S:=(fun W':World=>W'.cell? ⟨lb,lo+j*8+7,none⟩=some (.slice (some ⟨la,ao,none⟩) x.args.length ca)∧W'.cell? ⟨w.heap.size+1,0,none⟩=some (.int .i64 p)∧W'.cell? ⟨la,ao+p*2,none⟩=some (.bool vr)∧W'.cell? ⟨la,ao+p*2+1,none⟩=some (.int .i64 vn))) (by kernel_rfl) (fun ⟨_,_,h⟩=>h.2) (by kernel_rfl) 8 ?_
   have hSp:(fun W':World=>W'.cell? ⟨lb,lo+j*8+7,none⟩=some (.slice (some ⟨la,ao,none⟩) x.args.length ca)∧W'.cell? ⟨w.heap.size+1,0,none⟩=some (.int .i64 p)∧W'.cell? ⟨la,ao+p*2,none⟩=some (.bool vr)∧W'.cell? ⟨la,ao+p*2+1,none⟩=some (.int .i64 vn)) Wq.drew:=⟨y7q,yP,v0,v1⟩
   refine qD 0 42 (.pointer (some ⟨lb,lo+j*8,none⟩)) rfl rfl hSp (fun W' hS'=>by obtain ⟨h1,h2,h3,h4⟩:=hS';go_simp) ?_
   refine qD 1 43 (.pointer (some ⟨lb,lo+j*8,none⟩)) rfl rfl hSp (fun W' hS'=>by obtain ⟨h1,h2,h3,h4⟩:=hS';go_simp) ?_
   refine qD 2 44 (.pointer (some ⟨lb,lo+j*8+7,none⟩)) rfl rfl hSp (fun W' hS'=>by obtain ⟨h1,h2,h3,h4⟩:=hS';go_simp) ?_
   refine qD 3 45 (.slice (some ⟨la,ao,none⟩) x.args.length ca) rfl rfl hSp (fun W' hS'=>by obtain ⟨h1,h2,h3,h4⟩:=hS';go_simp) ?_
   refine qD 4 46 (.int .i64 p) rfl rfl hSp (fun W' hS'=>by obtain ⟨h1,h2,h3,h4⟩:=hS';go_simp) ?_
   refine qD 5 47 (.pointer (some ⟨la,ao+p*2,none⟩)) rfl rfl hSp (fun W' hS'=>by obtain ⟨h1,h2,h3,h4⟩:=hS';go_simp) ?_
   refine qD 6 48 (.agg #[.bool vr,.int .i64 vn]) rfl rfl hSp (fun W' hS'=>by obtain ⟨h1,h2,h3,h4⟩:=hS';go_simp) ?_
   have hSa:(fun W':World=>W'.cell? ⟨lb,lo+j*8+7,none⟩=some (.slice (some ⟨la,ao,none⟩) x.args.length ca)∧W'.cell? ⟨w.heap.size+1,0,none⟩=some (.int .i64 p)∧W'.cell? ⟨la,ao+p*2,none⟩=some (.bool vr)∧W'.cell? ⟨la,ao+p*2+1,none⟩=some (.int .i64 vn)) (Wq.drew.alloc (.cells #[.bool false,.int .i64 0] 44)):=by
    obtain ⟨h1,h2,h3,h4⟩:=hSp
    have hb:Below Wq.drew.heap.size Wq.drew (Wq.drew.alloc (.cells #[.bool false,.int .i64 0] 44)):=by exact bZ
    exact ⟨(hb.cell (q9 h1)).trans h1,(hb.cell (q9 h2)).trans h2,(hb.cell (q9 h3)).trans h3,(hb.cell (q9 h4)).trans h4⟩
   refine qm (i:=7) (by kernel_rfl) (qC 12 (.pointer (some ⟨Wq.drew.heap.size,0,none⟩)) (Wq.drew.alloc (.cells #[.bool false,.int .i64 0] 44)) rfl rfl rfl (by go_simp) hSa ?_)
   have hE:=qx Wq.drew (.cells #[.bool false,.int .i64 0] 44)
   have hba:Below Wq.heap.size Wq (Wq.drew.alloc (.cells #[.bool false,.int .i64 0] 44)):=by
    have:Below Wq.drew.heap.size Wq.drew (Wq.drew.alloc (.cells #[.bool false,.int .i64 0] 44)):=by exact bZ
    exact ⟨this.os,this.tape,this.output,this.size,this.block⟩
   have hze:Wq.drew.heap.size=Wq.heap.size:=rfl
   rw [hze] at hE ⊢
   obtain ⟨wa,hwa⟩:∃wa,wa=Wq.drew.alloc (.cells #[.bool false,.int .i64 0] 44):=⟨_,rfl⟩
   rw [←hwa] at hE hba ⊢
   clear hwa hSa hSp
   obtain ⟨ka,fa⟩:=blk hE
   have k0:=ka 0
   have k1:=ka 1
   have zE:=qd hE
   clear ka
   refine qm (i:=8) (by kernel_rfl) (qt ((wa.setCell ⟨Wq.heap.size,0,none⟩ (.bool vr)).setCell ⟨Wq.heap.size,1,none⟩ (.int .i64 vn)) rfl rfl rfl (by go_simp) (fun h=>absurd rfl h) ?_)
   have hV:((wa.setCell ⟨Wq.heap.size,0,none⟩ (.bool vr)).setCell ⟨Wq.heap.size,1,none⟩ (.int .i64 vn)).heap[Wq.heap.size]?=some (.cells #[.bool vr,.int .i64 vn] 44 (0,0)):=qj (qj hE 0 _) 1 _
   have hbv:Below Wq.heap.size Wq ((wa.setCell ⟨Wq.heap.size,0,none⟩ (.bool vr)).setCell ⟨Wq.heap.size,1,none⟩ (.int .i64 vn)):=(hba.setCell (p:=⟨Wq.heap.size,0,none⟩) (Nat.le_refl _) _).setCell (p:=⟨Wq.heap.size,1,none⟩) (Nat.le_refl _) _
   refine ⟨by kernel_rfl,?_⟩
   obtain ⟨wv,hwv⟩:∃wv,wv=(wa.setCell ⟨Wq.heap.size,0,none⟩ (.bool vr)).setCell ⟨Wq.heap.size,1,none⟩ (.int .i64 vn):=⟨_,rfl⟩
   rw [←hwv] at hV hbv ⊢
   clear hwv hE hba k0 k1 zE fa
   have hbz:Below W.heap.size W wv:=hbq.trans (hbv.mono hbq.size)
   have hHv:=(hbz.block _ (qd hiH.out)).trans hiH.out
   have hNv:=(hbz.block _ (qd hl6.out)).trans hl6.out
   have hfM:=(hbz.block _ (qd hl7.out)).trans hl7.out
   have hfN:=(hbz.block _ (qd hl9.out)).trans hl9.out
   have hKv:Kept (fun b=>b=w.heap.size+1+1+1+1∨b=w.heap.size+1+1+1+1+1) W0 wv:=HKp.out.trans (Kept.of_below hbz) (fun _ _ h=>h)
   have hlu:=HSh.out.below hbz
   have HKv:=q8 hKv
   have HHv:=q8 hHv
   have HNv:=q8 hNv
   have hoE:=q8 hfM
   have hoF:=q8 hfN
   have hoG:=q8 hlu
   have HBz:=q8 hbz
   have e0:wv.cell? ⟨Wq.heap.size,0,none⟩=some (.bool vr):=(blk hV).1 0
   have e1:wv.cell? ⟨Wq.heap.size,1,none⟩=some (.int .i64 vn):=(blk hV).1 1
   have eH:wv.cell? ⟨w.heap.size+1+1+1+1,0,none⟩=some (.bool h.isSome):=(blk hHv).1 0
   have eN:wv.cell? ⟨w.heap.size+1+1+1+1+1,0,none⟩=some (.int .i64 (h.getD 0)):=(blk hNv).1 0
   have eR1:wv.cell? ⟨w.heap.size+1+1,0,none⟩=some (.int .i64 0):=(blk hfM).1 0
   have eR2:wv.cell? ⟨w.heap.size+1+1+1,0,none⟩=some (.bool false):=(blk hfN).1 0
   have zH:=qd hHv
   have zN:=qd hNv
   have zR1:=qd hfM
   have zR2:=qd hfN
   have fH:=(blk hHv).2
   have fN:=(blk hNv).2
   have fR1:=(blk hfM).2
   have fR2:=(blk hfN).2
   have zV:=qd hV
   clear hHv hNv hfM hfN hlu hKv hbz hV hbv
   have hnb:∀b:Nat,b<w.heap.size→b≠w.heap.size+1+1+1+1∧b≠w.heap.size+1+1+1+1+1:=fun b h=>⟨by omega,by omega⟩
   have hfO:Xm k p (some h) x=none→xQ W0.heap.size (fun W W'=>EachSh wk.heap.size g (cc*4) (some ⟨bb,0,none⟩) f.blocks.length cb (lqW w bb) (ql f) (lcW w bb) W→EachSh wk.heap.size g (cc*4) (some ⟨bb,0,none⟩) f.blocks.length cb (lqW w bb) (ql f) (lcW w bb) W') (fun i W=>(∃h:Option Int,jd k p xs cc i=some h∧W.heap[w.heap.size+1+1+1+1]?=some (.cells #[.bool h.isSome] 4 (0,0))∧W.heap[w.heap.size+1+1+1+1+1]?=some (.cells #[.int .i64 (h.getD 0)] 3 (0,0)))∧EachSh wk.heap.size g (cc*4) (some ⟨bb,0,none⟩) f.blocks.length cb (lqW w bb) (ql f) (lcW w bb) W∧Kept (fun b=>b=w.heap.size+1+1+1+1∨b=w.heap.size+1+1+1+1+1) W0 W) (fun ct i W=>ct = .ret∧jd k p xs cc (i+1)=none∧W.heap[w.heap.size+1+1]?=some (.cells #[.int .i64 0] 3 (0,0))∧W.heap[w.heap.size+1+1+1]?=some (.cells #[.bool false] 4 (0,0))∧Kept (fun b=>b=w.heap.size+1+1∨b=w.heap.size+1+1+1∨b=w.heap.size+1+1+1+1∨b=w.heap.size+1+1+1+1+1) W0 W) ((zX (ql f) m').length+j) W .ret ((wv.setCell ⟨w.heap.size+1+1,0,none⟩ (.int .i64 0)).setCell ⟨w.heap.size+1+1+1,0,none⟩ (.bool false)):=fun h1=>by
    have hK1:Kept (fun b=>b=w.heap.size+1+1∨b=w.heap.size+1+1+1∨b=w.heap.size+1+1+1+1∨b=w.heap.size+1+1+1+1+1) W0 ((wv.setCell ⟨w.heap.size+1+1,0,none⟩ (.int .i64 0)).setCell ⟨w.heap.size+1+1+1,0,none⟩ (.bool false)):=((HKv.out.mono fun _ _ h=>.inr (.inr h)).setCell (p:=⟨w.heap.size+1+1,0,none⟩) (.inl rfl) _).setCell (p:=⟨w.heap.size+1+1+1,0,none⟩) (.inr (.inl rfl)) _
    have hK2:Kept (fun b=>b=w.heap.size+1+1∨b=w.heap.size+1+1+1∨b=w.heap.size+1+1+1+1∨b=w.heap.size+1+1+1+1+1) W ((wv.setCell ⟨w.heap.size+1+1,0,none⟩ (.int .i64 0)).setCell ⟨w.heap.size+1+1+1,0,none⟩ (.bool false)):=((Kept.of_below HBz.out).setCell (p:=⟨w.heap.size+1+1,0,none⟩) (.inl rfl) _).setCell (p:=⟨w.heap.size+1+1+1,0,none⟩) (.inr (.inl rfl)) _
    refine ⟨⟨hK2.size,fun q o hq0 hq _=>(hK2.block q (qd hq) (fun e=>by have:=HZ0.out;have:=HZ2.out;rcases e with e|e|e|e<;>omega)).trans hq⟩,rfl,hfL.out.trans h1,?_,?_,hK1⟩
    ·exact (Go.Deep.blk_setCell_other _ _ _ _ (by show w.heap.size+1+1≠w.heap.size+1+1+1;omega)).trans (qj hoE.out 0 (.int .i64 0))
    exact qj ((Go.Deep.blk_setCell_other _ _ _ _ (by show w.heap.size+1+1+1≠w.heap.size+1+1;omega)).trans hoF.out) 0 (.bool false)
   have hset:Xm k p (some h) x=some (some vn)→xQ W0.heap.size (fun W W'=>EachSh wk.heap.size g (cc*4) (some ⟨bb,0,none⟩) f.blocks.length cb (lqW w bb) (ql f) (lcW w bb) W→EachSh wk.heap.size g (cc*4) (some ⟨bb,0,none⟩) f.blocks.length cb (lqW w bb) (ql f) (lcW w bb) W') (fun i W=>(∃h:Option Int,jd k p xs cc i=some h∧W.heap[w.heap.size+1+1+1+1]?=some (.cells #[.bool h.isSome] 4 (0,0))∧W.heap[w.heap.size+1+1+1+1+1]?=some (.cells #[.int .i64 (h.getD 0)] 3 (0,0)))∧EachSh wk.heap.size g (cc*4) (some ⟨bb,0,none⟩) f.blocks.length cb (lqW w bb) (ql f) (lcW w bb) W∧Kept (fun b=>b=w.heap.size+1+1+1+1∨b=w.heap.size+1+1+1+1+1) W0 W) (fun ct i W=>ct = .ret∧jd k p xs cc (i+1)=none∧W.heap[w.heap.size+1+1]?=some (.cells #[.int .i64 0] 3 (0,0))∧W.heap[w.heap.size+1+1+1]?=some (.cells #[.bool false] 4 (0,0))∧Kept (fun b=>b=w.heap.size+1+1∨b=w.heap.size+1+1+1∨b=w.heap.size+1+1+1+1∨b=w.heap.size+1+1+1+1+1) W0 W) ((zX (ql f) m').length+j) W .normal ((wv.drew.setCell ⟨w.heap.size+1+1+1+1,0,none⟩ (.bool true)).setCell ⟨w.heap.size+1+1+1+1+1,0,none⟩ (.int .i64 vn)):=fun h1=>by
    have hK1:Kept (fun b=>b=w.heap.size+1+1+1+1∨b=w.heap.size+1+1+1+1+1) W0 ((wv.drew.setCell ⟨w.heap.size+1+1+1+1,0,none⟩ (.bool true)).setCell ⟨w.heap.size+1+1+1+1+1,0,none⟩ (.int .i64 vn)):=(HKv.out.drew.setCell (p:=⟨w.heap.size+1+1+1+1,0,none⟩) (.inl rfl) _).setCell (p:=⟨w.heap.size+1+1+1+1+1,0,none⟩) (.inr rfl) _
    have hK2:Kept (fun b=>b=w.heap.size+1+1+1+1∨b=w.heap.size+1+1+1+1+1) W ((wv.drew.setCell ⟨w.heap.size+1+1+1+1,0,none⟩ (.bool true)).setCell ⟨w.heap.size+1+1+1+1+1,0,none⟩ (.int .i64 vn)):=((Kept.of_below HBz.out).drew.setCell (p:=⟨w.heap.size+1+1+1+1,0,none⟩) (.inl rfl) _).setCell (p:=⟨w.heap.size+1+1+1+1+1,0,none⟩) (.inr rfl) _
    have hKq:Kept (fun b=>b=w.heap.size+1+1+1+1∨b=w.heap.size+1+1+1+1+1) wv ((wv.drew.setCell ⟨w.heap.size+1+1+1+1,0,none⟩ (.bool true)).setCell ⟨w.heap.size+1+1+1+1+1,0,none⟩ (.int .i64 vn)):=((Kept.refl _ _).drew.setCell (p:=⟨w.heap.size+1+1+1+1,0,none⟩) (.inl rfl) _).setCell (p:=⟨w.heap.size+1+1+1+1+1,0,none⟩) (.inr rfl) _
    have hsh:∀W',Kept (fun b=>b=w.heap.size+1+1+1+1∨b=w.heap.size+1+1+1+1+1) W' ((wv.drew.setCell ⟨w.heap.size+1+1+1+1,0,none⟩ (.bool true)).setCell ⟨w.heap.size+1+1+1+1+1,0,none⟩ (.int .i64 vn))→EachSh wk.heap.size g (cc*4) (some ⟨bb,0,none⟩) f.blocks.length cb (lqW w bb) (ql f) (lcW w bb) W'→EachSh wk.heap.size g (cc*4) (some ⟨bb,0,none⟩) f.blocks.length cb (lqW w bb) (ql f) (lcW w bb) ((wv.drew.setCell ⟨w.heap.size+1+1+1+1,0,none⟩ (.bool true)).setCell ⟨w.heap.size+1+1+1+1+1,0,none⟩ (.int .i64 vn)):=fun W' hk hs=>hs.other fun b o v hc hb=>(World.cell?_of_block (a:=⟨b,o,none⟩) (hk.block b (q9 hc) (fun e=>by
     have:=HZ2.out
     rcases hb with rfl|rfl|⟨o,ho⟩
     ·rcases e with e|e<;>omega
     ·rcases e with e|e<;>omega
     injection ho with ho
     injection ho with ho
     rcases e with e|e<;>omega))).trans hc
    refine ⟨⟨hK2.size,fun q o hq0 hq _=>(hK2.block q (qd hq) (fun e=>by have:=HZ0.out;have:=HZ2.out;rcases e with e|e<;>omega)).trans hq⟩,hsh W hK2,⟨some vn,hfL.out.trans h1,?_,?_⟩,hsh wv hKq hoG.out,hK1⟩
    ·exact (Go.Deep.blk_setCell_other _ _ _ _ (by show w.heap.size+1+1+1+1≠w.heap.size+1+1+1+1+1;omega)).trans (qj HHv.out 0 (.bool true))
    exact qj ((Go.Deep.blk_setCell_other _ _ _ _ (by show w.heap.size+1+1+1+1+1≠w.heap.size+1+1+1+1;omega)).trans HNv.out) 0 (.int .i64 vn)
   have hfP:=q8 hfO
   have hew:=q8 hset
   have HE1:Hid ((wv.drew.setCell ⟨w.heap.size+1+1+1+1,0,none⟩ (.bool true)).cell? ⟨Wq.heap.size,1,none⟩=some (.int .i64 vn)):=q8 ((World.cell?_of_block (a:=⟨Wq.heap.size,1,none⟩) (Go.Deep.blk_setCell_other _ _ _ _ (by show Wq.heap.size≠w.heap.size+1+1+1+1;have:=qd hiH.out;have:=hbq.size;omega))).trans e1)
   have HEN:Hid ((wv.drew.setCell ⟨w.heap.size+1+1+1+1,0,none⟩ (.bool true)).cell? ⟨w.heap.size+1+1+1+1+1,0,none⟩=some (.int .i64 (h.getD 0))):=q8 ((World.cell?_of_block (a:=⟨w.heap.size+1+1+1+1+1,0,none⟩) (Go.Deep.blk_setCell_other _ _ _ _ (by show w.heap.size+1+1+1+1+1≠w.heap.size+1+1+1+1;omega))).trans eN)
   have HFN:=q8 (blk ((Go.Deep.blk_setCell_other wv.drew ⟨w.heap.size+1+1+1+1,0,none⟩ (.bool true) _ (by show w.heap.size+1+1+1+1+1≠w.heap.size+1+1+1+1;omega)).trans HNv.out)).2
   clear hfO hset hnb
   cases vr with
   | true=>
    gi_wp2
    exact hfP.out (by rw [hhv.out];simp)
   | false=>
    cases h with
    | none=>
     have hq:=q8 (hhv.out.trans (by simp:_=some (some vn)))
     gi_wp2
     have hSp:(fun W':World=>W'.cell? ⟨Wq.heap.size,1,none⟩=some (.int .i64 vn)) wv.drew:=e1
     refine qR (S:=(fun W':World=>W'.cell? ⟨Wq.heap.size,1,none⟩=some (.int .i64 vn))) (by kernel_rfl) (fun ⟨_,_,h⟩=>h.2) (by kernel_rfl) 3 ?_
     refine qD 0 60 (.pointer (some ⟨Wq.heap.size,1,none⟩)) rfl rfl hSp (fun W' hS'=>by go_simp) ?_
     refine qD 1 61 (.int .i64 vn) rfl rfl hSp (fun W' hS'=>by go_simp) ?_
     have eHd:wv.drew.cell? ⟨w.heap.size+1+1+1+1,0,none⟩=_:=eH
     have zHd:w.heap.size+1+1+1+1<wv.drew.heap.size:=zH
     refine qm (i:=2) (by kernel_rfl) (qt (wv.drew.setCell ⟨w.heap.size+1+1+1+1,0,none⟩ (.bool true)) rfl rfl rfl (by go_simp) (fun _=>HE1.out) ?_)
     obtain ⟨wx,hwx⟩:∃wx,wx=wv.drew.setCell ⟨w.heap.size+1+1+1+1,0,none⟩ (.bool true):=⟨_,rfl⟩
     have eNx:wx.cell? ⟨w.heap.size+1+1+1+1+1,0,none⟩=some (.int .i64 0):=by rw [hwx];exact HEN.out
     have zNx:=q9 eNx
     have fNx:_:=HFN.out
     rw [←hwx] at fNx ⊢
     refine qm (i:=3) (by kernel_rfl) (qt (wx.setCell ⟨w.heap.size+1+1+1+1+1,0,none⟩ (.int .i64 vn)) rfl rfl rfl (by go_simp) (fun h=>absurd rfl h) ?_)
     refine ⟨by kernel_rfl,?_⟩
     rw [hwx]
     gi_wp2
     exact hew.out hq.out
    | some n=>
     by_cases hne:vn=n
     rotate_left
     ·have qn:(vn != n)=true:=by simp [hne]
      gi_wp2
      exact hfP.out (by rw [hhv.out,if_pos];exact .inr ⟨rfl,fun e=>hne (by injection e with e;exact e.symm)⟩)
     subst hne
     have qn:(vn != vn)=false:=by simp
     have hq:=q8 (hhv.out.trans (by simp:_=some (some vn)))
     gi_wp2
     have hSp:(fun W':World=>W'.cell? ⟨Wq.heap.size,1,none⟩=some (.int .i64 vn)) wv.drew:=e1
     refine qR (S:=(fun W':World=>W'.cell? ⟨Wq.heap.size,1,none⟩=some (.int .i64 vn))) (by kernel_rfl) (fun ⟨_,_,h⟩=>h.2) (by kernel_rfl) 3 ?_
     refine qD 0 60 (.pointer (some ⟨Wq.heap.size,1,none⟩)) rfl rfl hSp (fun W' hS'=>by go_simp) ?_
     refine qD 1 61 (.int .i64 vn) rfl rfl hSp (fun W' hS'=>by go_simp) ?_
     have eHd:wv.drew.cell? ⟨w.heap.size+1+1+1+1,0,none⟩=_:=eH
     have zHd:w.heap.size+1+1+1+1<wv.drew.heap.size:=zH
     refine qm (i:=2) (by kernel_rfl) (qt (wv.drew.setCell ⟨w.heap.size+1+1+1+1,0,none⟩ (.bool true)) rfl rfl rfl (by go_simp) (fun _=>HE1.out) ?_)
     obtain ⟨wx,hwx⟩:∃wx,wx=wv.drew.setCell ⟨w.heap.size+1+1+1+1,0,none⟩ (.bool true):=⟨_,rfl⟩
     have eNx:wx.cell? ⟨w.heap.size+1+1+1+1+1,0,none⟩=some (.int .i64 vn):=by rw [hwx];exact HEN.out
     have zNx:=q9 eNx
     have fNx:_:=HFN.out
     rw [←hwx] at fNx ⊢
     refine qm (i:=3) (by kernel_rfl) (qt (wx.setCell ⟨w.heap.size+1+1+1+1+1,0,none⟩ (.int .i64 vn)) rfl rfl rfl (by go_simp) (fun h=>absurd rfl h) ?_)
     refine ⟨by kernel_rfl,?_⟩
     rw [hwx]
     gi_wp2
     exact hew.out hq.out
  case done=>
   rintro D W hD ⟨⟨h,hst,hHd,hNn⟩,hSh,hKp⟩ hDl
   have hhM:jd k p xs (cc+1) 0=some h:=by
    rw [alwTo_fn hlt (i:=(zX (ql f) f.blocks.length).length) (by rw [←HF.out,all_len];exact Nat.le_refl _)]
    exact hst
   have hKw:Kept (fun b=>b=w.heap.size+1+1+1+1∨b=w.heap.size+1+1+1+1+1) wk W:=(Kept.of_below HB1.out).trans hKp fun _ _ h=>h
   have hoH:=q8 hhM
   have hoI:=q8 hHd
   have hoJ:=q8 hNn
   have hfJ:=q8 hKw
   have HDl:=q8 hDl
   clear hst hHd hNn hSh hKp hhM hKw hDl
   go_wp2_with fail
   refine ⟨⟨cc+1,D::Ds,⟨by omega,List.nodup_cons.2 ⟨fun h=>?_,HN.out⟩,fun E hE=>?_,⟨h,hoH.out,hoI.out,hoJ.out⟩,HK.out.trans hfJ.out fun _ _ h=>h⟩,rfl,?_⟩,?_⟩
   ·have:=(HD.out D h).2
    have:=qd this
    have:=HZ0.out
    omega
   ·rcases List.mem_cons.1 hE with rfl|hE
    ·exact ⟨by have:=HZ0.out;omega,HDl.out⟩
    obtain ⟨d1,d2⟩:=HD.out E hE
    exact ⟨d1,(hfJ.out.block _ (qd d2) (fun h=>by have:=HZ2.out;exact h.elim (fun e=>by omega) (fun e=>by omega))).trans d2⟩
   ·exact ⟨rfl,rfl,rfl,rfl,rfl,rfl,rfl,rfl,rfl,by show Value.int .i64 _=_;go_num⟩
   simp [intOf];omega
  case stop=>
   rintro D ct i W hD hi ⟨rfl,hst,hR1,hR2,hKp⟩ hDl
   have hal:kK k p xs=none:=VP hlt hst
   have hKw:Kept (fun b=>b=w.heap.size+1+1∨b=w.heap.size+1+1+1∨b=w.heap.size+1+1+1+1∨b=w.heap.size+1+1+1+1+1) wk W:=(Kept.of_below HB1.out).trans hKp fun _ _ h=>h
   have hBf:Below w.heap.size w W:=HBk.out.trans (hKw.below HBk.out.size fun b h=>by rcases h with h|h|h|h<;>omega)
   gi_wp2
   show LeavesInM _ _ _ _ _ _ (QY (D::Ds)) .returning _
   have hnm:∀E,E∈D::Ds→w2.heap.size≤E∧W.heap[E]?=some (.deferred (some [])):=fun E hE=>by
    rcases List.mem_cons.1 hE with rfl|hE
    ·exact ⟨by have:=HZ0.out;omega,hDl⟩
    obtain ⟨d1,d2⟩:=HD.out E hE
    exact ⟨d1,(hKw.block _ (qd d2) (fun h=>by have:=HZ2.out;rcases h with h|h|h|h<;>omega)).trans d2⟩
   refine zS w2.heap.size (D::Ds) W (List.nodup_cons.2 ⟨fun h=>by have:=qd (HD.out D h).2;have:=HZ0.out;omega,HN.out⟩) hnm (fun w' h1 h2 h3 h4 h5=>?_)
   have hne:∀b,b<w2.heap.size→b∉D::Ds:=fun b hb h=>by have:=(hnm b h).1;omega
   have q1:w'.cell? ⟨w.heap.size+1+1,0,none⟩=some (.int .i64 0):=(blk ((h5 _ (hne _ (by have:=HZ2.out;omega))).trans hR1)).1 0
   have q2:w'.cell? ⟨w.heap.size+1+1+1,0,none⟩=some (.bool false):=(blk ((h5 _ (hne _ (by have:=HZ2.out;omega))).trans hR2)).1 0
   refine ⟨.tuple #[.int .i64 0,.bool false],?_,by rw [hal];rfl,?_⟩
   ·simp [results,Tryz.results20,go_sem,q1,q2]
   exact ⟨h1.trans hBf.os,h2.trans hBf.tape,h3.trans hBf.output,Nat.le_trans hBf.size h4,fun b hb=>(h5 b (hne b (by have:=HZ2.out;omega))).trans (hBf.block b hb)⟩
end Go.Proofs.YtgjjhadbjmcnpaaGreatDoor
