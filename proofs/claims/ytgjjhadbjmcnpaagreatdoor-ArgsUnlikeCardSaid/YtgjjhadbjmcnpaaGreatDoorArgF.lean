/-
  The contract of args.turn: all registers of a function of the call's own turned.
-/
import Derived.Test.YtgjjhadbjmcnpaaGreatDoorJArgG
set_option maxRecDepth 100000
set_option maxHeartbeats 16000000
namespace Go.Proofs.YtgjjhadbjmcnpaaGreatDoor
open Go.RowKit Go.Shelf
attribute [local go_sem] Oper.semAt_some

structure TurnC (T O A B:Nat) (p last:Int) (W:World):Prop where
 fn:W.cell? ⟨T,0,none⟩=some (.func (.func 52) #[] #[.pointer (some ⟨A,0,none⟩),.pointer (some ⟨B,0,none⟩)])
 un:W.cell? ⟨O,0,none⟩=some (.func (.func 78) #[] #[.pointer (some ⟨T,0,none⟩)])
 at_:ToAt A B p last W
theorem TurnC.kept {T O A B:Nat} {p last:Int} {W W':World} {S:Blks} (h:TurnC T O A B p last W) (hK:Kept S W W') (h1:¬ S T) (h2:¬ S O) (h3:¬ S A) (h4:¬ S B):TurnC T O A B p last W':=
 ⟨(hK.cell (p:=⟨T,0,none⟩) (q9 h.fn) h1).trans h.fn,(hK.cell (p:=⟨O,0,none⟩) (q9 h.un) h2).trans h.un,h.at_.other (hK.block _ (q9 h.at_.p) h3) (hK.block _ (q9 h.at_.last) h4)⟩

theorem QJ {p last r:Int} (hp:0≤p) (hl:I64 last) (hr:I64 r):I64 (qK p last r):=by
 unfold qK
 split
 ·exact hl
 split
 ·unfold I64 at *;omega
 exact hr

def VM (g:Int→Int) (b:BlkL):BlkL:={ phis:=b.phis.map (toP g),list:=b.list,fin:=toE g b.fin }
theorem toW_fst (g:Int→Int) (v:Bool×Int):(toW g v).1=v.1:=by
 unfold toW
 split
 ·next h=>exact h.symm
 rfl
theorem toW_one (g:Int→Int) (v:Bool×Int):[Value.bool v.1,Value.int .i64 (toW g (v.1,v.2)).2]=[.bool (toW g v).1,.int .i64 (toW g v).2]:=by
 unfold toW
 split<;>simp_all
theorem QK {p last:Int} (hp:0≤p) (hl:I64 last) {v:Bool×Int} (hv:I64 v.2):I64 (toW (qK p last) v).2:=by
 unfold toW
 split
 ·exact QJ hp hl hv
 exact hv

theorem turn_any (g n c k A B:Nat) (p last:Int) (hp0:0≤p) (hbM:I64 last) (xs:List FunL) (w:World) (S:Blks) (hS:SlO 38 4 FunO w (.slice (some ⟨g,0,none⟩) n c) xs S) (hk:k<xs.length) (h0:0<xs[k].blocks.length) (hT:ToAt A B p last w) (hA:¬ S A) (hB:¬ S B) :
  Calls Tryz.prog 51 #[.pointer (some ⟨g,k*4,none⟩),.func (.func 52) #[] #[.pointer (some ⟨A,0,none⟩),.pointer (some ⟨B,0,none⟩)]] w fun e w'=>e = .returned (.tuple #[])∧SlO 38 4 FunO w' (.slice (some ⟨g,0,none⟩) n c) (xs.set k (toF (qK p last) xs[k])) S∧Kept S w w':=by
 obtain ⟨g',c',csf,Tf,hvf,hgz,hgS,hdK,hFf,hgT,hTS,ham,hbE,⟨curf,haQ⟩,_⟩:=hS.focus qV (by omega) hk
 obtain rfl:g=g':=by injection hvf with a;injection a with a;injection a
 obtain ⟨f,hf⟩:∃f,f=xs[k]:=⟨_,rfl⟩
 have hset:xs.set k (upI (fun _=>toI (qK p last)) f 0)=xs:=by rw [JW,hf,List.set_getElem_self]
 rw [←hf] at hFf h0 ⊢
 have hlists:=hFf.lists h0
 obtain ⟨vb,hbO,hnm,hi1,hi2,hBf⟩:=hFf
 obtain ⟨bb,cb,hcs2,haD,hbl,hbP⟩:=hlists
 have hvb:vb = .slice (some ⟨bb,0,none⟩) f.blocks.length cb:=by
  rw [hbO] at hcs2
  simpa using hcs2
 subst hvb
 subst hbO
 have hcN:=hS.inb bb (hTS bb haD)
 have e3:w.cell? ⟨g,k*4+3,none⟩=some (.slice (some ⟨bb,0,none⟩) f.blocks.length cb):=ham 3 (by omega)
 have hSz:=hS.inb
 have HS:=q8 hS
 have HLs:=q8 hbP
 have HSz:=q8 hSz
 have HT:=q8 hT
 have hew:=q8 hset
 clear hS hf hvf hgS hdK hgT hTS ham hbE haQ hcs2 haD hnm hi1 hi2 hBf hbP hSz hT hset
 refine (callsIn_wide (n:=3)).1 ?_
 refine callsIn_of_wp_marks Tryz.func51 rfl trivial ?_ rfl
 simp only [Tryz.ntmps51,List.size_toArray,List.length_cons,List.length_nil,Nat.reduceAdd,Nat.reduceSub,Array.replicate_succ,Array.replicate_zero,List.push_toArray,List.append_toArray,List.nil_append,List.cons_append]
 refine wpIn_wide.2 ?_
 go_wp2_with fail
 obtain ⟨w0,hw0⟩:∃w0,w0=(w.alloc (.cells #[.func (.func 52) #[] #[.pointer (some ⟨A,0,none⟩),.pointer (some ⟨B,0,none⟩)]] 97)).alloc (.cells #[.func (.func 78) #[] #[.pointer (some ⟨w.heap.size,0,none⟩)]] 119):=⟨_,rfl⟩
 rw [←hw0]
 have hz0:w0.heap.size=w.heap.size+1+1:=by rw [hw0];simp
 have hb0:Below w.heap.size w w0:=by rw [hw0];exact bZ
 have hC0:TurnC w.heap.size (w.heap.size+1) A B p last w0:=⟨by rw [hw0];exact (blk (qh (qx w _))).1 0,by rw [hw0];exact (blk (qq (by simp))).1 0,HT.out.other (hb0.block _ (q9 HT.out.p)) (hb0.block _ (q9 HT.out.last))⟩
 have HZw:=q8 hz0
 clear hw0 hz0
 refine (Qe (some ⟨g,k*4,none⟩) w0).mono ?_
 rintro e W0 ⟨rfl,hW0⟩
 have hb1:Below w0.heap.size w0 W0:=by rw [hW0];exact bZ
 have HZ0:Hid (W0.heap.size=w0.heap.size+1):=q8 (by rw [hW0];simp)
 have hx0:W0.cell? ⟨w0.heap.size,0,none⟩=some (.pointer (some ⟨g,k*4,none⟩)):=by rw [hW0];exact (blk (qx w0 _)).1 0
 have haa:=q8 (hb0.trans (hb1.mono hb0.size))
 have hSb:∀b,S b→b<w.heap.size:=HSz.out
 have nT:¬ S w.heap.size:=fun h=>by have:=hSb _ h;omega
 have nO:¬ S (w.heap.size+1):=fun h=>by have:=hSb _ h;omega
 have HC:=q8 (hC0.kept (S:=fun _=>False) (Kept.of_below hb1) (fun h=>h) (fun h=>h) (fun h=>h) (fun h=>h))
 have hbQ:EachSh w0.heap.size g (k*4) (some ⟨bb,0,none⟩) f.blocks.length cb (lqW w bb) (ql f) (lcW w bb) W0:=by
  refine ⟨hx0,?_,fun mm hmm=>⟨bb,0,rfl,?_⟩⟩
  ·exact (haa.out.cell (p:=⟨g,k*4+3,none⟩) hgz).trans e3
  rw [Nat.zero_add,haa.out.cell (p:=⟨bb,mm*6+1,none⟩) hcN]
  exact (HLs.out mm hmm).1
 have HSH:=q8 hbQ
 have HS0:Hid (SlO 38 4 FunO W0 (.slice (some ⟨g,0,none⟩) n c) (xs.set k (upI (fun _=>toI (qK p last)) f 0)) S):=q8 (by rw [hew.out];exact HS.out.below qV haa.out)
 have HN:=q8 (And.intro nT (And.intro nO (And.intro hA hB)))
 have HSb:=q8 hSb
 clear hb0 hb1 hC0 hx0 hbQ hW0 nT nO hA hB hSb
 go_wp2_with fail
 refine (wpIn_wide (n:=3)).1 ?_
 refine xR rfl (by omega) (gf:=74) (lb:=#[.pointer (some ⟨w0.heap.size,0,none⟩)]) rfl trivial (enters_of Tryz.func74 (by kernel_rfl) rfl)
  (ZC Fence.wide 2 trivial rfl (by omega) w0.heap.size g (k*4) cb f.blocks.length (some ⟨bb,0,none⟩) (lqW w bb) (lpW w bb) (ql f) (lcW w bb) W0 hbl (fun mm hmm=>(HLs.out mm hmm).2.1) (fun mm hmm h0=>(HLs.out mm hmm).2.2 h0) HSH.out) (fun h k x=>k (h x)) (fun W l o o' _ hl ho _ h=>h.putObj o' hl ho) (Below.refl _ _) (fun i _=>rfl)
  (fun i W=>SlO 38 4 FunO W (.slice (some ⟨g,0,none⟩) n c) (xs.set k (upI (fun _=>toI (qK p last)) f i)) S∧EachSh w0.heap.size g (k*4) (some ⟨bb,0,none⟩) f.blocks.length cb (lqW w bb) (ql f) (lcW w bb) W∧Kept S W0 W)
  (fun _ _ _=>False)
  ((own_slo qV (fun b hb=>by have:=HSb.out b hb;have:=haa.out.size;omega) _).and (own_sh.and (vB (Nat.le_refl _)))) (fun _ _ _ _ _ hs _ _=>hs) ⟨HS0.out,HSH.out,Kept.refl _ _⟩
  (fun i=>{ tmps:=#[.pointer (some ⟨g,k*4,none⟩),.func (.func 52) #[] #[.pointer (some ⟨A,0,none⟩),.pointer (some ⟨B,0,none⟩)],undef,.pointer (some ⟨w.heap.size,0,none⟩),.pointer (some ⟨w.heap.size+1,0,none⟩),(j9 (lpW w bb) (ql f) f.blocks.length i),undef,undef,undef,undef,undef,.func (.func 78) #[] #[.pointer (some ⟨w.heap.size,0,none⟩)],.pointer (some ⟨g,k*4,none⟩),.func (.func 74) #[] #[.pointer (some ⟨w0.heap.size,0,none⟩)],(j9 (lpW w bb) (ql f) f.blocks.length i),undef,undef,undef,undef,undef,undef,undef,undef,undef,undef,undef,undef,undef,undef,undef,undef,undef,undef,undef,undef,undef,undef,undef,undef,undef,undef,undef,undef,undef,undef,undef,undef,undef,undef,undef,undef,undef,undef,undef,undef,undef,undef,undef,undef,undef,undef,undef,undef,undef,undef,undef,undef,undef,undef,undef,undef,undef,undef,undef,undef,undef,undef,undef,undef,undef,undef,undef,undef,undef,undef,undef,undef,undef,undef,undef,undef,undef,undef,undef,undef,undef,undef,undef,undef,undef,undef,undef,undef,undef,undef,undef,undef,undef,undef,undef,undef,undef,undef,undef,undef,undef,undef,undef,undef,undef,undef,undef,undef,undef],defers:=[] }) ?assign ?body ?done ?stop
 case assign=>
  intro l i W K hi hK
  unfold Qx
  gi_wp2
  exact hK
 case body=>
  rintro l i W hl hi ⟨hSl,hSh,hKp⟩
  obtain ⟨m',j,hm',hj,rfl⟩:=vA hi
  have hj2:j<f.blocks[m'].list.length:=by rw [←zM hm'];exact hj
  obtain ⟨lb,v,Ti,hlq,hcD,heu,hfh,hci,hlg,hbK,h64,hAr,hfv,haD,hTg,hd8,⟨cur,haf⟩,hput⟩:=Vf hSl hk hm' hj2 (⟨hSh.fn,fun m hm=>by
   obtain ⟨b6,o6,hq6,hc6⟩:=hSh.blk m hm
   cases hq6
   rw [Nat.zero_add] at hc6
   exact hc6⟩:FunSh g k bb f.blocks.length cb (lqW w bb) (ql f) (lcW w bb) W)
  have hpt:j9 (lpW w bb) (ql f) f.blocks.length ((zX (ql f) m').length+j) = .pointer (some ⟨lb,j*8,none⟩):=by
   have h2:=(HLs.out m' hm').2.2 (by omega)
   rw [hlq] at h2
   injection h2 with h2
   injection h2 with h3 h4
   rw [jX hm' hj,←h3,←h4,Nat.zero_add]
  rw [hpt]
  obtain ⟨x,hx⟩:∃x,x=f.blocks[m'].list[j]:=⟨_,rfl⟩
  rw [←hx] at hci h64 hAr hput
  obtain ⟨qa,ca,rfl,_,_⟩:=hAr.sl.val
  have hR0:RowPut W W 51 lb (j*8) 8 (XF x (.slice qa x.args.length ca)):=RowPut.same haf rfl hci
  have hCW:TurnC w.heap.size (w.heap.size+1) A B p last W:=HC.out.kept hKp HN.out.1 HN.out.2.1 HN.out.2.2.1 HN.out.2.2.2
  have y1:W.cell? ⟨lb,j*8+1,none⟩=some (.int .i64 x.dst):=hci 1 (by omega)
  have HR0:=q8 hR0
  have HCW:=q8 hCW
  have H64:=q8 h64
  have HAr:=q8 hAr
  have haI:=q8 hput
  have HSh:=q8 hSh
  have HKp:=q8 hKp
  have HX:=q8 hx
  have HTi:=q8 (And.intro hfv (And.intro haD (And.intro hTg hd8)))
  have cT:=hCW.fn
  have zT:=q9 cT
  clear hSl hSh hKp hlq hfh hci h64 hAr hput hpt hR0 hCW haf hx hfv haD hTg hd8
  by_cases hd:0≤x.dst
  gi_wp2
  refine qR (S:=(fun W':World=>W'.cell? ⟨lb,j*8+1,none⟩=some (.int .i64 x.dst)∧W'.cell? ⟨w.heap.size,0,none⟩=some (.func (.func 52) #[] #[.pointer (some ⟨A,0,none⟩),.pointer (some ⟨B,0,none⟩)]))) (by kernel_rfl) (fun ⟨_,_,h⟩=>h.2) (by kernel_rfl) 9 ?_
  have hSp:(fun W':World=>W'.cell? ⟨lb,j*8+1,none⟩=some (.int .i64 x.dst)∧W'.cell? ⟨w.heap.size,0,none⟩=some (.func (.func 52) #[] #[.pointer (some ⟨A,0,none⟩),.pointer (some ⟨B,0,none⟩)])) W.drew:=⟨y1,cT⟩
  refine qD 0 20 (.pointer (some ⟨lb,j*8,none⟩)) rfl rfl hSp (fun W' hS'=>by obtain ⟨h1,h2⟩:=hS';go_simp) ?_
  refine qD 1 21 (.func (.func 52) #[] #[.pointer (some ⟨A,0,none⟩),.pointer (some ⟨B,0,none⟩)]) rfl rfl hSp (fun W' hS'=>by obtain ⟨h1,h2⟩:=hS';go_simp) ?_
  refine qD 2 22 (.pointer (some ⟨lb,j*8,none⟩)) rfl rfl hSp (fun W' hS'=>by obtain ⟨h1,h2⟩:=hS';go_simp) ?_
  refine qD 3 23 (.pointer (some ⟨lb,j*8,none⟩)) rfl rfl hSp (fun W' hS'=>by obtain ⟨h1,h2⟩:=hS';go_simp) ?_
  refine qD 4 24 (.pointer (some ⟨lb,j*8+1,none⟩)) rfl rfl hSp (fun W' hS'=>by obtain ⟨h1,h2⟩:=hS';go_simp) ?_
  refine qD 5 25 (.int .i64 x.dst) rfl rfl hSp (fun W' hS'=>by obtain ⟨h1,h2⟩:=hS';go_simp) ?_
  refine qm (i:=6) (by kernel_rfl) (qr 26 rfl rfl rfl (by go_simp) (to_any A B p last x.dst W.drew (HCW.out.at_.other rfl rfl) hp0 H64.out.dst) ?_)
  rintro e w' ⟨rfl,rfl⟩
  refine ⟨_,rfl,hSp,?_⟩
  refine qD 7 27 (.pointer (some ⟨lb,j*8,none⟩)) rfl rfl hSp (fun W' hS'=>by obtain ⟨h1,h2⟩:=hS';go_simp) ?_
  refine qD 8 28 (.pointer (some ⟨lb,j*8+1,none⟩)) rfl rfl hSp (fun W' hS'=>by obtain ⟨h1,h2⟩:=hS';go_simp) ?_
  have hio:=HR0.out.free1
  have hip:lb<W.drew.heap.size:=heu
  refine qm (i:=9) (by kernel_rfl) (qt (W.drew.setCell ⟨lb,j*8+1,none⟩ (.int .i64 (qK p last x.dst))) rfl rfl rfl (by obtain ⟨h1,h2⟩:=hSp;go_simp) (fun h=>absurd rfl h) ?_)
  refine ⟨by kernel_rfl,?_⟩
  obtain ⟨W1,hW1⟩:∃W1,W1=W.drew.setCell ⟨lb,j*8+1,none⟩ (.int .i64 (qK p last x.dst)):=⟨_,rfl⟩
  rw [←hW1]
  have hp1:PutAt W W1 lb (j*8+1) (.int .i64 (qK p last x.dst)):=by rw [hW1];exact .set ((Kept.refl _ _).drew) _ _ heu _
  obtain ⟨d1,hd1⟩:∃d1,d1=qK p last x.dst:=⟨_,rfl⟩
  have HD:Hid (d1=(toI (qK p last) x).dst∧I64 d1):=q8 ⟨by rw [hd1];show _=if 0≤x.dst then _ else _;rw [if_pos hd],by rw [hd1];exact QJ hp0 hbM H64.out.dst⟩
  have HR1:Hid (RowPut W W1 51 lb (j*8) 8 (XF { x with dst:=d1 } (.slice qa x.args.length ca))):=q8 (by rw [hd1];exact HR0.out.put1 (j:=1) rfl (by omega) hp1)
  have HK1:=q8 hp1.kept
  clear hW1 hp1 hd1 hio hip hSp hd
  gi_wp2
  rotate_left
  obtain ⟨W1,hW1⟩:∃W1,W1=W:=⟨_,rfl⟩
  obtain ⟨d1,hd1⟩:∃d1,d1=x.dst:=⟨_,rfl⟩
  have HD:Hid (d1=(toI (qK p last) x).dst∧I64 d1):=q8 ⟨by rw [hd1];show _=if 0≤x.dst then _ else _;rw [if_neg (by omega)],by rw [hd1];exact H64.out.dst⟩
  have HR1:Hid (RowPut W W1 51 lb (j*8) 8 (XF { x with dst:=d1 } (.slice qa x.args.length ca))):=q8 (by rw [hd1,hW1];exact HR0.out)
  have HK1:Hid (Kept (fun b=>b=lb) W W1):=q8 (by rw [hW1];exact Kept.refl _ _)
  gi_wp2
  rw [←hW1]
  clear hW1 hd1 hd
  all_goals
   have HL:Hid (¬ (w.heap.size=lb)∧¬ (w.heap.size+1=lb)∧¬ (A=lb)∧¬ (B=lb)):=q8 ⟨fun e=>HN.out.1 (e ▸ hcD),fun e=>HN.out.2.1 (e ▸ hcD),fun e=>HN.out.2.2.1 (e ▸ hcD),fun e=>HN.out.2.2.2 (e ▸ hcD)⟩
   have HC0:=HCW
   have HC6:=q8 (HC0.out.kept (S:=fun b=>b=lb) HK1.out HL.out.1 HL.out.2.1 HL.out.2.2.1 HL.out.2.2.2)
   have hSp:(fun W':World=>W'.cell? ⟨w.heap.size+1,0,none⟩=some (.func (.func 78) #[] #[.pointer (some ⟨w.heap.size,0,none⟩)])) W1.drew:=HC6.out.un
   refine qR (S:=(fun W':World=>W'.cell? ⟨w.heap.size+1,0,none⟩=some (.func (.func 78) #[] #[.pointer (some ⟨w.heap.size,0,none⟩)]))) (by kernel_rfl) (fun ⟨_,_,h⟩=>h.2) (by kernel_rfl) 4 ?_
   refine qD 0 29 (.func (.func 78) #[] #[.pointer (some ⟨w.heap.size,0,none⟩)]) rfl rfl hSp (fun W' hS'=>by go_simp) ?_
   refine qD 1 30 (.pointer (some ⟨lb,j*8,none⟩)) rfl rfl hSp (fun W' hS'=>by go_simp) ?_
   refine qD 2 31 (.pointer (some ⟨lb,j*8,none⟩)) rfl rfl hSp (fun W' hS'=>by go_simp) ?_
   refine qD 3 32 (.pointer (some ⟨lb,j*8+2,none⟩)) rfl rfl hSp (fun W' hS'=>by go_simp) ?_
   refine qm (i:=4) (by kernel_rfl) (qr 33 rfl rfl rfl (by go_simp) (QI lb (j*8+2) w.heap.size A B p last x.an x.ar W1.drew (HR1.out.at1 (j:=2) (by omega)) (HR1.out.at1 (j:=2+1) (by omega)) (HR1.out.free1 _) H64.out.an HC6.out.fn (HC6.out.at_.other rfl rfl) hp0) ?_)
   rintro e W2 ⟨rfl,hP⟩
   have hKb:Kept (fun b=>b=lb) W W2:=HK1.out.trans (((Kept.refl (fun b=>b=lb) W1).drew).trans hP.kept (fun _ _ h=>h)) (fun _ _ h=>h)
   have HR2:Hid (RowPut W W2 51 lb (j*8) 8 (XF { x with dst:=d1,an:=(toW (qK p last) (x.ar,x.an)).2 } (.slice qa x.args.length ca))):=q8 ((HR1.out.other1 rfl:RowPut W W1.drew 51 lb (j*8) 8 _).put1 (j:=2+1) rfl (by omega) hP)
   have HK2:=q8 hKb
   have HC7:=q8 (HC0.out.kept (S:=fun b=>b=lb) hKb HL.out.1 HL.out.2.1 HL.out.2.2.1 HL.out.2.2.2)
   refine ⟨_,rfl,HC7.out.un,?_⟩
   refine ⟨by kernel_rfl,?_⟩
   clear hSp hP hKb
   gi_wp2
   have hSp:(fun W':World=>W'.cell? ⟨w.heap.size+1,0,none⟩=some (.func (.func 78) #[] #[.pointer (some ⟨w.heap.size,0,none⟩)])) W2.drew:=HC7.out.un
   refine qR (S:=(fun W':World=>W'.cell? ⟨w.heap.size+1,0,none⟩=some (.func (.func 78) #[] #[.pointer (some ⟨w.heap.size,0,none⟩)]))) (by kernel_rfl) (fun ⟨_,_,h⟩=>h.2) (by kernel_rfl) 4 ?_
   refine qD 0 34 (.func (.func 78) #[] #[.pointer (some ⟨w.heap.size,0,none⟩)]) rfl rfl hSp (fun W' hS'=>by go_simp) ?_
   refine qD 1 35 (.pointer (some ⟨lb,j*8,none⟩)) rfl rfl hSp (fun W' hS'=>by go_simp) ?_
   refine qD 2 36 (.pointer (some ⟨lb,j*8,none⟩)) rfl rfl hSp (fun W' hS'=>by go_simp) ?_
   refine qD 3 37 (.pointer (some ⟨lb,j*8+4,none⟩)) rfl rfl hSp (fun W' hS'=>by go_simp) ?_
   refine qm (i:=4) (by kernel_rfl) (qr 38 rfl rfl rfl (by go_simp) (QI lb (j*8+4) w.heap.size A B p last x.bn x.br W2.drew (HR2.out.at1 (j:=4) (by omega)) (HR2.out.at1 (j:=4+1) (by omega)) (HR2.out.free1 _) H64.out.bn HC7.out.fn (HC7.out.at_.other rfl rfl) hp0) ?_)
   rintro e W3 ⟨rfl,hP⟩
   have hKb:Kept (fun b=>b=lb) W W3:=HK2.out.trans (((Kept.refl (fun b=>b=lb) W2).drew).trans hP.kept (fun _ _ h=>h)) (fun _ _ h=>h)
   have HR3:Hid (RowPut W W3 51 lb (j*8) 8 (XF { x with dst:=d1,an:=(toW (qK p last) (x.ar,x.an)).2,bn:=(toW (qK p last) (x.br,x.bn)).2 } (.slice qa x.args.length ca))):=q8 ((HR2.out.other1 rfl:RowPut W W2.drew 51 lb (j*8) 8 _).put1 (j:=4+1) rfl (by omega) hP)
   have HK3:=q8 hKb
   have HC8:=q8 (HC0.out.kept (S:=fun b=>b=lb) hKb HL.out.1 HL.out.2.1 HL.out.2.2.1 HL.out.2.2.2)
   refine ⟨_,rfl,HC8.out.un,?_⟩
   refine ⟨by kernel_rfl,?_⟩
   clear hSp hP hKb
   have c7:W3.cell? ⟨lb,j*8+7,none⟩=some (.slice qa x.args.length ca):=HR3.out.at1 (j:=7) (by omega)
   have z7:=q9 c7
   gi_wp2
   clear c7 z7
   have cO:=HC8.out.un
   have zO:=q9 cO
   have ho7:Hid (SlO 44 2 vM W3 (.slice qa x.args.length ca) (qN 0 (toW (qK p last)) x.args) Ti):=q8 (by rw [zB];exact HAr.out.sl.kept zJ HK3.out fun b e h=>HTi.out.1 (e ▸ h))
   have hal:x.args.length≤140737488355328:=by have:=HAr.out.bd;have e:reachBytes=140737488351232:=rfl;omega
   gi_loopw [44] (fun i wr=>∃kk:Nat,kk≤x.args.length∧i = .int .i64 kk∧RowPut W wr 51 lb (j*8) 8 (XF { x with dst:=d1,an:=(toW (qK p last) (x.ar,x.an)).2,bn:=(toW (qK p last) (x.br,x.bn)).2 } (.slice qa x.args.length ca))∧SlO 44 2 vM wr (.slice qa x.args.length ca) (qN kk (toW (qK p last)) x.args) Ti∧Kept (fun b=>b=lb∨Ti b) W wr) (fun i _=>x.args.length - (intOf i).toNat)
   case atStart=>exact ⟨0,by omega,rfl,HR3.out,ho7.out,HK3.out.mono fun _ _ h=>.inl h⟩
   case round=>
    obtain ⟨wo,hwo⟩:∃wo,wo=wr:=⟨_,rfl⟩
    subst hwo
    obtain ⟨kk,hkk,rfl,hRr,hSr,hKr⟩:=hrel
    have hCr:TurnC w.heap.size (w.heap.size+1) A B p last wo:=HC0.out.kept hKr (fun h=>h.elim HL.out.1 fun h=>HN.out.1 (HTi.out.2.2.2 _ h)) (fun h=>h.elim HL.out.2.1 fun h=>HN.out.2.1 (HTi.out.2.2.2 _ h)) (fun h=>h.elim HL.out.2.2.1 fun h=>HN.out.2.2.1 (HTi.out.2.2.2 _ h)) (fun h=>h.elim HL.out.2.2.2 fun h=>HN.out.2.2.2 (HTi.out.2.2.2 _ h))
    have HRr:=q8 hRr
    have HSr:=q8 hSr
    have HKr:=q8 hKr
    have HCr:=q8 hCr
    clear hRr hSr hKr hCr
    by_cases hlt:kk<x.args.length
    rotate_left
    ·obtain rfl:kk=x.args.length:=by omega
     gi_wp2
     have hf1:qN x.args.length (toW (qK p last)) x.args=x.args.map (toW (qK p last)):=zl _ _
     have hS6:=HSr.out
     rw [hf1] at hS6
     have hTz:∀b,Ti b→b<W.heap.size:=fun b hb=>HAr.out.sl.inb b hb
     have hnew:=haI.out wo (toI (qK p last) x) (.slice qa x.args.length ca) Ti (by
       have e:=HRr.out
       rw [HD.out.1] at e
       exact e) rfl HKr.out.size (fun b hb h1 h2=>HKr.out.block b (by have:=HSb.out b hb;have:=haa.out.size;have:=HKp.out.size;omega) (fun h=>h.elim h2 h1)) ⟨H64.out.op,by rw [←HD.out.1];exact HD.out.2,QK (v:=(x.ar,x.an)) hp0 hbM H64.out.an,QK (v:=(x.br,x.bn)) hp0 hbM H64.out.bn,H64.out.fn⟩
       ⟨by (have e:(toI (qK p last) x).args=x.args.map (toW (qK p last)):=rfl);rw [e,show x.args.length=(x.args.map (toW (qK p last))).length by simp];simpa using hS6,by show (x.args.map _).length*16≤_;rw [List.length_map];exact HAr.out.bd⟩
       (fun b hb=>⟨.inl hb,by have:=hTz b hb;have:=HKr.out.size;omega⟩) rfl
     have hdL:=hnew.grow (S':=S) (fun b hb=>hb.elim id (HTi.out.2.2.2 b)) (fun b hb=>by have:=HSb.out b hb;have:=haa.out.size;have:=HKp.out.size;have:=HKr.out.size;omega)
     have hKS:Kept S W wo:=HKr.out.mono fun b _ h=>h.elim (fun e=>by have e:b=lb:=e;rw [e];exact hcD) (HTi.out.2.2.2 b)
     have hfC:EachSh w0.heap.size g (k*4) (some ⟨bb,0,none⟩) f.blocks.length cb (lqW w bb) (ql f) (lcW w bb) wo:=HSh.out.other fun b o v hc hw=>by
      have hbz:=q9 hc
      refine (World.cell?_of_block (a:=⟨b,o,none⟩) (HKr.out.block b hbz ?_)).trans hc
      rcases hw with e|e|⟨o',e⟩
      ·intro e2
       have:S b:=e2.elim (fun e3=>by have e3:b=lb:=e3;rw [e3];exact hcD) (HTi.out.2.2.2 b)
       have:=HSb.out b this
       have:=HZw.out
       omega
      ·exact fun e2=>e2.elim (fun e3=>hlg (by rw [←e];exact Eq.symm e3)) (fun h=>HTi.out.2.2.1 (by rw [←e];exact h))
      have e3:bb=b:=by injection e with e;injection e
      exact fun e2=>e2.elim (fun e4=>hbK (by rw [e3];exact Eq.symm e4)) (fun h=>HTi.out.2.1 (by rw [e3];exact h))
     exact ⟨⟨hKS.size,fun q o hq0 hq _=>(hKS.block q (qd hq) (fun h=>by have:=HSb.out q h;have:=haa.out.size;omega)).trans hq⟩,fun _=>hfC,hdL,hfC,HKp.out.trans hKS (fun _ _ h=>h)⟩
    obtain ⟨ga,ca2,cs,T1,hv2,ho6,haZ,hcl,hV,_,hfq,hce,hfz,⟨cur2,haC⟩,haP⟩:=HSr.out.focus zJ (by omega) (i:=kk) (by rw [qY];exact hlt)
    obtain rfl:qa=some ⟨ga,0,none⟩:=by injection hv2
    rw [x6 (by rw [qY];exact hlt) (Nat.le_refl _)] at hV
    obtain ⟨hcs,hv64⟩:=hV
    have hgl:ga≠lb:=fun e=>HTi.out.1 (e ▸ haZ)
    have hRv:=RowPut.same haC rfl hce
    have HRv:=q8 hRv
    have k0:(0:Int)≤(kk:Int):=by omega
    have k1:(kk:Int)<x.args.length:=by omega
    have HPv:=q8 haP
    have HCs:=q8 hcs
    have Hgl:=q8 hgl
    have hT1:=q8 hfq
    clear hv2 hcl hce hfz haC haP hRv hgl hfq
    gi_wp2
    have hSp:(fun W':World=>W'.cell? ⟨w.heap.size+1,0,none⟩=some (.func (.func 78) #[] #[.pointer (some ⟨w.heap.size,0,none⟩)])∧W'.cell? ⟨lb,j*8+7,none⟩=some (.slice (some ⟨ga,0,none⟩) x.args.length ca)) wo.drew:=⟨HCr.out.un,HRr.out.at1 (j:=7) (by omega)⟩
    refine qR (S:=(fun W':World=>W'.cell? ⟨w.heap.size+1,0,none⟩=some (.func (.func 78) #[] #[.pointer (some ⟨w.heap.size,0,none⟩)])∧W'.cell? ⟨lb,j*8+7,none⟩=some (.slice (some ⟨ga,0,none⟩) x.args.length ca))) (by kernel_rfl) (fun ⟨_,_,h⟩=>h.2) (by kernel_rfl) 7 ?_
    refine qD 0 47 (.func (.func 78) #[] #[.pointer (some ⟨w.heap.size,0,none⟩)]) rfl rfl hSp (fun W' hS'=>by obtain ⟨h1,h2⟩:=hS';go_simp) ?_
    refine qD 1 48 (.pointer (some ⟨lb,j*8,none⟩)) rfl rfl hSp (fun W' hS'=>by obtain ⟨h1,h2⟩:=hS';go_simp) ?_
    refine qD 2 49 (.pointer (some ⟨lb,j*8,none⟩)) rfl rfl hSp (fun W' hS'=>by obtain ⟨h1,h2⟩:=hS';go_simp) ?_
    refine qD 3 50 (.pointer (some ⟨lb,j*8+7,none⟩)) rfl rfl hSp (fun W' hS'=>by obtain ⟨h1,h2⟩:=hS';go_simp) ?_
    refine qD 4 51 (.slice (some ⟨ga,0,none⟩) x.args.length ca) rfl rfl hSp (fun W' hS'=>by obtain ⟨h1,h2⟩:=hS';go_simp) ?_
    refine qD 5 52 (.int .i64 kk) rfl rfl hSp (fun W' hS'=>by obtain ⟨h1,h2⟩:=hS';go_simp) ?_
    refine qD 6 53 (.pointer (some ⟨ga,kk*2,none⟩)) rfl rfl hSp (fun W' hS'=>by obtain ⟨h1,h2⟩:=hS';go_simp) ?_
    refine qm (i:=7) (by kernel_rfl) (qr 54 rfl rfl rfl (by go_simp) (QI ga (kk*2) w.heap.size A B p last x.args[kk].2 x.args[kk].1 wo.drew ((HRv.out.at1 (j:=0) (by omega)).trans (by rw [HCs.out];rfl)) ((HRv.out.at1 (j:=1) (by omega)).trans (by rw [HCs.out];rfl)) (HRv.out.free1 _) hv64 HCr.out.fn (HCr.out.at_.other rfl rfl) hp0) ?_)
    rintro e W4 ⟨rfl,hP⟩
    have hK4:Kept (fun b=>b=ga) wo W4:=((Kept.refl (fun b=>b=ga) wo).drew).trans hP.kept (fun _ _ h=>h)
    have hW4:Kept (fun b=>b=lb∨Ti b) W W4:=HKr.out.trans hK4 (fun b _ e=>by have e:b=ga:=e;exact .inr (e ▸ haZ))
    have hn4:(qN kk (toW (qK p last)) x.args).set kk (toW (qK p last) x.args[kk])=qN (kk+1) (toW (qK p last)) x.args:=zh hlt
    have hR4:=(HRv.out.other1 rfl:RowPut wo wo.drew 44 ga (kk*2) 2 _).put1 (j:=1) (by rw [HCs.out];rfl) (by omega) hP
    have hS4:=HPv.out W4 _ (toW (qK p last) x.args[kk]) T1 hR4 (by rw [List.length_set,HCs.out];rfl) (fun u hu=>by
      rw [HCs.out] at hu
      simp only [List.set_cons_succ,List.set_cons_zero,List.mem_cons,List.not_mem_nil,or_false] at hu
      rcases hu with rfl|rfl<;>rfl) hK4.size (fun b hb h1 h2=>hK4.block b (HSr.out.inb b hb) h2) (by
      rw [HCs.out]
      refine ⟨?_,?_⟩
      ·show [Value.bool x.args[kk].1,Value.int .i64 (toW (qK p last) (x.args[kk].1,x.args[kk].2)).2]=_
       rw [toW_one]
      exact QK hp0 hbM hv64) (fun b hb=>⟨.inl hb,by have:=HSr.out.inb b (hT1.out b hb);have:=hK4.size;omega⟩)
    rw [hn4] at hS4
    have hS5:SlO 44 2 vM W4 (.slice (some ⟨ga,0,none⟩) x.args.length ca) (qN (kk+1) (toW (qK p last)) x.args) Ti:=hS4.grow (fun b hb=>hb.elim id (hT1.out b)) (fun b hb=>by have:=HSr.out.inb b hb;have:=hK4.size;omega)
    have hRl:=HRr.out.other1 (hK4.block lb (by have:=HRr.out;obtain ⟨_,_,_,h2,_⟩:=this;exact (Array.getElem?_eq_some_iff.1 h2).1) (fun e=>Hgl.out e.symm))
    refine ⟨_,rfl,⟨(hK4.cell (p:=⟨w.heap.size+1,0,none⟩) (q9 HCr.out.un) (fun e=>HN.out.2.1 (HTi.out.2.2.2 _ (by have e:w.heap.size+1=ga:=e;rw [e];exact haZ)))).trans HCr.out.un,hRl.at1 (j:=7) (by omega)⟩,?_⟩
    refine ⟨by kernel_rfl,?_⟩
    have HS5:=q8 hS5
    have HRl:=q8 hRl
    have HW4:=q8 hW4
    clear hSp hP hK4 hW4 hn4 hR4 hS4 hS5 hRl
    gi_wp2
    refine ⟨⟨kk+1,by omega,by go_num,HRl.out,HS5.out,HW4.out⟩,by simp [intOf];omega⟩
 case done=>
  rintro D W hD ⟨hSl,hSh,hKp⟩ hDl
  obtain ⟨bs,hbs⟩:∃bs,bs=f.blocks.map fun b:BlkL=>XS b (b.list.map (toI (qK p last))):=⟨_,rfl⟩
  have hbn:bs.length=f.blocks.length:=by rw [hbs];simp
  have hu:upI (fun _=>toI (qK p last)) f (zX (ql f) f.blocks.length).length={ f with blocks:=bs }:=by rw [upI_all,hbs]
  rw [hu] at hSl
  have hks:k<(xs.set k { f with blocks:=bs }).length:=by rw [List.length_set];exact hk
  obtain ⟨g1,c1,csF,TF,hvF,hrB,ho8,hfD,hF1,hkP,hkQ,hiq,ho9,⟨curF,haR⟩,haS⟩:=hSl.focus qV (by omega) hks
  obtain rfl:g=g1:=by injection hvF with a;injection a with a;injection a
  rw [List.getElem_set_self] at hF1
  obtain ⟨vF,rfl,hnF,hhs,hfE,hBF⟩:=hF1
  have c3:W.cell? ⟨g,k*4+3,none⟩=some (.slice (some ⟨bb,0,none⟩) f.blocks.length cb):=hSh.fn
  obtain rfl:vF = .slice (some ⟨bb,0,none⟩) bs.length cb:=by
   have h1:=hiq 3 (by omega)
   rw [c3,←hbn] at h1
   simpa using h1.symm
  rw [←hbn] at c3
  have hCW:TurnC w.heap.size (w.heap.size+1) A B p last W:=HC.out.kept hKp HN.out.1 HN.out.2.1 HN.out.2.2.1 HN.out.2.2.2
  have cO:=hCW.un
  have zO:=q9 cO
  have zg:=q9 c3
  have HBF:=q8 hBF
  have HCW:=q8 hCW
  have HDl:=q8 hDl
  have HKp:=q8 hKp
  have HPF:=q8 haS
  have HSl:=q8 hSl.inb
  have HRF:=q8 (RowPut.same haR rfl hiq)
  have HTF:=q8 (And.intro hkP hkQ)
  have HNF:=q8 (And.intro hnF (And.intro hhs hfE))
  have HBs:=q8 hbs
  have HBn:=q8 hbn
  have hrC:bs.length≤140737488355328:=by have:=hBF.bd;have e:reachBytes=140737488351232:=rfl;omega
  clear hSl hSh hKp hDl hu hvF ho8 hfD hkP hkQ hiq ho9 haR haS hnF hhs hfE hBF hCW hbs hbn
  go_wp2_with fail
  clear c3
  go_loopg [61] bs.length (fun q s wr=>∃b:Nat,b≤bs.length∧q=bs.length - b∧s = .int .i64 b∧SlO 49 6 BlkO wr (.slice (some ⟨bb,0,none⟩) bs.length cb) (qN b (VM (qK p last)) bs) TF∧Kept TF W wr)
  case atStart=>exact ⟨0,by omega,rfl,rfl,by rw [zB];exact HBF.out.sl,Kept.refl _ _⟩
  case round=>
   obtain ⟨wo,hwo⟩:∃wo,wo=wr:=⟨_,rfl⟩
   subst hwo
   obtain ⟨b,hb,rfl,rfl,hO,hK2⟩:=hrel
   have hCo:TurnC w.heap.size (w.heap.size+1) A B p last wo:=HCW.out.kept hK2 (fun h=>HN.out.1 (HTF.out.2 _ h)) (fun h=>HN.out.2.1 (HTF.out.2 _ h)) (fun h=>HN.out.2.2.1 (HTF.out.2 _ h)) (fun h=>HN.out.2.2.2 (HTF.out.2 _ h))
   have HO:=q8 hO
   have HK2:=q8 hK2
   have HCo:=q8 hCo
   have hRF:=HRF.out.other1 (HK2.out.block g zg HTF.out.1)
   have c3:wo.cell? ⟨g,k*4+3,none⟩=some (.slice (some ⟨bb,0,none⟩) bs.length cb):=hRF.at1 (j:=3) (by omega)
   have HRo:=q8 hRF
   have zg1:=q9 c3
   clear hO hK2 hCo hRF
   by_cases hkR:b<bs.length
   rotate_left
   ·obtain rfl:b=bs.length:=by omega
    go_wp2_with fail
    have hO9:=HO.out
    rw [zl] at hO9
    have hF9:FunO wo [.string f.name,.int .i64 f.params,.int .i64 f.regs,.slice (some ⟨bb,0,none⟩) bs.length cb] (toF (qK p last) f) TF:=by
     have e:bs.map (VM (qK p last))=(toF (qK p last) f).blocks:=by
      rw [HBs.out]
      show (f.blocks.map _).map _=f.blocks.map _
      rw [List.map_map]
      rfl
     rw [e] at hO9
     exact ⟨_,rfl,HNF.out.1,HNF.out.2.1,HNF.out.2.2,⟨hO9,by rw [toF_len,←HBn.out];exact HBF.out.bd⟩⟩
    have hS9:=HPF.out wo _ (toF (qK p last) f) TF HRo.out rfl (fun u hu=>by
      simp only [List.mem_cons,List.not_mem_nil,or_false] at hu
      rcases hu with rfl|rfl|rfl|rfl<;>rfl) HK2.out.size (fun i h1 h2 h3=>HK2.out.block i (HSl.out i h1) h2) hF9 (fun i hi=>⟨.inl hi,by have:=HSl.out i (HTF.out.2 i hi);have:=HK2.out.size;omega⟩)
    rw [List.set_set] at hS9
    have ha9:=hS9.grow (S':=S) (fun i h=>h.elim id (HTF.out.2 i)) (fun i hi=>by have:=HSl.out i hi;have:=HK2.out.size;omega)
    have hKw:Kept S W0 wo:=HKp.out.trans HK2.out fun i _ h=>HTF.out.2 i h
    have hfF:Kept S w wo:=(Kept.of_below haa.out).trans hKw fun _ _ h=>h
    show LeavesInM _ _ _ _ _ _ (QY [D]) .returning _
    have hDw:wo.heap[D]?=some (.deferred (some [])):=(HK2.out.block D (qd HDl.out) (fun h=>by have:=HSb.out D (HTF.out.2 _ h);have:=haa.out.size;omega)).trans HDl.out
    have hnD:∀i,S i→i≠D:=fun i hi e=>by have:=HSb.out i hi;have:=haa.out.size;omega
    refine zS W0.heap.size [D] _ (by simp) (fun E hE=>by obtain rfl:E=D:=(by simpa using hE);exact ⟨hD,hDw⟩) (fun w' h1 h2 h3 h4 h5=>⟨_,results_none rfl _ _ _,rfl,?_,?_⟩)
    ·exact ha9.loc qV (fun i hi=>h5 i (fun h=>hnD i hi (List.mem_singleton.1 h))) h4
    exact ⟨h1.trans hfF.os,h2.trans hfF.tape,h3.trans hfF.output,Nat.le_trans hfF.size h4,fun i hi hn=>(h5 i (fun h=>by have:=List.mem_singleton.1 h;have:=haa.out.size;omega)).trans (hfF.block i hi hn)⟩
   obtain ⟨gb,qp,cp,v2,v3,S1,hq,hTg,hS1,hn1,h64,hPh,hRb,hfG⟩:=blk_step HO.out hkR
   obtain rfl:bb=gb:=by injection hq with a;injection a
   have HRb:=q8 hRb
   have HPb:=q8 hfG
   have HPh:=q8 hPh
   have HS1:=q8 (And.intro hS1 (And.intro hn1 hTg))
   have bi:(b:Int)<bs.length:=by omega
   have bi0:(0:Int)≤(b:Int):=by omega
   obtain ⟨y,hy⟩:∃y,y=bs[b]:=⟨_,rfl⟩
   rw [←hy] at HRb HPb HPh h64
   have HY:=q8 hy
   clear hq hTg hS1 hn1 hPh hRb hfG hy
   go_wp2_with fail
   have hSp:(fun W':World=>W'.cell? ⟨w.heap.size+1,0,none⟩=some (.func (.func 78) #[] #[.pointer (some ⟨w.heap.size,0,none⟩)])∧W'.cell? ⟨g,k*4+3,none⟩=some (.slice (some ⟨bb,0,none⟩) bs.length cb)) wo.drew:=⟨HCo.out.un,c3⟩
   refine qz (S:=(fun W':World=>W'.cell? ⟨w.heap.size+1,0,none⟩=some (.func (.func 78) #[] #[.pointer (some ⟨w.heap.size,0,none⟩)])∧W'.cell? ⟨g,k*4+3,none⟩=some (.slice (some ⟨bb,0,none⟩) bs.length cb))) (by kernel_rfl) 9 ?_
   refine qD 0 64 (.func (.func 78) #[] #[.pointer (some ⟨w.heap.size,0,none⟩)]) rfl rfl hSp (fun W' hS'=>by obtain ⟨h1,h2⟩:=hS';go_simp) ?_
   refine qD 1 65 (.pointer (some ⟨g,k*4,none⟩)) rfl rfl hSp (fun W' hS'=>by obtain ⟨h1,h2⟩:=hS';go_simp) ?_
   refine qD 2 66 (.pointer (some ⟨g,k*4,none⟩)) rfl rfl hSp (fun W' hS'=>by obtain ⟨h1,h2⟩:=hS';go_simp) ?_
   refine qD 3 67 (.pointer (some ⟨g,k*4+3,none⟩)) rfl rfl hSp (fun W' hS'=>by obtain ⟨h1,h2⟩:=hS';go_simp) ?_
   refine qD 4 68 (.slice (some ⟨bb,0,none⟩) bs.length cb) rfl rfl hSp (fun W' hS'=>by obtain ⟨h1,h2⟩:=hS';go_simp) ?_
   refine qD 5 69 (.int .i64 b) rfl rfl hSp (fun W' hS'=>by obtain ⟨h1,h2⟩:=hS';go_simp) ?_
   refine qD 6 70 (.pointer (some ⟨bb,b*6,none⟩)) rfl rfl hSp (fun W' hS'=>by obtain ⟨h1,h2⟩:=hS';go_simp) ?_
   refine qD 7 71 (.pointer (some ⟨bb,b*6+2,none⟩)) rfl rfl hSp (fun W' hS'=>by obtain ⟨h1,h2⟩:=hS';go_simp) ?_
   refine qD 8 72 (.pointer (some ⟨bb,b*6+2+1,none⟩)) rfl rfl hSp (fun W' hS'=>by obtain ⟨h1,h2⟩:=hS';go_simp) ?_
   refine qm (i:=9) (by kernel_rfl) (qr 73 rfl rfl rfl (by go_simp) (QI bb (b*6+2+1) w.heap.size A B p last y.fin.onn y.fin.onr wo.drew (HRb.out.at1 (j:=3) (by omega)) (HRb.out.at1 (j:=4) (by omega)) (HRb.out.free1 _) h64 HCo.out.fn (HCo.out.at_.other rfl rfl) hp0) ?_)
   rintro e W5 ⟨rfl,hP⟩
   have hK5:Kept (fun i=>i=bb) wo W5:=((Kept.refl (fun i=>i=bb) wo).drew).trans hP.kept (fun _ _ h=>h)
   have hR5:RowPut wo W5 49 bb (b*6) 6 [.slice qp y.phis.length cp,v2,.int .i64 y.fin.kind,.bool y.fin.onr,.int .i64 (toW (qK p last) (y.fin.onr,y.fin.onn)).2,v3]:=(HRb.out.other1 rfl:RowPut wo wo.drew 49 bb (b*6) 6 _).put1 (j:=4) rfl (by omega) hP
   have hP5:SlO 84 2 PhiO W5 (.slice qp y.phis.length cp) y.phis S1:=HPh.out.sl.kept zZ hK5 fun i e h=>HS1.out.2.1 (by have e:i=bb:=e;exact e ▸ h)
   have hG5:=HRo.out.other1 (hK5.block g zg1 (fun e=>by have e:g=bb:=e;exact HTF.out.1 (by rw [e];exact HS1.out.2.2)))
   have hC5:TurnC w.heap.size (w.heap.size+1) A B p last W5:=HCo.out.kept hK5 (fun h=>HN.out.1 (HTF.out.2 _ (by have h:w.heap.size=bb:=h;rw [h];exact HS1.out.2.2))) (fun h=>HN.out.2.1 (HTF.out.2 _ (by have h:w.heap.size+1=bb:=h;rw [h];exact HS1.out.2.2))) (fun h=>HN.out.2.2.1 (HTF.out.2 _ (by have h:A=bb:=h;rw [h];exact HS1.out.2.2))) (fun h=>HN.out.2.2.2 (HTF.out.2 _ (by have h:B=bb:=h;rw [h];exact HS1.out.2.2)))
   refine ⟨_,rfl,⟨hC5.un,hG5.at1 (j:=3) (by omega)⟩,?_⟩
   refine ⟨by kernel_rfl,?_⟩
   unfold calm
   dsimp only [Act.put]
   have d3:W5.cell? ⟨g,k*4+3,none⟩=some (.slice (some ⟨bb,0,none⟩) bs.length cb):=hG5.at1 (j:=3) (by omega)
   have d0:W5.cell? ⟨bb,b*6,none⟩=some (.slice qp y.phis.length cp):=hR5.at1 (j:=0) (by omega)
   have zd3:=q9 d3
   have zd0:=q9 d0
   have HK5:=q8 hK5
   have HR5:=q8 hR5
   have HP5:=q8 hP5
   have HG5:=q8 hG5
   have HC5:=q8 hC5
   have hpl:y.phis.length≤140737488355328:=by have:=HPh.out.bd;have e:reachBytes=140737488351232:=rfl;omega
   clear hSp hP hK5 hR5 hP5 hG5 hC5 c3
   go_wp2_with fail
   clear d3 d0 zd3 zd0
   go_loopg [83] y.phis.length (fun q s wr=>∃m:Nat,m≤y.phis.length∧q=y.phis.length - m∧s = .int .i64 m∧SlO 84 2 PhiO wr (.slice qp y.phis.length cp) (qN m (toP (qK p last)) y.phis) S1∧Kept S1 W5 wr)
   case atStart=>exact ⟨0,by omega,rfl,rfl,by rw [zB];exact HP5.out,Kept.refl _ _⟩
   case round=>
    obtain ⟨wp,hwp⟩:∃wp,wp=wr:=⟨_,rfl⟩
    subst hwp
    obtain ⟨m,hm,rfl,rfl,hO,hK⟩:=hrel
    have hey:∀i,S1 i→S i:=fun i hi=>HTF.out.2 i (HS1.out.1 i hi)
    have hCp:TurnC w.heap.size (w.heap.size+1) A B p last wp:=HC5.out.kept hK (fun h=>HN.out.1 (hey _ h)) (fun h=>HN.out.2.1 (hey _ h)) (fun h=>HN.out.2.2.1 (hey _ h)) (fun h=>HN.out.2.2.2 (hey _ h))
    have hGp:=HG5.out.other1 (hK.block g (q9 (HG5.out.at1 (j:=3) (by omega):W5.cell? ⟨g,k*4+3,none⟩=some (.slice (some ⟨bb,0,none⟩) bs.length cb))) (fun h=>HTF.out.1 (HS1.out.1 _ h)))
    have hRp:=HR5.out.other1 (hK.block bb (q9 (HR5.out.at1 (j:=0) (by omega):W5.cell? ⟨bb,b*6,none⟩=some (.slice qp y.phis.length cp))) HS1.out.2.1)
    have d3:wp.cell? ⟨g,k*4+3,none⟩=some (.slice (some ⟨bb,0,none⟩) bs.length cb):=hGp.at1 (j:=3) (by omega)
    have d0:wp.cell? ⟨bb,b*6,none⟩=some (.slice qp y.phis.length cp):=hRp.at1 (j:=0) (by omega)
    have zd3:=q9 d3
    have zd0:=q9 d0
    have HOp:=q8 hO
    have hkS:=q8 hK
    have HCp:=q8 hCp
    have hfH:=q8 hey
    have HRp:=q8 hRp
    clear hO hK hCp hGp hRp hey
    by_cases hlm:m<y.phis.length
    rotate_left
    ·obtain rfl:m=y.phis.length:=by omega
     have hP9:=HOp.out
     rw [zl] at hP9
     have hK9:Kept (fun i=>i=bb∨S1 i) wo wp:=(HK5.out.mono (fun _ _ h=>.inl h)).trans hkS.out (fun _ _ h=>.inr h)
     have hx9:=HPb.out wp (y.phis.map (toP (qK p last))) _ HRp.out hK9.size (fun i hi h1 h2=>hK9.block i (HO.out.inb i hi) (fun h=>h.elim h2 h1)) (QK (v:=(y.fin.onr,y.fin.onn)) hp0 hbM h64)
      ⟨hP9,by rw [List.length_map];exact HPh.out.bd⟩
     have hn9:(qN b (VM (qK p last)) bs).set b (VM (qK p last) y)=qN (b+1) (VM (qK p last)) bs:=by rw [HY.out];exact zh hkR
     have hkT:SlO 49 6 BlkO wp (.slice (some ⟨bb,0,none⟩) bs.length cb) (qN (b+1) (VM (qK p last)) bs) TF:=by rw [←hn9];exact hx9
     have HX9:=q8 hkT
     have HK9:Hid (Kept TF W wp):=q8 (HK2.out.trans hK9 fun i _ h=>h.elim (fun e=>e ▸ HS1.out.2.2) (HS1.out.1 i))
     clear hP9 hK9 hx9 hn9 hkT
     go_wp2_with fail
     go_roundg (bs.length - (b+1))
     case measure=>omega
     case rel=>exact ⟨b+1,by omega,rfl,by go_num,HX9.out,HK9.out⟩
    obtain ⟨gp,qs,cs,Tq,hqq,hTg,e0,e1,hdM,hTq,hnq,hsv,hRq,hdO⟩:=phi_step HOp.out hlm
    subst hqq
    obtain ⟨ph,hph⟩:∃ph,ph=y.phis[m]:=⟨_,rfl⟩
    rw [←hph] at e0 e1 hdM hsv hRq hdO
    have hoh:=q8 hph
    have HSv:=q8 hsv
    have HRq:=q8 hRq
    have HPq:=q8 hdO
    have HTq:=q8 (And.intro hTq (And.intro hnq hTg))
    have ze:=q9 e0
    have m0:(0:Int)≤(m:Int):=by omega
    have m1:(m:Int)<y.phis.length:=by omega
    have cT:=HCp.out.fn
    clear hsv hRq hdO hTq hnq hTg hph
    go_wp2_with fail
    have hSp:(fun W':World=>W'.cell? ⟨gp,m*2,none⟩=some (.int .i64 ph.dst)∧W'.cell? ⟨w.heap.size,0,none⟩=some (.func (.func 52) #[] #[.pointer (some ⟨A,0,none⟩),.pointer (some ⟨B,0,none⟩)])) wp.drew:=⟨e0,cT⟩
    refine qz (S:=(fun W':World=>W'.cell? ⟨gp,m*2,none⟩=some (.int .i64 ph.dst)∧W'.cell? ⟨w.heap.size,0,none⟩=some (.func (.func 52) #[] #[.pointer (some ⟨A,0,none⟩),.pointer (some ⟨B,0,none⟩)]))) (by kernel_rfl) 9 ?_
    refine qD 0 96 (.pointer (some ⟨gp,m*2,none⟩)) rfl rfl hSp (fun W' hS'=>by obtain ⟨h1,h2⟩:=hS';go_simp) ?_
    refine qD 1 97 (.func (.func 52) #[] #[.pointer (some ⟨A,0,none⟩),.pointer (some ⟨B,0,none⟩)]) rfl rfl hSp (fun W' hS'=>by obtain ⟨h1,h2⟩:=hS';go_simp) ?_
    refine qD 2 98 (.pointer (some ⟨gp,m*2,none⟩)) rfl rfl hSp (fun W' hS'=>by obtain ⟨h1,h2⟩:=hS';go_simp) ?_
    refine qD 3 99 (.pointer (some ⟨gp,m*2,none⟩)) rfl rfl hSp (fun W' hS'=>by obtain ⟨h1,h2⟩:=hS';go_simp) ?_
    refine qD 4 100 (.pointer (some ⟨gp,m*2,none⟩)) rfl rfl hSp (fun W' hS'=>by obtain ⟨h1,h2⟩:=hS';go_simp) ?_
    refine qD 5 101 (.int .i64 ph.dst) rfl rfl hSp (fun W' hS'=>by obtain ⟨h1,h2⟩:=hS';go_simp) ?_
    refine qm (i:=6) (by kernel_rfl) (qr 102 rfl rfl rfl (by go_simp) (to_any A B p last ph.dst wp.drew (HCp.out.at_.other rfl rfl) hp0 hdM) ?_)
    rintro e w' ⟨rfl,rfl⟩
    refine ⟨_,rfl,hSp,?_⟩
    refine qD 7 103 (.pointer (some ⟨gp,m*2,none⟩)) rfl rfl hSp (fun W' hS'=>by obtain ⟨h1,h2⟩:=hS';go_simp) ?_
    refine qD 8 104 (.pointer (some ⟨gp,m*2,none⟩)) rfl rfl hSp (fun W' hS'=>by obtain ⟨h1,h2⟩:=hS';go_simp) ?_
    have hio:=HRq.out.free1
    have zed:gp<wp.drew.heap.size:=ze
    refine qm (i:=9) (by kernel_rfl) (qt (wp.drew.setCell ⟨gp,m*2,none⟩ (.int .i64 (qK p last ph.dst))) rfl rfl rfl (by obtain ⟨h1,h2⟩:=hSp;go_simp) (fun h=>absurd rfl h) ?_)
    refine ⟨by kernel_rfl,?_⟩
    unfold calm
    dsimp only [Act.put]
    obtain ⟨W6,hW6⟩:∃W6,W6=wp.drew.setCell ⟨gp,m*2,none⟩ (.int .i64 (qK p last ph.dst)):=⟨_,rfl⟩
    rw [←hW6]
    have hp6:PutAt wp W6 gp (m*2) (.int .i64 (qK p last ph.dst)):=by rw [hW6];exact .set ((Kept.refl _ _).drew) _ _ ze _
    have hR6:RowPut wp W6 84 gp (m*2) 2 [.int .i64 (qK p last ph.dst),.slice qs ph.src.length cs]:=HRq.out.put1 (j:=0) rfl (by omega) hp6
    have hS6:SlO 44 2 vM W6 (.slice qs ph.src.length cs) ph.src Tq:=HSv.out.sl.kept zJ hp6.kept fun i e h=>HTq.out.2.1 (by have e:i=gp:=e;exact e ▸ h)
    have f1:W6.cell? ⟨gp,m*2+1,none⟩=some (.slice qs ph.src.length cs):=hR6.at1 (j:=1) (by omega)
    have zf1:=q9 f1
    have HP6:=q8 hp6.kept
    have HR6:=q8 hR6
    have HS6:=q8 hS6
    have hsl:ph.src.length≤140737488355328:=by have:=HSv.out.bd;have e:reachBytes=140737488351232:=rfl;omega
    clear hSp hio zed hW6 hp6 hR6 hS6 e0 e1 cT d3 d0 zd3 zd0
    go_wp2_with fail
    clear f1 zf1
    go_loopg [110] ph.src.length (fun q s wr=>∃r:Nat,r≤ph.src.length∧q=ph.src.length - r∧s = .int .i64 r∧SlO 44 2 vM wr (.slice qs ph.src.length cs) (qN r (toW (qK p last)) ph.src) Tq∧Kept Tq W6 wr)
    case atStart=>exact ⟨0,by omega,rfl,rfl,by rw [zB];exact HS6.out,Kept.refl _ _⟩
    case round=>
     obtain ⟨wq,hwq⟩:∃wq,wq=wr:=⟨_,rfl⟩
     subst hwq
     obtain ⟨r,hr,rfl,rfl,hV,hKv⟩:=hrel
     have hiv:Kept (fun i=>i=gp∨Tq i) wp wq:=(HP6.out.mono (fun _ _ h=>.inl h)).trans hKv (fun _ _ h=>.inr h)
     have hsub:∀i,(i=gp∨Tq i)→S1 i:=fun i h=>h.elim (fun e=>e ▸ HTq.out.2.2) (HTq.out.1 i)
     have hCq:TurnC w.heap.size (w.heap.size+1) A B p last wq:=HCp.out.kept hiv (fun h=>HN.out.1 (hfH.out _ (hsub _ h))) (fun h=>HN.out.2.1 (hfH.out _ (hsub _ h))) (fun h=>HN.out.2.2.1 (hfH.out _ (hsub _ h))) (fun h=>HN.out.2.2.2 (hfH.out _ (hsub _ h)))
     have hRw:=HR6.out.other1 (hKv.block gp (q9 (HR6.out.at1 (j:=1) (by omega):W6.cell? ⟨gp,m*2+1,none⟩=some (.slice qs ph.src.length cs))) HTq.out.2.1)
     have HV:=q8 hV
     have HKv:=q8 hKv
     have hiw:=q8 hiv
     have HCq:=q8 hCq
     have HRw:=q8 hRw
     have HSub:=q8 hsub
     have f1:wq.cell? ⟨gp,m*2+1,none⟩=some (.slice qs ph.src.length cs):=hRw.at1 (j:=1) (by omega)
     have zf1:=q9 f1
     clear hV hKv hiv hCq hRw hsub
     by_cases hlr:r<ph.src.length
     rotate_left
     ·obtain rfl:r=ph.src.length:=by omega
      have hV8:=HV.out
      rw [zl] at hV8
      have hx8:=HPq.out wq (toP (qK p last) ph) HRw.out hiw.out.size (fun i hi h1 h2=>hiw.out.block i (HOp.out.inb i hi) (fun h=>h.elim h2 h1)) (QJ hp0 hbM hdM)
       ⟨show SlO 44 2 vM wq _ (ph.src.map _) Tq from hV8,by show (ph.src.map _).length*16≤_;rw [List.length_map];exact HSv.out.bd⟩
      have hn8:(qN m (toP (qK p last)) y.phis).set m (toP (qK p last) ph)=qN (m+1) (toP (qK p last)) y.phis:=by rw [hoh.out];exact zh hlm
      rw [hn8] at hx8
      have HX8:=q8 hx8
      clear hx8 hn8 hV8
      go_wp2_with fail
      go_roundg (y.phis.length - (m+1))
      case measure=>omega
      case rel=>exact ⟨m+1,by omega,rfl,by go_num,HX8.out,hkS.out.trans hiw.out fun i _ h=>HSub.out i h⟩
     obtain ⟨ga,hqs,haZ,a0,a1,afr,av64,haP⟩:=vals_step HV.out hlr
     subst hqs
     have HPv:=q8 haP
     have r0:(0:Int)≤(r:Int):=by omega
     have r1:(r:Int)<ph.src.length:=by omega
     obtain ⟨vv,hvv⟩:∃vv,vv=ph.src[r]:=⟨_,rfl⟩
     rw [←hvv] at a0 a1 av64 HPv
     clear haP hvv
     go_wp2_with fail
     have hSp:(fun W':World=>W'.cell? ⟨w.heap.size+1,0,none⟩=some (.func (.func 78) #[] #[.pointer (some ⟨w.heap.size,0,none⟩)])∧W'.cell? ⟨gp,m*2+1,none⟩=some (.slice (some ⟨ga,0,none⟩) ph.src.length cs)) wq.drew:=⟨HCq.out.un,f1⟩
     refine qz (S:=(fun W':World=>W'.cell? ⟨w.heap.size+1,0,none⟩=some (.func (.func 78) #[] #[.pointer (some ⟨w.heap.size,0,none⟩)])∧W'.cell? ⟨gp,m*2+1,none⟩=some (.slice (some ⟨ga,0,none⟩) ph.src.length cs))) (by kernel_rfl) 7 ?_
     refine qD 0 113 (.func (.func 78) #[] #[.pointer (some ⟨w.heap.size,0,none⟩)]) rfl rfl hSp (fun W' hS'=>by obtain ⟨h1,h2⟩:=hS';go_simp) ?_
     refine qD 1 114 (.pointer (some ⟨gp,m*2,none⟩)) rfl rfl hSp (fun W' hS'=>by obtain ⟨h1,h2⟩:=hS';go_simp) ?_
     refine qD 2 115 (.pointer (some ⟨gp,m*2,none⟩)) rfl rfl hSp (fun W' hS'=>by obtain ⟨h1,h2⟩:=hS';go_simp) ?_
     refine qD 3 116 (.pointer (some ⟨gp,m*2+1,none⟩)) rfl rfl hSp (fun W' hS'=>by obtain ⟨h1,h2⟩:=hS';go_simp) ?_
     refine qD 4 117 (.slice (some ⟨ga,0,none⟩) ph.src.length cs) rfl rfl hSp (fun W' hS'=>by obtain ⟨h1,h2⟩:=hS';go_simp) ?_
     refine qD 5 118 (.int .i64 r) rfl rfl hSp (fun W' hS'=>by obtain ⟨h1,h2⟩:=hS';go_simp) ?_
     refine qD 6 119 (.pointer (some ⟨ga,r*2,none⟩)) rfl rfl hSp (fun W' hS'=>by obtain ⟨h1,h2⟩:=hS';go_simp) ?_
     refine qm (i:=7) (by kernel_rfl) (qr 120 rfl rfl rfl (by go_simp) (QI ga (r*2) w.heap.size A B p last vv.2 vv.1 wq.drew a0 a1 afr av64 HCq.out.fn (HCq.out.at_.other rfl rfl) hp0) ?_)
     rintro e W7 ⟨rfl,hP⟩
     obtain ⟨hV7,hK7⟩:=HPv.out W7 hP (toW_fst _ vv) (QK hp0 hbM av64)
     have hga:ga≠gp:=fun e=>HTq.out.2.1 (e ▸ haZ)
     refine ⟨_,rfl,⟨(hK7.cell (p:=⟨w.heap.size+1,0,none⟩) (q9 HCq.out.un) (fun e=>HN.out.2.1 (hfH.out _ (HTq.out.1 _ (by have e:w.heap.size+1=ga:=e;rw [e];exact haZ))))).trans HCq.out.un,(hK7.cell (p:=⟨gp,m*2+1,none⟩) zf1 (fun e=>hga (Eq.symm e))).trans f1⟩,?_⟩
     refine ⟨by kernel_rfl,?_⟩
     unfold calm
     dsimp only [Act.put]
     have HV7:=q8 hV7
     have HK7:Hid (Kept Tq W6 W7):=q8 (HKv.out.trans hK7 fun i _ e=>by have e:i=ga:=e;exact e ▸ haZ)
     clear hSp hP hV7 hK7 hga f1 zf1 a0 a1 afr
     go_wp2_with fail
     go_roundg (ph.src.length - (r+1))
     case measure=>omega
     case rel=>exact ⟨r+1,by omega,rfl,by go_num,HV7.out,HK7.out⟩
 case stop=>
  rintro D cc i W hD hi h hDl
  exact h.elim
end Go.Proofs.YtgjjhadbjmcnpaaGreatDoor
