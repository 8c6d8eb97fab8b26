/-
  Plain: two rows of the call's own joined; a block's list, longer by a head, put in its pla
-/
import Derived.Test.YtgjjhadbjmcnpaaGreatDoorJArgG
import Derived.Shelf.RegionOpenPlain
import Derived.Deep.RegionLaw
import Derived.Lib.SliceRun
import Derived.Lib.QuietBelow
set_option maxRecDepth 100000
set_option maxHeartbeats 16000000
namespace Go.Proofs.YtgjjhadbjmcnpaaGreatDoor
open Go.RowKit Go.Shelf
attribute [local go_sem] Oper.semAt_some

structure TurnC (T O A B:Nat) (p last:Int) (W:World):Prop where
 fn:W.cell? (J T 0)=some (.func (.func 52) #[] #[.pointer (some (J A 0)),.pointer (some (J B 0))])
 un:W.cell? (J O 0)=some (.func (.func 78) #[] #[.pointer (some (J T 0))])
 at_:ToAt A B p last W
theorem TurnC.kept {T O A B:Nat} {p last:Int} {W W':World} {S:Blks} (h:TurnC T O A B p last W) (hK:Kept S W W') (h1:¬ S T) (h2:¬ S O) (h3:¬ S A) (h4:¬ S B):TurnC T O A B p last W':=
 ⟨(hK.cell (p:=(J T 0)) (q9 h.fn) h1).trans h.fn,(hK.cell (p:=(J O 0)) (q9 h.un) h2).trans h.un,h.at_.other (hK.block _ (q9 h.at_.p) h3) (hK.block _ (q9 h.at_.last) h4)⟩

theorem ZM {p last r:Int} (hp:0<=p) (hl:I64 last) (hr:I64 r):I64 (qN p last r):=by
 unfold qN
 split
 ·exact hl
 split
 ·unfold I64 at *;omega
 exact hr

def Yz (g:Int->Int) (b:BlkL):BlkL:={ phis:=b.phis.map (toP g),list:=b.list,fin:=toE g b.fin }
theorem toW_fst (g:Int->Int) (v:Bool×Int):(toW g v).1=v.1:=by
 unfold toW
 split
 ·next h=>exact h.symm
 rfl
theorem toW_one (g:Int->Int) (v:Bool×Int):[Value.bool v.1,Z (toW g (v.1,v.2)).2]=[.bool (toW g v).1,Z (toW g v).2]:=by
 unfold toW
 split<;>simp_all
theorem ZN {p last:Int} (hp:0<=p) (hl:I64 last) {v:Bool×Int} (hv:I64 v.2):I64 (toW (qN p last) v).2:=by
 unfold toW
 split
 ·exact ZM hp hl hv
 exact hv

theorem turn_any (g n c k A B:Nat) (p last:Int) (hp0:0<=p) (hcT:I64 last) (xs:List FunL) (w:World) (S:Blks) (hS:SlO 38 4 FunO w (.slice (some (J g 0)) n c) xs S) (hk:k<xs.length) (h0:0<xs[k].blocks.length) (hT:ToAt A B p last w) (hA:¬ S A) (hB:¬ S B) :
  Calls Tryz.prog 51 #[.pointer (some (J g (k*4))),.func (.func 52) #[] #[.pointer (some (J A 0)),.pointer (some (J B 0))]] w fun e w'=>e = .returned (.tuple #[])/\SlO 38 4 FunO w' (.slice (some (J g 0)) n c) (xs.set k (toF (qN p last) xs[k])) S/\Kept S w w':=by
 obtain⟨g',c',csf,Tf,hvf,hgz,hgS,het,hFf,hgT,hTS,haL,hcD,⟨curf,hbh⟩,_⟩:=hS.focus qK bO hk;obtain rfl:g=g':=by injection hvf with a;injection a with a;injection a
 obtain⟨f,hf⟩:=nZ (xs[k]);have hset:xs.set k (upI (fun _=>toI (qN p last)) f 0)=xs:=by rw[XT,hf,List.set_getElem_self]
 rw[←hf]at hFf h0 ⊢;have hlists:=hFf.lists h0;obtain⟨vb,hcU,hnm,hi1,hi2,hBf⟩:=hFf;obtain⟨bb,cb,hcs2,haJ,hbl,hcX⟩:=hlists
 have hvb:vb = .slice (some (J bb 0)) f.blocks.length cb:=by
  rw[hcU]at hcs2;simpa using hcs2
 subst hvb;subst hcU;have hdJ:=hS.inb bb (hTS bb haJ);have e3:w.cell? (J g (k*4+3))=some (.slice (some (J bb 0)) f.blocks.length cb):=haL 3 bO;have hSz:=hS.inb;have HS:=q8 hS;have HLs:=q8 hcX;have HSz:=q8 hSz;have HT:=q8 hT;have hdZ:=q8 hset;clear hS hf hvf hgS het hgT hTS haL hcD hbh hcs2 haJ hnm hi1 hi2 hBf hcX hSz hT hset;refine(callsIn_wide (n:=3)).1 ?_;refine callsIn_of_wp_marks Tryz.func51 rfl trivial ?_ rfl;simp only[Tryz.ntmps51,List.size_toArray,yi,List.length_nil,Nat.reduceAdd,Nat.reduceSub,Array.replicate_succ,Array.replicate_zero,List.push_toArray,List.append_toArray,List.nil_append,List.cons_append];refine wpIn_wide.2 ?_
 go_wp2_with fail
 obtain⟨w0,hw0⟩:=nZ ((w.alloc (.cells #[.func (.func 52) #[] #[.pointer (some (J A 0)),.pointer (some (J B 0))]] 97)).alloc (.cells #[.func (.func 78) #[] #[.pointer (some (J w.heap.size 0))]] 119));rw[←hw0];have hz0:w0.heap.size=w.heap.size+1+1:=by rw[hw0];simp
 have hb0:Below w.heap.size w w0:=by rw[hw0];exact bZ
 have hC0:TurnC w.heap.size (w.heap.size+1) A B p last w0:=⟨by rw[hw0];exact(blk (qh (qB w _))).1 0,by rw[hw0];exact(blk (qr bV)).1 0,HT.out.other (hb0.block _ (q9 HT.out.p)) (hb0.block _ (q9 HT.out.last))⟩;have HZw:=q8 hz0;clear hw0 hz0;refine(Zf (some (J g (k*4))) w0).mono ?_;rintro e W0 ⟨rfl,hW0⟩;have hb1:Below w0.heap.size w0 W0:=by rw[hW0];exact bZ
 have HZ0:Hid (W0.heap.size=w0.heap.size+1):=q8 (by rw[hW0];simp);have hx0:W0.cell? (J w0.heap.size 0)=some (.pointer (some (J g (k*4)))):=by rw[hW0];exact(blk (qB w0 _)).1 0
 have haI:=q8 (hb0.trans (hb1.mono hb0.size));have hSb:∀b,S b->b<w.heap.size:=HSz.out;have nT:¬ S w.heap.size:=fun h=>by have:=hSb _ h;omega
 have nO:¬ S (w.heap.size+1):=fun h=>by have:=hSb _ h;omega
 have HC:=q8 (hC0.kept (S:=fun _=>False) (Kept.of_below hb1) (fun h=>h) (fun h=>h) (fun h=>h) (fun h=>h))
 have hcY:EachSh w0.heap.size g (k*4) (some (J bb 0)) f.blocks.length cb (lqW w bb) (qq f) (lcW w bb) W0:=by
  refine⟨hx0,?_,fun mm hmm=>⟨bb,0,rfl,?_⟩⟩
  ·exact(haI.out.cell (p:=(J g (k*4+3))) hgz).trans e3
  rw[yx,haI.out.cell (p:=(J bb (mm*6+1))) hdJ];exact(HLs.out mm hmm).1
 have HSH:=q8 hcY;have HS0:Hid (SlO 38 4 FunO W0 (.slice (some (J g 0)) n c) (xs.set k (upI (fun _=>toI (qN p last)) f 0)) S):=q8 (by rw[hdZ.out];exact HS.out.below qK haI.out);have HN:=q8 (zh nT (zh nO (zh hA hB)));have HSb:=q8 hSb;clear hb0 hb1 hC0 hx0 hcY hW0 nT nO hA hB hSb
 go_wp2_with fail
 refine(wpIn_wide (n:=3)).1 ?_
 refine jA rfl bO (gf:=74) (lb:=#[.pointer (some (J w0.heap.size 0))]) rfl trivial (enters_of Tryz.func74 bK rfl)
  (XS Fence.wide 2 trivial rfl bO w0.heap.size g (k*4) cb f.blocks.length (some (J bb 0)) (lqW w bb) (lpW w bb) (qq f) (lcW w bb) W0 hbl (fun mm hmm=>(HLs.out mm hmm).2.1) (fun mm hmm h0=>(HLs.out mm hmm).2.2 h0) HSH.out) (fun h k x=>k (h x)) (fun W l o o' _ hl ho _ h=>h.putObj o' hl ho) (zI _ _) (fun i _=>rfl)
  (fun i W=>SlO 38 4 FunO W (.slice (some (J g 0)) n c) (xs.set k (upI (fun _=>toI (qN p last)) f i)) S/\EachSh w0.heap.size g (k*4) (some (J bb 0)) f.blocks.length cb (lqW w bb) (qq f) (lcW w bb) W/\Kept S W0 W)
  (fun _ _ _=>False)
  ((own_slo qK (fun b hb=>by have:=HSb.out b hb;have:=haI.out.size;omega) _).and (own_sh.and (kM (zK _)))) (fun _ _ _ _ _ hs _ _=>hs) ⟨HS0.out,HSH.out,Kept.refl _ _⟩
  (fun i=>{ tmps:=#[.pointer (some (J g (k*4))),.func (.func 52) #[] #[.pointer (some (J A 0)),.pointer (some (J B 0))],undef,.pointer (some (J w.heap.size 0)),.pointer (some (J (w.heap.size+1) 0)),(jP (lpW w bb) (qq f) f.blocks.length i),undef,undef,undef,undef,undef,.func (.func 78) #[] #[.pointer (some (J w.heap.size 0))],.pointer (some (J g (k*4))),.func (.func 74) #[] #[.pointer (some (J w0.heap.size 0))],(jP (lpW w bb) (qq f) f.blocks.length i),undef,undef,undef,undef,undef,undef,undef,undef,undef,undef,undef,undef,undef,undef,undef,undef,undef,undef,undef,undef,undef,undef,undef,undef,undef,undef,undef,undef,undef,undef,undef,undef,undef,undef,undef,undef,undef,undef,undef,undef,undef,undef,undef,undef,undef,undef,undef,undef,undef,undef,undef,undef,undef,undef,undef,undef,undef,undef,undef,undef,undef,undef,undef,undef,undef,undef,undef,undef,undef,undef,undef,undef,undef,undef,undef,undef,undef,undef,undef,undef,undef,undef,undef,undef,undef,undef,undef,undef,undef,undef,undef,undef,undef,undef,undef,undef,undef,undef,undef,undef,undef,undef,undef,undef,undef,undef,undef,undef,undef],defers:=[] }) ?assign ?body ?done ?stop
 case assign=>
  intro l i W K hi hK;unfold Zw
  gi_wp2
  exact hK
 case body=>
  rintro l i W hl hi ⟨hSl,hSh,hKp⟩;obtain⟨m',j,hm',hj,rfl⟩:=kL hi;have hj2:j<f.blocks[m'].list.length:=by rw[←xn hm'];exact hj
  obtain⟨lb,v,Ti,hlq,hbT,hdX,hep,hci,hlg,haQ,h64,hAr,he3,haJ,hTg,hdC,⟨cur,hay⟩,hput⟩:=J5 hSl hk hm' hj2 (⟨hSh.fn,fun m hm=>by
   obtain⟨b6,o6,hq6,hc6⟩:=hSh.blk m hm;cases hq6;rw[yx]at hc6
   exact hc6⟩:FunSh g k bb f.blocks.length cb (lqW w bb) (qq f) (lcW w bb) W)
  have hpt:jP (lpW w bb) (qq f) f.blocks.length ((xx (qq f) m').length+j) = .pointer (some (J lb (j*8))):=by
   have h2:=(HLs.out m' hm').2.2 bO;rw[hlq]at h2;injection h2 with h2;injection h2 with h3 h4;rw[kl hm' hj,←h3,←h4,yx]
  rw[hpt];obtain⟨x,hx⟩:=nZ (f.blocks[m'].list[j]);rw[←hx]at hci h64 hAr hput;obtain⟨qa,ca,rfl,_,_⟩:=hAr.sl.val;have hR0:RowPut W W 51 lb (j*8) 8 (V4 x (.slice qa x.args.length ca)):=RowPut.same hay rfl hci;have hCW:TurnC w.heap.size (w.heap.size+1) A B p last W:=HC.out.kept hKp HN.out.1 HN.out.2.1 HN.out.2.2.1 HN.out.2.2.2;have y1:W.cell? (J lb (j*8+1))=some (Z x.dst):=hci 1 bO;have HR0:=q8 hR0;have HCW:=q8 hCW;have H64:=q8 h64;have HAr:=q8 hAr;have haA:=q8 hput;have HSh:=q8 hSh;have HKp:=q8 hKp;have HX:=q8 hx;have HTi:=q8 (zh he3 (zh haJ (zh hTg hdC)));have cT:=hCW.fn;have zT:=q9 cT;clear hSl hSh hKp hlq hep hci h64 hAr hput hpt hR0 hCW hay hx he3 haJ hTg hdC
  by_cases hd:0<=x.dst
  gi_wp2
  refine zi (S:=(fun W':World=>W'.cell? (J lb (j*8+1))=some (Z x.dst)/\W'.cell? (J w.heap.size 0)=some (.func (.func 52) #[] #[.pointer (some (J A 0)),.pointer (some (J B 0))]))) bK (fun⟨_,_,h⟩=>h.2) bK 9 ?_;have hSp:(fun W':World=>W'.cell? (J lb (j*8+1))=some (Z x.dst)/\W'.cell? (J w.heap.size 0)=some (.func (.func 52) #[] #[.pointer (some (J A 0)),.pointer (some (J B 0))])) W.drew:=⟨y1,cT⟩;refine qx 0 20 (.pointer (some (J lb (j*8)))) rfl rfl hSp (fun W' hS'=>by obtain⟨h1,h2⟩:=hS';go_simp) ?_;refine qx 1 21 (.func (.func 52) #[] #[.pointer (some (J A 0)),.pointer (some (J B 0))]) rfl rfl hSp (fun W' hS'=>by obtain⟨h1,h2⟩:=hS';go_simp) ?_;refine qx 2 22 (.pointer (some (J lb (j*8)))) rfl rfl hSp (fun W' hS'=>by obtain⟨h1,h2⟩:=hS';go_simp) ?_;refine qx 3 23 (.pointer (some (J lb (j*8)))) rfl rfl hSp (fun W' hS'=>by obtain⟨h1,h2⟩:=hS';go_simp) ?_;refine qx 4 24 (.pointer (some (J lb (j*8+1)))) rfl rfl hSp (fun W' hS'=>by obtain⟨h1,h2⟩:=hS';go_simp) ?_;refine qx 5 25 (Z x.dst) rfl rfl hSp (fun W' hS'=>by obtain⟨h1,h2⟩:=hS';go_simp) ?_;refine qm (i:=6) bK (qt 26 rfl rfl rfl (by go_simp) (to_any A B p last x.dst W.drew (HCW.out.at_.other rfl rfl) hp0 H64.out.dst) ?_);rintro e w' ⟨rfl,rfl⟩;refine⟨_,rfl,hSp,?_⟩;refine qx 7 27 (.pointer (some (J lb (j*8)))) rfl rfl hSp (fun W' hS'=>by obtain⟨h1,h2⟩:=hS';go_simp) ?_;refine qx 8 28 (.pointer (some (J lb (j*8+1)))) rfl rfl hSp (fun W' hS'=>by obtain⟨h1,h2⟩:=hS';go_simp) ?_;have hkC:=HR0.out.free1;have hkD:lb<W.drew.heap.size:=hdX;refine qm (i:=9) bK (qz (W.drew.setCell (J lb (j*8+1)) (Z (qN p last x.dst))) rfl rfl rfl (by obtain⟨h1,h2⟩:=hSp;go_simp) (fun h=>absurd rfl h) ?_);refine⟨by kernel_rfl,?_⟩;obtain⟨W1,hW1⟩:=nZ (W.drew.setCell (J lb (j*8+1)) (Z (qN p last x.dst)));rw[←hW1];have hp1:PutAt W W1 lb (j*8+1) (Z (qN p last x.dst)):=by rw[hW1];exact .set ((Kept.refl _ _).drew) _ _ hdX _
  obtain⟨d1,hd1⟩:=nZ (qN p last x.dst);have HD:Hid (d1=(toI (qN p last) x).dst/\I64 d1):=q8 ⟨by rw[hd1];show _=if 0<=x.dst then _ else _;rw[zZ hd],by rw[hd1];exact ZM hp0 hcT H64.out.dst⟩
  have HR1:Hid (RowPut W W1 51 lb (j*8) 8 (V4 { x with dst:=d1 } (.slice qa x.args.length ca))):=q8 (by rw[hd1];exact HR0.out.put1 (j:=1) rfl bO hp1);have HK1:=q8 hp1.kept;clear hW1 hp1 hd1 hkC hkD hSp hd
  gi_wp2
  rotate_left
  obtain⟨W1,hW1⟩:=nZ W;obtain⟨d1,hd1⟩:=nZ x.dst;have HD:Hid (d1=(toI (qN p last) x).dst/\I64 d1):=q8 ⟨by rw[hd1];show _=if 0<=x.dst then _ else _;rw[zQ bO],by rw[hd1];exact H64.out.dst⟩
  have HR1:Hid (RowPut W W1 51 lb (j*8) 8 (V4 { x with dst:=d1 } (.slice qa x.args.length ca))):=q8 (by rw[hd1,hW1];exact HR0.out);have HK1:Hid (Kept (fun b=>b=lb) W W1):=q8 (by rw[hW1];exact Kept.refl _ _)
  gi_wp2
  rw[←hW1];clear hW1 hd1 hd
  all_goals
   have HL:Hid (¬ (w.heap.size=lb)/\¬ (w.heap.size+1=lb)/\¬ (A=lb)/\¬ (B=lb)):=q8 ⟨fun e=>HN.out.1 (e ▸ hbT),fun e=>HN.out.2.1 (e ▸ hbT),fun e=>HN.out.2.2.1 (e ▸ hbT),fun e=>HN.out.2.2.2 (e ▸ hbT)⟩;have HC0:=HCW;have HC6:=q8 (HC0.out.kept (S:=fun b=>b=lb) HK1.out HL.out.1 HL.out.2.1 HL.out.2.2.1 HL.out.2.2.2);have hSp:(fun W':World=>W'.cell? (J (w.heap.size+1) 0)=some (.func (.func 78) #[] #[.pointer (some (J w.heap.size 0))])) W1.drew:=HC6.out.un;refine zi (S:=(fun W':World=>W'.cell? (J (w.heap.size+1) 0)=some (.func (.func 78) #[] #[.pointer (some (J w.heap.size 0))]))) bK (fun⟨_,_,h⟩=>h.2) bK 4 ?_;refine qx 0 29 (.func (.func 78) #[] #[.pointer (some (J w.heap.size 0))]) rfl rfl hSp (fun W' hS'=>by go_simp) ?_;refine qx 1 30 (.pointer (some (J lb (j*8)))) rfl rfl hSp (fun W' hS'=>by go_simp) ?_;refine qx 2 31 (.pointer (some (J lb (j*8)))) rfl rfl hSp (fun W' hS'=>by go_simp) ?_;refine qx 3 32 (.pointer (some (J lb (j*8+2)))) rfl rfl hSp (fun W' hS'=>by go_simp) ?_;refine qm (i:=4) bK (qt 33 rfl rfl rfl (by go_simp) (ZL lb (j*8+2) w.heap.size A B p last x.an x.ar W1.drew (HR1.out.at1 (j:=2) bO) (HR1.out.at1 (j:=2+1) bO) (HR1.out.free1 _) H64.out.an HC6.out.fn (HC6.out.at_.other rfl rfl) hp0) ?_);rintro e W2 ⟨rfl,hP⟩;have hKb:Kept (fun b=>b=lb) W W2:=HK1.out.trans (((Kept.refl (fun b=>b=lb) W1).drew).trans hP.kept (fun _ _ h=>h)) (fun _ _ h=>h);have HR2:Hid (RowPut W W2 51 lb (j*8) 8 (V4 { x with dst:=d1,an:=(toW (qN p last) (x.ar,x.an)).2 } (.slice qa x.args.length ca))):=q8 ((HR1.out.other1 rfl:RowPut W W1.drew 51 lb (j*8) 8 _).put1 (j:=2+1) rfl bO hP);have HK2:=q8 hKb;have HC7:=q8 (HC0.out.kept (S:=fun b=>b=lb) hKb HL.out.1 HL.out.2.1 HL.out.2.2.1 HL.out.2.2.2);refine⟨_,rfl,HC7.out.un,?_⟩;refine⟨by kernel_rfl,?_⟩;clear hSp hP hKb
   gi_wp2
   have hSp:(fun W':World=>W'.cell? (J (w.heap.size+1) 0)=some (.func (.func 78) #[] #[.pointer (some (J w.heap.size 0))])) W2.drew:=HC7.out.un;refine zi (S:=(fun W':World=>W'.cell? (J (w.heap.size+1) 0)=some (.func (.func 78) #[] #[.pointer (some (J w.heap.size 0))]))) bK (fun⟨_,_,h⟩=>h.2) bK 4 ?_;refine qx 0 34 (.func (.func 78) #[] #[.pointer (some (J w.heap.size 0))]) rfl rfl hSp (fun W' hS'=>by go_simp) ?_;refine qx 1 35 (.pointer (some (J lb (j*8)))) rfl rfl hSp (fun W' hS'=>by go_simp) ?_;refine qx 2 36 (.pointer (some (J lb (j*8)))) rfl rfl hSp (fun W' hS'=>by go_simp) ?_;refine qx 3 37 (.pointer (some (J lb (j*8+4)))) rfl rfl hSp (fun W' hS'=>by go_simp) ?_;refine qm (i:=4) bK (qt 38 rfl rfl rfl (by go_simp) (ZL lb (j*8+4) w.heap.size A B p last x.bn x.br W2.drew (HR2.out.at1 (j:=4) bO) (HR2.out.at1 (j:=4+1) bO) (HR2.out.free1 _) H64.out.bn HC7.out.fn (HC7.out.at_.other rfl rfl) hp0) ?_);rintro e W3 ⟨rfl,hP⟩;have hKb:Kept (fun b=>b=lb) W W3:=HK2.out.trans (((Kept.refl (fun b=>b=lb) W2).drew).trans hP.kept (fun _ _ h=>h)) (fun _ _ h=>h);have HR3:Hid (RowPut W W3 51 lb (j*8) 8 (V4 { x with dst:=d1,an:=(toW (qN p last) (x.ar,x.an)).2,bn:=(toW (qN p last) (x.br,x.bn)).2 } (.slice qa x.args.length ca))):=q8 ((HR2.out.other1 rfl:RowPut W W2.drew 51 lb (j*8) 8 _).put1 (j:=4+1) rfl bO hP);have HK3:=q8 hKb;have HC8:=q8 (HC0.out.kept (S:=fun b=>b=lb) hKb HL.out.1 HL.out.2.1 HL.out.2.2.1 HL.out.2.2.2);refine⟨_,rfl,HC8.out.un,?_⟩;refine⟨by kernel_rfl,?_⟩;clear hSp hP hKb;have c7:W3.cell? (J lb (j*8+7))=some (.slice qa x.args.length ca):=HR3.out.at1 (j:=7) bO;have z7:=q9 c7
   gi_wp2
   clear c7 z7;have cO:=HC8.out.un;have zO:=q9 cO;have hry:Hid (SlO 44 2 jV W3 (.slice qa x.args.length ca) (qG 0 (toW (qN p last)) x.args) Ti):=q8 (by rw[qU];exact HAr.out.sl.kept zq HK3.out fun b e h=>HTi.out.1 (e ▸ h));have hal:x.args.length<=140737488355328:=by have:=HAr.out.bd;have e:reachBytes=140737488351232:=rfl;omega
   gi_loopw [44] (fun i wr=>∃kk:Nat,kk<=x.args.length/\i=Z kk/\RowPut W wr 51 lb (j*8) 8 (V4 { x with dst:=d1,an:=(toW (qN p last) (x.ar,x.an)).2,bn:=(toW (qN p last) (x.br,x.bn)).2 } (.slice qa x.args.length ca))/\SlO 44 2 jV wr (.slice qa x.args.length ca) (qG kk (toW (qN p last)) x.args) Ti/\Kept (fun b=>b=lb\/Ti b) W wr) (fun i _=>x.args.length - (intOf i).toNat)
   case atStart=>exact⟨0,by omega,rfl,HR3.out,hry.out,HK3.out.mono fun _ _ h=>.inl h⟩
   case round=>
    obtain⟨wo,hwo⟩:=nZ wr;subst hwo;obtain⟨kk,hkk,rfl,hRr,hSr,hKr⟩:=hrel;have hCr:TurnC w.heap.size (w.heap.size+1) A B p last wo:=HC0.out.kept hKr (fun h=>h.elim HL.out.1 fun h=>HN.out.1 (HTi.out.2.2.2 _ h)) (fun h=>h.elim HL.out.2.1 fun h=>HN.out.2.1 (HTi.out.2.2.2 _ h)) (fun h=>h.elim HL.out.2.2.1 fun h=>HN.out.2.2.1 (HTi.out.2.2.2 _ h)) (fun h=>h.elim HL.out.2.2.2 fun h=>HN.out.2.2.2 (HTi.out.2.2.2 _ h));have HRr:=q8 hRr;have HSr:=q8 hSr;have HKr:=q8 hKr;have HCr:=q8 hCr;clear hRr hSr hKr hCr
    by_cases hlt:kk<x.args.length
    rotate_left
    ·obtain rfl:kk=x.args.length:=by omega
     gi_wp2
     have hf1:qG x.args.length (toW (qN p last)) x.args=x.args.map (toW (qN p last)):=qR _ _;have hS6:=HSr.out;rw[hf1]at hS6;have hTz:∀b,Ti b->b<W.heap.size:=fun b hb=>HAr.out.sl.inb b hb
     have hnew:=haA.out wo (toI (qN p last) x) (.slice qa x.args.length ca) Ti (by
       have e:=HRr.out;rw[HD.out.1]at e
       exact e) rfl HKr.out.size (fun b hb h1 h2=>HKr.out.block b (by have:=HSb.out b hb;have:=haI.out.size;have:=HKp.out.size;omega) (fun h=>h.elim h2 h1)) ⟨H64.out.op,by rw[←HD.out.1];exact HD.out.2,ZN (v:=(x.ar,x.an)) hp0 hcT H64.out.an,ZN (v:=(x.br,x.bn)) hp0 hcT H64.out.bn,H64.out.fn⟩
       ⟨by(have e:(toI (qN p last) x).args=x.args.map (toW (qN p last)):=rfl);rw[e,show x.args.length=(x.args.map (toW (qN p last))).length by simp];simpa using hS6,by show(x.args.map _).length*16<=_;rw[yT];exact HAr.out.bd⟩
       (fun b hb=>⟨.inl hb,by have:=hTz b hb;have:=HKr.out.size;omega⟩) rfl
     have heu:=hnew.grow (S':=S) (fun b hb=>hb.elim id (HTi.out.2.2.2 b)) (fun b hb=>by have:=HSb.out b hb;have:=haI.out.size;have:=HKp.out.size;have:=HKr.out.size;omega);have hKS:Kept S W wo:=HKr.out.mono fun b _ h=>h.elim (fun e=>by have e:b=lb:=e;rw[e];exact hbT) (HTi.out.2.2.2 b)
     have hhp:EachSh w0.heap.size g (k*4) (some (J bb 0)) f.blocks.length cb (lqW w bb) (qq f) (lcW w bb) wo:=HSh.out.other fun b o v hc hw=>by
      have hbz:=q9 hc;refine(zN (a:=(J b o)) (HKr.out.block b hbz ?_)).trans hc;rcases hw with e|e|⟨o',e⟩
      ·intro e2;have:S b:=e2.elim (fun e3=>by have e3:b=lb:=e3;rw[e3];exact hbT) (HTi.out.2.2.2 b);have:=HSb.out b this;have:=HZw.out;omega
      ·exact fun e2=>e2.elim (fun e3=>hlg (by rw[←e];exact Eq.symm e3)) (fun h=>HTi.out.2.2.1 (by rw[←e];exact h))
      have e3:bb=b:=(by injection e with e;injection e);exact fun e2=>e2.elim (fun e4=>haQ (by rw[e3];exact Eq.symm e4)) (fun h=>HTi.out.2.1 (by rw[e3];exact h))
     exact⟨⟨hKS.size,fun q o hq0 hq _=>(hKS.block q (qd hq) (fun h=>by have:=HSb.out q h;have:=haI.out.size;omega)).trans hq⟩,fun _=>hhp,heu,hhp,HKp.out.trans hKS (fun _ _ h=>h)⟩
    obtain⟨ga,ca2,cs,T1,hv2,hnJ,haC,hcl,hV,_,hdY,hce,hfz,⟨cur2,haa⟩,ha8⟩:=HSr.out.focus zq bO (i:=kk) (by rw[qO];exact hlt);obtain rfl:qa=some (J ga 0):=(by injection hv2);rw[xh (by rw[qO];exact hlt) (zK _)]at hV;obtain⟨hcs,hv64⟩:=hV;have hgl:ga≠lb:=fun e=>HTi.out.1 (e ▸ haC);have hRv:=RowPut.same haa rfl hce;have HRv:=q8 hRv;have k0:(0:Int)<=(kk:Int):=(by omega);have k1:(kk:Int)<x.args.length:=(by omega);have HPv:=q8 ha8;have HCs:=q8 hcs;have Hgl:=q8 hgl;have hT1:=q8 hdY;clear hv2 hcl hce hfz haa ha8 hRv hgl hdY
    gi_wp2
    have hSp:(fun W':World=>W'.cell? (J (w.heap.size+1) 0)=some (.func (.func 78) #[] #[.pointer (some (J w.heap.size 0))])/\W'.cell? (J lb (j*8+7))=some (.slice (some (J ga 0)) x.args.length ca)) wo.drew:=⟨HCr.out.un,HRr.out.at1 (j:=7) bO⟩;refine zi (S:=(fun W':World=>W'.cell? (J (w.heap.size+1) 0)=some (.func (.func 78) #[] #[.pointer (some (J w.heap.size 0))])/\W'.cell? (J lb (j*8+7))=some (.slice (some (J ga 0)) x.args.length ca))) bK (fun⟨_,_,h⟩=>h.2) bK 7 ?_;refine qx 0 47 (.func (.func 78) #[] #[.pointer (some (J w.heap.size 0))]) rfl rfl hSp (fun W' hS'=>by obtain⟨h1,h2⟩:=hS';go_simp) ?_;refine qx 1 48 (.pointer (some (J lb (j*8)))) rfl rfl hSp (fun W' hS'=>by obtain⟨h1,h2⟩:=hS';go_simp) ?_;refine qx 2 49 (.pointer (some (J lb (j*8)))) rfl rfl hSp (fun W' hS'=>by obtain⟨h1,h2⟩:=hS';go_simp) ?_;refine qx 3 50 (.pointer (some (J lb (j*8+7)))) rfl rfl hSp (fun W' hS'=>by obtain⟨h1,h2⟩:=hS';go_simp) ?_;refine qx 4 51 (.slice (some (J ga 0)) x.args.length ca) rfl rfl hSp (fun W' hS'=>by obtain⟨h1,h2⟩:=hS';go_simp) ?_;refine qx 5 52 (Z kk) rfl rfl hSp (fun W' hS'=>by obtain⟨h1,h2⟩:=hS';go_simp) ?_;refine qx 6 53 (.pointer (some (J ga (kk*2)))) rfl rfl hSp (fun W' hS'=>by obtain⟨h1,h2⟩:=hS';go_simp) ?_;refine qm (i:=7) bK (qt 54 rfl rfl rfl (by go_simp) (ZL ga (kk*2) w.heap.size A B p last x.args[kk].2 x.args[kk].1 wo.drew ((HRv.out.at1 (j:=0) bO).trans (by rw[HCs.out];rfl)) ((HRv.out.at1 (j:=1) bO).trans (by rw[HCs.out];rfl)) (HRv.out.free1 _) hv64 HCr.out.fn (HCr.out.at_.other rfl rfl) hp0) ?_);rintro e W4 ⟨rfl,hP⟩;have hK4:Kept (fun b=>b=ga) wo W4:=((Kept.refl (fun b=>b=ga) wo).drew).trans hP.kept (fun _ _ h=>h);have hW4:Kept (fun b=>b=lb\/Ti b) W W4:=HKr.out.trans hK4 (fun b _ e=>by have e:b=ga:=e;exact .inr (e ▸ haC));have hn4:(qG kk (toW (qN p last)) x.args).set kk (toW (qN p last) x.args[kk])=qG (kk+1) (toW (qN p last)) x.args:=qS hlt;have hR4:=(HRv.out.other1 rfl:RowPut wo wo.drew 44 ga (kk*2) 2 _).put1 (j:=1) (by rw[HCs.out];rfl) bO hP
    have hS4:=HPv.out W4 _ (toW (qN p last) x.args[kk]) T1 hR4 (by rw[List.length_set,HCs.out];rfl) (fun u hu=>by
      rw[HCs.out]at hu;simp only[yZ,yQ,yC,yG,yl]at hu;rcases hu with rfl|rfl<;>rfl) hK4.size (fun b hb h1 h2=>hK4.block b (HSr.out.inb b hb) h2) (by
      rw[HCs.out];refine⟨?_,?_⟩
      ·show[Value.bool x.args[kk].1,Z (toW (qN p last) (x.args[kk].1,x.args[kk].2)).2]=_;rw[toW_one]
      exact ZN hp0 hcT hv64) (fun b hb=>⟨.inl hb,by have:=HSr.out.inb b (hT1.out b hb);have:=hK4.size;omega⟩)
    rw[hn4]at hS4;have hS5:SlO 44 2 jV W4 (.slice (some (J ga 0)) x.args.length ca) (qG (kk+1) (toW (qN p last)) x.args) Ti:=hS4.grow (fun b hb=>hb.elim id (hT1.out b)) (fun b hb=>by have:=HSr.out.inb b hb;have:=hK4.size;omega);have hRl:=HRr.out.other1 (hK4.block lb (by have:=HRr.out;obtain⟨_,_,_,h2,_⟩:=this;exact(yL.1 h2).1) (fun e=>Hgl.out e.symm));refine⟨_,rfl,⟨(hK4.cell (p:=(J (w.heap.size+1) 0)) (q9 HCr.out.un) (fun e=>HN.out.2.1 (HTi.out.2.2.2 _ (by have e:w.heap.size+1=ga:=e;rw[e];exact haC)))).trans HCr.out.un,hRl.at1 (j:=7) bO⟩,?_⟩;refine⟨by kernel_rfl,?_⟩;have HS5:=q8 hS5;have HRl:=q8 hRl;have HW4:=q8 hW4;clear hSp hP hK4 hW4 hn4 hR4 hS4 hS5 hRl
    gi_wp2
    refine⟨⟨kk+1,by omega,by go_num,HRl.out,HS5.out,HW4.out⟩,by simp[intOf];omega⟩
 case done=>
  rintro D W hD ⟨hSl,hSh,hKp⟩ hDl;obtain⟨bs,hbs⟩:=nZ (f.blocks.map fun b:BlkL=>Vq b (b.list.map (toI (qN p last))));have hbn:bs.length=f.blocks.length:=by rw[hbs];simp
  have hu:upI (fun _=>toI (qN p last)) f (xx (qq f) f.blocks.length).length={ f with blocks:=bs }:=by rw[VJ,hbs]
  rw[hu]at hSl;have hks:k<(xs.set k { f with blocks:=bs }).length:=by rw[List.length_set];exact hk
  obtain⟨g1,c1,csF,TF,hvF,huU,hrA,hhq,hF1,hnK,hnM,hkE,hrB,⟨curF,hbo⟩,hbA⟩:=hSl.focus qK bO hks;obtain rfl:g=g1:=by injection hvF with a;injection a with a;injection a
  rw[List.getElem_set_self]at hF1;obtain⟨vF,rfl,hnF,hjf,hhr,hBF⟩:=hF1;have c3:W.cell? (J g (k*4+3))=some (.slice (some (J bb 0)) f.blocks.length cb):=hSh.fn
  obtain rfl:vF = .slice (some (J bb 0)) bs.length cb:=by
   have h1:=hkE 3 bO;rw[c3,←hbn]at h1;simpa using h1.symm
  rw[←hbn]at c3;have hCW:TurnC w.heap.size (w.heap.size+1) A B p last W:=HC.out.kept hKp HN.out.1 HN.out.2.1 HN.out.2.2.1 HN.out.2.2.2;have cO:=hCW.un;have zO:=q9 cO;have zg:=q9 c3;have HBF:=q8 hBF;have HCW:=q8 hCW;have HDl:=q8 hDl;have HKp:=q8 hKp;have HPF:=q8 hbA;have HSl:=q8 hSl.inb;have HRF:=q8 (RowPut.same hbo rfl hkE);have HTF:=q8 (zh hnK hnM);have HNF:=q8 (zh hnF (zh hjf hhr));have HBs:=q8 hbs;have HBn:=q8 hbn;have huV:bs.length<=140737488355328:=by have:=hBF.bd;have e:reachBytes=140737488351232:=rfl;omega
  clear hSl hSh hKp hDl hu hvF hrA hhq hnK hnM hkE hrB hbo hbA hnF hjf hhr hBF hCW hbs hbn
  go_wp2_with fail
  clear c3
  go_loopg [61] bs.length (fun q s wr=>∃b:Nat,b<=bs.length/\q=bs.length - b/\s=Z b/\SlO 49 6 BlkO wr (.slice (some (J bb 0)) bs.length cb) (qG b (Yz (qN p last)) bs) TF/\Kept TF W wr)
  case atStart=>exact⟨0,by omega,rfl,rfl,by rw[qU];exact HBF.out.sl,Kept.refl _ _⟩
  case round=>
   obtain⟨wo,hwo⟩:=nZ wr;subst hwo;obtain⟨b,hb,rfl,rfl,hO,hK2⟩:=hrel;have hCo:TurnC w.heap.size (w.heap.size+1) A B p last wo:=HCW.out.kept hK2 (fun h=>HN.out.1 (HTF.out.2 _ h)) (fun h=>HN.out.2.1 (HTF.out.2 _ h)) (fun h=>HN.out.2.2.1 (HTF.out.2 _ h)) (fun h=>HN.out.2.2.2 (HTF.out.2 _ h));have HO:=q8 hO;have HK2:=q8 hK2;have HCo:=q8 hCo;have hRF:=HRF.out.other1 (HK2.out.block g zg HTF.out.1);have c3:wo.cell? (J g (k*4+3))=some (.slice (some (J bb 0)) bs.length cb):=hRF.at1 (j:=3) bO;have HRo:=q8 hRF;have zg1:=q9 c3;clear hO hK2 hCo hRF
   by_cases hnN:b<bs.length
   rotate_left
   ·obtain rfl:b=bs.length:=by omega
    go_wp2_with fail
    have hO9:=HO.out;rw[qR]at hO9
    have hF9:FunO wo [.string f.name,Z f.params,Z f.regs,.slice (some (J bb 0)) bs.length cb] (toF (qN p last) f) TF:=by
     have e:bs.map (Yz (qN p last))=(toF (qN p last) f).blocks:=by
      rw[HBs.out];show(f.blocks.map _).map _=f.blocks.map _;rw[yy];rfl
     rw[e]at hO9;exact⟨_,rfl,HNF.out.1,HNF.out.2.1,HNF.out.2.2,⟨hO9,by rw[vh,←HBn.out];exact HBF.out.bd⟩⟩
    have hS9:=HPF.out wo _ (toF (qN p last) f) TF HRo.out rfl (fun u hu=>by
      simp only[yC,yG,yl]at hu
      rcases hu with rfl|rfl|rfl|rfl<;>rfl) HK2.out.size (fun i h1 h2 h3=>HK2.out.block i (HSl.out i h1) h2) hF9 (fun i hi=>⟨.inl hi,by have:=HSl.out i (HTF.out.2 i hi);have:=HK2.out.size;omega⟩)
    rw[List.set_set]at hS9;have haH:=hS9.grow (S':=S) (fun i h=>h.elim id (HTF.out.2 i)) (fun i hi=>by have:=HSl.out i hi;have:=HK2.out.size;omega);have hKw:Kept S W0 wo:=HKp.out.trans HK2.out fun i _ h=>HTF.out.2 i h;have hhs:Kept S w wo:=(Kept.of_below haI.out).trans hKw fun _ _ h=>h;show LeavesInM _ _ _ _ _ _ (X8 [D]) .returning _;have hDw:wo.heap[D]?=some (.deferred (some [])):=(HK2.out.block D (qd HDl.out) (fun h=>by have:=HSb.out D (HTF.out.2 _ h);have:=haI.out.size;omega)).trans HDl.out;have hnD:∀i,S i->i≠D:=fun i hi e=>by have:=HSb.out i hi;have:=haI.out.size;omega
    refine xK W0.heap.size [D] _ bV (fun E hE=>by obtain rfl:E=D:=(by simpa using hE);exact⟨hD,hDw⟩) (fun w' h1 h2 h3 h4 h5=>⟨_,results_none rfl _ _ _,rfl,?_,?_⟩)
    ·exact haH.loc qK (fun i hi=>h5 i (fun h=>hnD i hi (yI.1 h))) h4
    exact⟨h1.trans hhs.os,h2.trans hhs.tape,h3.trans hhs.output,yv hhs.size h4,fun i hi hn=>(h5 i (fun h=>by have:=yI.1 h;have:=haI.out.size;omega)).trans (hhs.block i hi hn)⟩
   obtain⟨gb,qp,cp,v2,v3,S1,hq,hTg,hS1,hn1,h64,hPh,hRb,hhu⟩:=blk_step HO.out hnN;obtain rfl:bb=gb:=(by injection hq with a;injection a);have HRb:=q8 hRb;have HPb:=q8 hhu;have HPh:=q8 hPh;have HS1:=q8 (zh hS1 (zh hn1 hTg));have bi:(b:Int)<bs.length:=(by omega);have bi0:(0:Int)<=(b:Int):=(by omega);obtain⟨y,hy⟩:=nZ (bs[b]);rw[←hy]at HRb HPb HPh h64;have HY:=q8 hy;clear hq hTg hS1 hn1 hPh hRb hhu hy
   go_wp2_with fail
   have hSp:(fun W':World=>W'.cell? (J (w.heap.size+1) 0)=some (.func (.func 78) #[] #[.pointer (some (J w.heap.size 0))])/\W'.cell? (J g (k*4+3))=some (.slice (some (J bb 0)) bs.length cb)) wo.drew:=⟨HCo.out.un,c3⟩;refine qA (S:=(fun W':World=>W'.cell? (J (w.heap.size+1) 0)=some (.func (.func 78) #[] #[.pointer (some (J w.heap.size 0))])/\W'.cell? (J g (k*4+3))=some (.slice (some (J bb 0)) bs.length cb))) bK 9 ?_;refine qx 0 64 (.func (.func 78) #[] #[.pointer (some (J w.heap.size 0))]) rfl rfl hSp (fun W' hS'=>by obtain⟨h1,h2⟩:=hS';go_simp) ?_;refine qx 1 65 (.pointer (some (J g (k*4)))) rfl rfl hSp (fun W' hS'=>by obtain⟨h1,h2⟩:=hS';go_simp) ?_;refine qx 2 66 (.pointer (some (J g (k*4)))) rfl rfl hSp (fun W' hS'=>by obtain⟨h1,h2⟩:=hS';go_simp) ?_;refine qx 3 67 (.pointer (some (J g (k*4+3)))) rfl rfl hSp (fun W' hS'=>by obtain⟨h1,h2⟩:=hS';go_simp) ?_;refine qx 4 68 (.slice (some (J bb 0)) bs.length cb) rfl rfl hSp (fun W' hS'=>by obtain⟨h1,h2⟩:=hS';go_simp) ?_;refine qx 5 69 (Z b) rfl rfl hSp (fun W' hS'=>by obtain⟨h1,h2⟩:=hS';go_simp) ?_;refine qx 6 70 (.pointer (some (J bb (b*6)))) rfl rfl hSp (fun W' hS'=>by obtain⟨h1,h2⟩:=hS';go_simp) ?_;refine qx 7 71 (.pointer (some (J bb (b*6+2)))) rfl rfl hSp (fun W' hS'=>by obtain⟨h1,h2⟩:=hS';go_simp) ?_;refine qx 8 72 (.pointer (some (J bb (b*6+2+1)))) rfl rfl hSp (fun W' hS'=>by obtain⟨h1,h2⟩:=hS';go_simp) ?_;refine qm (i:=9) bK (qt 73 rfl rfl rfl (by go_simp) (ZL bb (b*6+2+1) w.heap.size A B p last y.fin.onn y.fin.onr wo.drew (HRb.out.at1 (j:=3) bO) (HRb.out.at1 (j:=4) bO) (HRb.out.free1 _) h64 HCo.out.fn (HCo.out.at_.other rfl rfl) hp0) ?_);rintro e W5 ⟨rfl,hP⟩;have hK5:Kept (fun i=>i=bb) wo W5:=((Kept.refl (fun i=>i=bb) wo).drew).trans hP.kept (fun _ _ h=>h);have hR5:RowPut wo W5 49 bb (b*6) 6 [.slice qp y.phis.length cp,v2,Z y.fin.kind,.bool y.fin.onr,Z (toW (qN p last) (y.fin.onr,y.fin.onn)).2,v3]:=(HRb.out.other1 rfl:RowPut wo wo.drew 49 bb (b*6) 6 _).put1 (j:=4) rfl bO hP;have hP5:SlO 84 2 PhiO W5 (.slice qp y.phis.length cp) y.phis S1:=HPh.out.sl.kept x8 hK5 fun i e h=>HS1.out.2.1 (by have e:i=bb:=e;exact e ▸ h);have hG5:=HRo.out.other1 (hK5.block g zg1 (fun e=>by have e:g=bb:=e;exact HTF.out.1 (by rw[e];exact HS1.out.2.2)));have hC5:TurnC w.heap.size (w.heap.size+1) A B p last W5:=HCo.out.kept hK5 (fun h=>HN.out.1 (HTF.out.2 _ (by have h:w.heap.size=bb:=h;rw[h];exact HS1.out.2.2))) (fun h=>HN.out.2.1 (HTF.out.2 _ (by have h:w.heap.size+1=bb:=h;rw[h];exact HS1.out.2.2))) (fun h=>HN.out.2.2.1 (HTF.out.2 _ (by have h:A=bb:=h;rw[h];exact HS1.out.2.2))) (fun h=>HN.out.2.2.2 (HTF.out.2 _ (by have h:B=bb:=h;rw[h];exact HS1.out.2.2)));refine⟨_,rfl,⟨hC5.un,hG5.at1 (j:=3) bO⟩,?_⟩;refine⟨by kernel_rfl,?_⟩;unfold calm;dsimp only [Act.put];have d3:W5.cell? (J g (k*4+3))=some (.slice (some (J bb 0)) bs.length cb):=hG5.at1 (j:=3) bO;have d0:W5.cell? (J bb (b*6))=some (.slice qp y.phis.length cp):=hR5.at1 (j:=0) bO;have zd3:=q9 d3;have zd0:=q9 d0;have HK5:=q8 hK5;have HR5:=q8 hR5;have HP5:=q8 hP5;have HG5:=q8 hG5;have HC5:=q8 hC5;have hpl:y.phis.length<=140737488355328:=(by have:=HPh.out.bd;have e:reachBytes=140737488351232:=rfl;omega);clear hSp hP hK5 hR5 hP5 hG5 hC5 c3
   go_wp2_with fail
   clear d3 d0 zd3 zd0
   go_loopg [83] y.phis.length (fun q s wr=>∃m:Nat,m<=y.phis.length/\q=y.phis.length - m/\s=Z m/\SlO 84 2 PhiO wr (.slice qp y.phis.length cp) (qG m (toP (qN p last)) y.phis) S1/\Kept S1 W5 wr)
   case atStart=>exact⟨0,by omega,rfl,rfl,by rw[qU];exact HP5.out,Kept.refl _ _⟩
   case round=>
    obtain⟨wp,hwp⟩:=nZ wr;subst hwp;obtain⟨m,hm,rfl,rfl,hO,hK⟩:=hrel;have hfM:∀i,S1 i->S i:=fun i hi=>HTF.out.2 i (HS1.out.1 i hi);have hCp:TurnC w.heap.size (w.heap.size+1) A B p last wp:=HC5.out.kept hK (fun h=>HN.out.1 (hfM _ h)) (fun h=>HN.out.2.1 (hfM _ h)) (fun h=>HN.out.2.2.1 (hfM _ h)) (fun h=>HN.out.2.2.2 (hfM _ h));have hGp:=HG5.out.other1 (hK.block g (q9 (HG5.out.at1 (j:=3) bO:W5.cell? (J g (k*4+3))=some (.slice (some (J bb 0)) bs.length cb))) (fun h=>HTF.out.1 (HS1.out.1 _ h)));have hRp:=HR5.out.other1 (hK.block bb (q9 (HR5.out.at1 (j:=0) bO:W5.cell? (J bb (b*6))=some (.slice qp y.phis.length cp))) HS1.out.2.1);have d3:wp.cell? (J g (k*4+3))=some (.slice (some (J bb 0)) bs.length cb):=hGp.at1 (j:=3) bO;have d0:wp.cell? (J bb (b*6))=some (.slice qp y.phis.length cp):=hRp.at1 (j:=0) bO;have zd3:=q9 d3;have zd0:=q9 d0;have HOp:=q8 hO;have hnP:=q8 hK;have HCp:=q8 hCp;have hhv:=q8 hfM;have HRp:=q8 hRp;clear hO hK hCp hGp hRp hfM
    by_cases hlm:m<y.phis.length
    rotate_left
    ·obtain rfl:m=y.phis.length:=(by omega);have hP9:=HOp.out;rw[qR]at hP9;have hK9:Kept (fun i=>i=bb\/S1 i) wo wp:=(HK5.out.mono (fun _ _ h=>.inl h)).trans hnP.out (fun _ _ h=>.inr h)
     have hx9:=HPb.out wp (y.phis.map (toP (qN p last))) _ HRp.out hK9.size (fun i hi h1 h2=>hK9.block i (HO.out.inb i hi) (fun h=>h.elim h2 h1)) (ZN (v:=(y.fin.onr,y.fin.onn)) hp0 hcT h64)
      ⟨hP9,by rw[yT];exact HPh.out.bd⟩
     have hn9:(qG b (Yz (qN p last)) bs).set b (Yz (qN p last) y)=qG (b+1) (Yz (qN p last)) bs:=(by rw[HY.out];exact qS hnN);have hhy:SlO 49 6 BlkO wp (.slice (some (J bb 0)) bs.length cb) (qG (b+1) (Yz (qN p last)) bs) TF:=(by rw[←hn9];exact hx9);have HX9:=q8 hhy;have HK9:Hid (Kept TF W wp):=q8 (HK2.out.trans hK9 fun i _ h=>h.elim (fun e=>e ▸ HS1.out.2.2) (HS1.out.1 i));clear hP9 hK9 hx9 hn9 hhy
     go_wp2_with fail
     go_roundg (bs.length - (b+1))
     case measure=>omega
     case rel=>exact⟨b+1,by omega,rfl,by go_num,HX9.out,HK9.out⟩
    obtain⟨gp,qs,cs,Tq,hqq,hTg,e0,e1,hbK,hTq,hnq,hsv,hRq,haE⟩:=KR HOp.out hlm;subst hqq;obtain⟨ph,hph⟩:=nZ (y.phis[m]);rw[←hph]at e0 e1 hbK hsv hRq haE;have hkF:=q8 hph;have HSv:=q8 hsv;have HRq:=q8 hRq;have HPq:=q8 haE;have HTq:=q8 (zh hTq (zh hnq hTg));have ze:=q9 e0;have m0:(0:Int)<=(m:Int):=(by omega);have m1:(m:Int)<y.phis.length:=(by omega);have cT:=HCp.out.fn;clear hsv hRq haE hTq hnq hTg hph
    go_wp2_with fail
    have hSp:(fun W':World=>W'.cell? (J gp (m*2))=some (Z ph.dst)/\W'.cell? (J w.heap.size 0)=some (.func (.func 52) #[] #[.pointer (some (J A 0)),.pointer (some (J B 0))])) wp.drew:=⟨e0,cT⟩;refine qA (S:=(fun W':World=>W'.cell? (J gp (m*2))=some (Z ph.dst)/\W'.cell? (J w.heap.size 0)=some (.func (.func 52) #[] #[.pointer (some (J A 0)),.pointer (some (J B 0))]))) bK 9 ?_;refine qx 0 96 (.pointer (some (J gp (m*2)))) rfl rfl hSp (fun W' hS'=>by obtain⟨h1,h2⟩:=hS';go_simp) ?_;refine qx 1 97 (.func (.func 52) #[] #[.pointer (some (J A 0)),.pointer (some (J B 0))]) rfl rfl hSp (fun W' hS'=>by obtain⟨h1,h2⟩:=hS';go_simp) ?_;refine qx 2 98 (.pointer (some (J gp (m*2)))) rfl rfl hSp (fun W' hS'=>by obtain⟨h1,h2⟩:=hS';go_simp) ?_;refine qx 3 99 (.pointer (some (J gp (m*2)))) rfl rfl hSp (fun W' hS'=>by obtain⟨h1,h2⟩:=hS';go_simp) ?_;refine qx 4 100 (.pointer (some (J gp (m*2)))) rfl rfl hSp (fun W' hS'=>by obtain⟨h1,h2⟩:=hS';go_simp) ?_;refine qx 5 101 (Z ph.dst) rfl rfl hSp (fun W' hS'=>by obtain⟨h1,h2⟩:=hS';go_simp) ?_;refine qm (i:=6) bK (qt 102 rfl rfl rfl (by go_simp) (to_any A B p last ph.dst wp.drew (HCp.out.at_.other rfl rfl) hp0 hbK) ?_);rintro e w' ⟨rfl,rfl⟩;refine⟨_,rfl,hSp,?_⟩;refine qx 7 103 (.pointer (some (J gp (m*2)))) rfl rfl hSp (fun W' hS'=>by obtain⟨h1,h2⟩:=hS';go_simp) ?_;refine qx 8 104 (.pointer (some (J gp (m*2)))) rfl rfl hSp (fun W' hS'=>by obtain⟨h1,h2⟩:=hS';go_simp) ?_;have hkC:=HRq.out.free1;have zed:gp<wp.drew.heap.size:=ze;refine qm (i:=9) bK (qz (wp.drew.setCell (J gp (m*2)) (Z (qN p last ph.dst))) rfl rfl rfl (by obtain⟨h1,h2⟩:=hSp;go_simp) (fun h=>absurd rfl h) ?_);refine⟨by kernel_rfl,?_⟩;unfold calm;dsimp only [Act.put];obtain⟨W6,hW6⟩:=nZ (wp.drew.setCell (J gp (m*2)) (Z (qN p last ph.dst)));rw[←hW6];have hp6:PutAt wp W6 gp (m*2) (Z (qN p last ph.dst)):=(by rw[hW6];exact .set ((Kept.refl _ _).drew) _ _ ze _);have hR6:RowPut wp W6 84 gp (m*2) 2 [Z (qN p last ph.dst),.slice qs ph.src.length cs]:=HRq.out.put1 (j:=0) rfl bO hp6;have hS6:SlO 44 2 jV W6 (.slice qs ph.src.length cs) ph.src Tq:=HSv.out.sl.kept zq hp6.kept fun i e h=>HTq.out.2.1 (by have e:i=gp:=e;exact e ▸ h);have f1:W6.cell? (J gp (m*2+1))=some (.slice qs ph.src.length cs):=hR6.at1 (j:=1) bO;have zf1:=q9 f1;have HP6:=q8 hp6.kept;have HR6:=q8 hR6;have HS6:=q8 hS6;have hsl:ph.src.length<=140737488355328:=(by have:=HSv.out.bd;have e:reachBytes=140737488351232:=rfl;omega);clear hSp hkC zed hW6 hp6 hR6 hS6 e0 e1 cT d3 d0 zd3 zd0
    go_wp2_with fail
    clear f1 zf1
    go_loopg [110] ph.src.length (fun q s wr=>∃r:Nat,r<=ph.src.length/\q=ph.src.length - r/\s=Z r/\SlO 44 2 jV wr (.slice qs ph.src.length cs) (qG r (toW (qN p last)) ph.src) Tq/\Kept Tq W6 wr)
    case atStart=>exact⟨0,by omega,rfl,rfl,by rw[qU];exact HS6.out,Kept.refl _ _⟩
    case round=>
     obtain⟨wq,hwq⟩:=nZ wr;subst hwq;obtain⟨r,hr,rfl,rfl,hV,hKv⟩:=hrel;have haM:Kept (fun i=>i=gp\/Tq i) wp wq:=(HP6.out.mono (fun _ _ h=>.inl h)).trans hKv (fun _ _ h=>.inr h);have hsub:∀i,(i=gp\/Tq i)->S1 i:=fun i h=>h.elim (fun e=>e ▸ HTq.out.2.2) (HTq.out.1 i);have hCq:TurnC w.heap.size (w.heap.size+1) A B p last wq:=HCp.out.kept haM (fun h=>HN.out.1 (hhv.out _ (hsub _ h))) (fun h=>HN.out.2.1 (hhv.out _ (hsub _ h))) (fun h=>HN.out.2.2.1 (hhv.out _ (hsub _ h))) (fun h=>HN.out.2.2.2 (hhv.out _ (hsub _ h)));have hRw:=HR6.out.other1 (hKv.block gp (q9 (HR6.out.at1 (j:=1) bO:W6.cell? (J gp (m*2+1))=some (.slice qs ph.src.length cs))) HTq.out.2.1);have HV:=q8 hV;have HKv:=q8 hKv;have hdK:=q8 haM;have HCq:=q8 hCq;have HRw:=q8 hRw;have HSub:=q8 hsub;have f1:wq.cell? (J gp (m*2+1))=some (.slice qs ph.src.length cs):=hRw.at1 (j:=1) bO;have zf1:=q9 f1;clear hV hKv haM hCq hRw hsub
     by_cases hlr:r<ph.src.length
     rotate_left
     ·obtain rfl:r=ph.src.length:=(by omega);have hV8:=HV.out;rw[qR]at hV8
      have hx8:=HPq.out wq (toP (qN p last) ph) HRw.out hdK.out.size (fun i hi h1 h2=>hdK.out.block i (HOp.out.inb i hi) (fun h=>h.elim h2 h1)) (ZM hp0 hcT hbK)
       ⟨show SlO 44 2 jV wq _ (ph.src.map _) Tq from hV8,by show(ph.src.map _).length*16<=_;rw[yT];exact HSv.out.bd⟩
      have hn8:(qG m (toP (qN p last)) y.phis).set m (toP (qN p last) ph)=qG (m+1) (toP (qN p last)) y.phis:=(by rw[hkF.out];exact qS hlm);rw[hn8]at hx8;have HX8:=q8 hx8;clear hx8 hn8 hV8
      go_wp2_with fail
      go_roundg (y.phis.length - (m+1))
      case measure=>omega
      case rel=>exact⟨m+1,by omega,rfl,by go_num,HX8.out,hnP.out.trans hdK.out fun i _ h=>HSub.out i h⟩
     obtain⟨ga,hqs,haC,a0,a1,afr,av64,ha8⟩:=vals_step HV.out hlr;subst hqs;have HPv:=q8 ha8;have r0:(0:Int)<=(r:Int):=(by omega);have r1:(r:Int)<ph.src.length:=(by omega);obtain⟨vv,hvv⟩:=nZ (ph.src[r]);rw[←hvv]at a0 a1 av64 HPv;clear ha8 hvv
     go_wp2_with fail
     have hSp:(fun W':World=>W'.cell? (J (w.heap.size+1) 0)=some (.func (.func 78) #[] #[.pointer (some (J w.heap.size 0))])/\W'.cell? (J gp (m*2+1))=some (.slice (some (J ga 0)) ph.src.length cs)) wq.drew:=⟨HCq.out.un,f1⟩;refine qA (S:=(fun W':World=>W'.cell? (J (w.heap.size+1) 0)=some (.func (.func 78) #[] #[.pointer (some (J w.heap.size 0))])/\W'.cell? (J gp (m*2+1))=some (.slice (some (J ga 0)) ph.src.length cs))) bK 7 ?_;refine qx 0 113 (.func (.func 78) #[] #[.pointer (some (J w.heap.size 0))]) rfl rfl hSp (fun W' hS'=>by obtain⟨h1,h2⟩:=hS';go_simp) ?_;refine qx 1 114 (.pointer (some (J gp (m*2)))) rfl rfl hSp (fun W' hS'=>by obtain⟨h1,h2⟩:=hS';go_simp) ?_;refine qx 2 115 (.pointer (some (J gp (m*2)))) rfl rfl hSp (fun W' hS'=>by obtain⟨h1,h2⟩:=hS';go_simp) ?_;refine qx 3 116 (.pointer (some (J gp (m*2+1)))) rfl rfl hSp (fun W' hS'=>by obtain⟨h1,h2⟩:=hS';go_simp) ?_;refine qx 4 117 (.slice (some (J ga 0)) ph.src.length cs) rfl rfl hSp (fun W' hS'=>by obtain⟨h1,h2⟩:=hS';go_simp) ?_;refine qx 5 118 (Z r) rfl rfl hSp (fun W' hS'=>by obtain⟨h1,h2⟩:=hS';go_simp) ?_;refine qx 6 119 (.pointer (some (J ga (r*2)))) rfl rfl hSp (fun W' hS'=>by obtain⟨h1,h2⟩:=hS';go_simp) ?_;refine qm (i:=7) bK (qt 120 rfl rfl rfl (by go_simp) (ZL ga (r*2) w.heap.size A B p last vv.2 vv.1 wq.drew a0 a1 afr av64 HCq.out.fn (HCq.out.at_.other rfl rfl) hp0) ?_);rintro e W7 ⟨rfl,hP⟩;obtain⟨hV7,hK7⟩:=HPv.out W7 hP (toW_fst _ vv) (ZN hp0 hcT av64);have hga:ga≠gp:=fun e=>HTq.out.2.1 (e ▸ haC);refine⟨_,rfl,⟨(hK7.cell (p:=(J (w.heap.size+1) 0)) (q9 HCq.out.un) (fun e=>HN.out.2.1 (hhv.out _ (HTq.out.1 _ (by have e:w.heap.size+1=ga:=e;rw[e];exact haC))))).trans HCq.out.un,(hK7.cell (p:=(J gp (m*2+1))) zf1 (fun e=>hga (Eq.symm e))).trans f1⟩,?_⟩;refine⟨by kernel_rfl,?_⟩;unfold calm;dsimp only [Act.put];have HV7:=q8 hV7;have HK7:Hid (Kept Tq W6 W7):=q8 (HKv.out.trans hK7 fun i _ e=>by have e:i=ga:=e;exact e ▸ haC);clear hSp hP hV7 hK7 hga f1 zf1 a0 a1 afr
     go_wp2_with fail
     go_roundg (ph.src.length - (r+1))
     case measure=>omega
     case rel=>exact⟨r+1,by omega,rfl,by go_num,HV7.out,HK7.out⟩
 case stop=>
  rintro D cc i W hD hi h hDl;exact h.elim
end Go.Proofs.YtgjjhadbjmcnpaaGreatDoor
namespace Go.Proofs.YtgjjhadbjmcnpaaGreatDoor
open Go.RowKit Go.Shelf

theorem Qe (g cap n k j:Nat) (xs:List (Bool×Int)) (cur:Array Value) (w:World) (hr:RowAt w 44 g cap 2 cur) (hx:cur.toList.take (n*2)=zl xs) (hl:xs.length=n) (hn:n<=cap) (hk:k<n) (hj:j=k+1) :
  Calls Tryz.prog 53 #[.slice (some (J g 0)) n cap,Z k,Z j] w fun e w'=>
   e = .returned (.slice (some (J g 0)) (n - 1) cap)/\(∃cur',RowAt w' 44 g cap 2 cur'/\cur'.toList.take ((n - 1)*2)=zl (xs.eraseIdx k))/\Kept (fun b=>b=g) w w':=by
 obtain⟨i1,k1,k2,k3,k4⟩:=info_parts vU;have hcm:cap<=9223372036854775807:=hr.2.2;have hcs:=hr.2.1;have hlt:k<j:=by omega
 have hjn:j<=n:=by omega
 obtain⟨news,hnews⟩:=nZ (zl (xs.drop j));have hlen:news.length=(n - j)*2:=by rw[hnews,xy,List.length_drop,hl]
 have hget:∀t u,news[t]?=some u->cur[j*2+t]?=some u:=fun t u hu=>by
  rw[hnews,QT,List.getElem?_drop,←hx]at hu;rw[←xJ];rw[List.getElem?_take]at hu
  split at hu
  ·exact hu
  cases hu
 obtain⟨A,hA,hsrc⟩:∃A:Addr,(if cap=j then some (⟨g,0,none⟩:Addr)else some (J g (j*2)))=some A/\Hid (∀t u,news[t]?=some u->w.drew.cell? (A.add t)=some u):=by
  by_cases h:cap=j
  ·refine⟨⟨g,0,none⟩,by simp[h],fun t u hu=>?_⟩;have h0:news.length=0:=(by rw[hlen];omega);rw[yd.1 h0]at hu;simp at hu
  refine⟨⟨g,j*2,none⟩,by simp[h],fun t u hu=>?_⟩;rw[vC];exact(hr.drew.cell _).trans (hget t u hu)
 have s2:Hid (∀u∈news,u.oneCell'=true):=by rw[hnews];exact Qt _
 have s1:=q8 hlen;obtain⟨c1,hc1⟩:∃c1:List Value,c1=cur.toList.take (k*2)++news++cur.toList.drop (k*2+news.length):=⟨_,rfl⟩
 have hbM:c1.length=cap*2:=by
  rw[hc1];simp only[yN,yr,List.length_drop,Array.length_toList,hcs,hlen];omega
 obtain⟨W1,hW1⟩:=nZ (w.drew.setRow g c1.toArray);have hr1:RowAt W1 44 g cap 2 c1.toArray:=by rw[hW1];exact hr.drew.put hbM
 have hcl:∀ty c,(Builtin.clear_ #[40] ty #[.slice (some (J g ((n - 1)*2))) 1 c]).run Tryz.prog W1 = .ok (.tuple #[]) (W1.setRow g (c1.toArray.toList.take ((n - 1)*2)++(Value.agg #[.bool false,Z 0]).cells.toList++c1.toArray.toList.drop ((n - 1)*2+2)).toArray):=fun ty c=>
  run_clear_row W1 40 44 ty (.agg #[.bool false,Z 0]) 2 Tryz.underlying40 Tryz.zeroValue44 rfl (fun u hu=>by simp[Value.cells]at hu;rcases hu with rfl|rfl<;>rfl) g _ c cap _ hr1 (by simp[hbM];omega)
 have HW:=q8 hW1;have HR:=q8 hr;have HR1:=q8 hr1;have hkc:k<=cap:=by omega
 have hjc:j<=cap:=by omega
 have hkm:k+(n - j)=n - 1:=by omega
 have hn1:n - (n - 1)=1:=by omega
 have HX:=q8 (zh hx (zh hc1 hbM));have HN:=q8 (zh hnews (zh hl hj));have mixed:Tryz.prog.follows .mixedOrders=true:=by kernel_rfl
 clear hW1 hr hr1 hget hlen hnews hx hc1 hbM hj
 go_enter Tryz.func53,Tryz.ntmps53
 go_wp2_with fail
 go_region_law_o (refine step_append_row rfl (.tmp 22) (.tmp 25) 40 rfl 44 i1 2 Tryz.underlying40 k1 k3 g k cap cur (by simp[Act.eval,Act.put]) HR.out.drew A (n - j) (cap - j) news (by simp[Act.eval,Act.put]) s1.out hsrc.out s2.out bO ?_;rw[←HX.out.2.1,←HW.out,hkm])
 go_wp2
 go_ret
 obtain⟨hx,hc1,hbM⟩:=HX.out;obtain⟨hnews,hl,hj⟩:=HN.out
 have hrC:(c1.take ((n - 1)*2)++Value.bool false::Z 0::c1.drop ((n - 1)*2+2)).length=cap*2:=by
  simp only[yN,yr,List.length_drop,hbM,yi];omega
 refine⟨rfl,⟨_,HR1.out.put hrC,?_⟩,((Kept.refl _ _).drew.trans (HW.out ▸ HR.out.drew.keep _) (fun _ _ h=>h)).trans (HR1.out.keep _) (fun _ _ h=>h)⟩
 have e1:c1.take ((n - 1)*2)=zl (xs.eraseIdx k):=by
  have l1:(cur.toList.take (k*2)++news).length=(n - 1)*2:=by
   simp only[yN,yr,Array.length_toList,hcs,s1.out];omega
  rw[hc1,←l1,List.take_left,hnews,List.eraseIdx_eq_take_drop_succ,Qs,QS,←hx,List.take_take,hj];congr 2;omega
 have l2:(c1.take ((n - 1)*2)).length=(n - 1)*2:=by
  simp only[yr,hbM];omega
 show List.take ((n - 1)*2) (c1.take ((n - 1)*2)++_)=_;rw[List.take_append_of_le_length (by rw[l2];exact zK _),List.take_take,Nat.min_self];exact e1
end Go.Proofs.YtgjjhadbjmcnpaaGreatDoor
namespace Go.Proofs.YtgjjhadbjmcnpaaGreatDoor
open Go.RowKit Go.Shelf Go.Sort

theorem qV {l n:Nat} {P:Program} {id:Nat} {Q:Exit->Act->World->Prop} {a:Act} {w:World} {lst:List Oper} (hm:P.follows .mixedOrders=true) (hB:Region.lexB .any lst.toArray=true) (hL:¬ LetsOut Q) (hnd:VG lst.toArray=true)
  (h:wpQuiet P lst.toArray (fun w'=>∃p:Regrown,w'=grow (redrawn w p.d) p.os) (fun a'=>∀w',(∃p:Regrown,w'=grow (redrawn w p.d) p.os)->Q .normal a' w') lst a):(Code.region id lst.toArray true).wpIn (Fence.wide.inRound l) n P Q a w:=by
 simp only[Region.lexB,Bool.and_eq_true]at hB;refine wpIn_region_any hm (jF hL (Z3 hnd) _ _ _ _ (wpAny_of_quiet (C:=fun w'=>∃p:Regrown,w'=grow (redrawn w p.d) p.os) (Q:=fun a'=>∀w',(∃p:Regrown,w'=grow (redrawn w p.d) p.os)->Q .normal a' w') (fun _ w' hw' h=>h w' hw') _ _ _ _ ⟨⟨w.drawn+1,#[]⟩,by rw[grow_empty];rfl⟩ ?_));have:=wpAnyQ_lex (C:=fun w'=>∃p:Regrown,w'=grow (redrawn w p.d) p.os) (md:=.any) hB.1 lst 0 (Array.replicate lst.toArray.size false) a bV (by simpa using hB.2) h;simpa using this
attribute [local go_sem] Oper.semAt_some

theorem del_own {wo:World} {qa:Option Addr} {ca p:Nat} {xs:List (Bool×Int)} {Ti:Blks} (h:SlQ 44 2 16 jV wo (.slice qa xs.length ca) xs Ti) (hp:p<xs.length) :
  ∃ga,qa=some (J ga 0)/\Ti ga/\Calls Tryz.prog 53 #[.slice (some (J ga 0)) xs.length ca,Z p,Z ((p+1:Nat):Int)] wo.drew fun e w'=>
   e = .returned (.slice (some (J ga 0)) (xs.length - 1) ca)/\SlQ 44 2 16 jV w' (.slice (some (J ga 0)) (xs.length - 1) ca) (xs.eraseIdx p) Ti/\Kept (fun b=>b=ga) wo w':=by
 obtain⟨hrow,h64,hbl,hin⟩:=h.sl.row;obtain⟨hl,h1|⟨ga,cap,cur,hv,_,hh,hn,hm,hs,ht⟩⟩:=hrow
 ·obtain⟨h1,h2⟩:=h1;simp at h1;omega
 injection hv with e1 e2 e3;subst e1 e3;have he:(xs.eraseIdx p).length=xs.length - 1:=List.length_eraseIdx_of_lt hp;have hT:Ti ga:=hbl ga rfl;refine⟨ga,rfl,hT,?_⟩;refine(Qe ga ca xs.length p (p+1) xs cur wo.drew ⟨hh,hs,hm⟩ ht rfl hn hp rfl).mono ?_;rintro e w' ⟨rfl,⟨cur',hR,ht'⟩,hK⟩;have hK2:Kept (fun b=>b=ga) wo w':=((Kept.refl (fun b=>b=ga) wo).drew).trans hK fun _ _ h=>h;refine⟨rfl,⟨?_,by rw[he];have:=h.bd;omega⟩,hK2⟩;have hO:=hR.own (n:=xs.length - 1) (xs:=zl (xs.eraseIdx p)) bO (by rw[xy,he]) ht';rw[←he]at hO ⊢
 exact SlO.ofRow hO (fun x hx=>h64 x (List.mem_of_mem_eraseIdx hx)) (fun g hg=>by
  have e:ga=g:=by simpa[Value.ownBlock]using hg
  rw[←e];exact hT) (hin.mono hK2.size)
theorem vI {α:Type} {xs:List α} {k:Nat} (hk:k<xs.length) (h:α->α):xs.set k (h xs[k])=xs.modify k h:=by
 refine yV bV fun i h1 h2=>?_;rw[y8,List.getElem_modify]
 split
 ·next e=>subst e;rfl
 rfl
theorem drop_call {k p q:Nat} {f:FunL} (h:∀b∈f.blocks,∀x∈b.list,x.op=20->x.fn=(k:Int)->q<x.args.length):∀b∈(vW p f).blocks,∀x∈b.list,x.op=20->x.fn=(k:Int)->q<x.args.length:=fun b hb x hx h1 h2=>by
 obtain⟨b',hb',rfl⟩:=yD.1 hb;obtain⟨x',hx',rfl⟩:=yD.1 hx;have:=h b' hb' x' hx' h1 h2;simpa[toI]using this

theorem KS (U g c k p:Nat) (xs:List FunL) (w:World) (S:Blks) (hU:w.cell? (J U 1)=some (.slice (some (J g 0)) xs.length c)) (hUS:¬ S U) (hS:SlO 38 4 FunO w (.slice (some (J g 0)) xs.length c) xs S) (hk:k<xs.length) (hn:xs.length<=140737488355328)
  (h0:∀f∈xs,0<f.blocks.length) (hp:(p:Int)<xs[k].params) (hcall:∀f∈xs,∀b∈f.blocks,∀x∈b.list,x.op=20->x.fn=(k:Int)->p<x.args.length) :
  Calls Tryz.prog 19 #[.pointer (some (J U 0)),Z k,Z p] w fun e w'=>e = .returned (Z (xs[k].params - 1))/\SlO 38 4 FunO w' (.slice (some (J g 0)) xs.length c) (zC k p xs) S/\Kept S w w':=by
 obtain⟨g1,c1,csF,TF,hvF,hgz,hgS,hhq,hFf,hgT,hTS,haL,hcD,⟨curF,hbo⟩,hbA⟩:=hS.focus qK bO hk;obtain rfl:g=g1:=by injection hvF with a;injection a with a;injection a
 obtain⟨f,hf⟩:=nZ (xs[k]);rw[←hf]at hp ⊢;have hfm:f∈xs:=by rw[hf];exact zP hk
 have h0f:0<f.blocks.length:=h0 f hfm;have hnQ:I64 f.params:=by rw[←hf]at hFf;obtain⟨_,_,_,h,_⟩:=hFf;exact h
 have hcT:I64 (f.params - 1):=by unfold I64 at *;omega
 have e1:w.cell? (J g (k*4+1))=some (Z f.params):=by
  rw[←hf]at hFf;obtain⟨_,hcs,_⟩:=hFf;rw[haL 1 bO,hcs];rfl
 have zU:=q9 hU;have HS:=q8 hS;have HF:=q8 hf;have hbU:=q8 hcall;have H0:=q8 h0;have HSz:=q8 hS.inb;have hw1:IntKind.i64.wrap (f.params - 1)=f.params - 1:=by rw[xI];unfold I64 at hcT;omega
 have k0:(0:Int)<=(k:Int):=by omega
 have k1:(k:Int)<xs.length:=by omega
 clear hS hf hcall h0 hvF hgS hhq hFf hgT hTS haL hcD hbo hbA;refine(callsIn_wide (n:=3)).1 ?_;refine callsIn_of_wp_marks Tryz.func19 rfl trivial ?_ rfl;simp only[Tryz.ntmps19,List.size_toArray,yi,List.length_nil,Nat.reduceAdd,Nat.reduceSub,Array.replicate_succ,Array.replicate_zero,List.push_toArray,List.append_toArray,List.nil_append,List.cons_append];refine wpIn_wide.2 ?_
 go_wp2_with fail
 go_quiet (fail)
 go_wp2_with fail
 obtain⟨w0,hw0⟩:=nZ ((((w.alloc (.cells #[Z k] 3)).alloc (.cells #[Z p] 3)).drewN nq).alloc (.cells #[Z (f.params - 1)] 3));rw[←hw0];have hz0:w0.heap.size=w.heap.size+1+1+1:=by rw[hw0];simp
 have hb0:Below w.heap.size w w0:=by rw[hw0];exact bZ
 have hKc:w0.heap[w.heap.size]?=some (.cells #[Z k] 3 (0,0)):=by rw[hw0];exact qh (qh (qB w _))
 have hPc:w0.heap[w.heap.size+1]?=some (.cells #[Z p] 3 (0,0)):=by rw[hw0];exact qh (qr bV)
 have hLc:w0.heap[w.heap.size+1+1]?=some (.cells #[Z (f.params - 1)] 3 (0,0)):=by rw[hw0];exact qr bV
 have HZw:=q8 hz0;have nS:∀i,S i->i<w.heap.size:=HSz.out
 have hT:Calls Tryz.prog 51 #[.pointer (some (J g (k*4))),.func (.func 52) #[] #[.pointer (some (J (w.heap.size+1) 0)),.pointer (some (J (w.heap.size+1+1) 0))]] w0 fun e w'=>e = .returned (.tuple #[])/\SlO 38 4 FunO w' (.slice (some (J g 0)) xs.length c) (xs.set k (toF (qN p (f.params - 1)) f)) S/\Kept S w0 w':=by
  have h:=turn_any g xs.length c k (w.heap.size+1) (w.heap.size+1+1) p (f.params - 1) bO hcT xs w0 S (HS.out.below qK hb0) hk (by rw[←HF.out];exact h0f) ⟨(blk hPc).1 0,(blk hLc).1 0⟩ (fun h=>by have:=nS _ h;omega) (fun h=>by have:=nS _ h;omega);rw[←HF.out]at h;exact h
 refine hT.mono ?_;rintro e W1 ⟨rfl,hS1,hK1⟩;have hk1:k<(xs.set k (toF (qN p (f.params - 1)) f)).length:=by rw[List.length_set];exact hk
 obtain⟨g1,c1',csF,TF,hvF,huW,hgS,hhq,hFf,hgT,hTS,haL,hcD,⟨curF,hbo⟩,hbA⟩:=hS1.focus qK bO hk1;obtain rfl:g=g1:=by injection hvF with a;injection a with a;injection a
 rw[List.getElem_set_self]at hFf;obtain⟨vF,rfl,hnF,hjf,hhr,hBF⟩:=hFf;obtain⟨qF,cF,rfl,_,_⟩:=hBF.sl.val;have e1:W1.cell? (J g (k*4+1))=some (Z f.params):=haL 1 bO;have hL1:=(hK1.block _ bO (fun h=>by have:=nS _ h;omega)).trans hLc;have hP1:=(hK1.block _ bO (fun h=>by have:=nS _ h;omega)).trans hPc;have hC1:=(hK1.block _ bO (fun h=>by have:=nS _ h;omega)).trans hKc;have hU0:=hb0.cell (p:=(J U 1)) zU;have hU1:W1.cell? (J U 1)=some (.slice (some (J g 0)) xs.length c):=(hK1.cell (p:=(J U 1)) (by have:=hb0.size;show U<_;omega) hUS).trans (hU0.trans hU);have l1:W1.cell? (J (w.heap.size+1+1) 0)=some (Z (f.params - 1)):=(blk hL1).1 0;have lz:=qd hL1;have hfr:∀i,W1.frozen? (J g i)=false:=hcD;have hR1:RowPut W1 W1 38 g (k*4) 4 _:=RowPut.same hbo rfl haL
 have hW2:SlO 38 4 FunO (W1.setCell (J g (k*4+1)) (Z (f.params - 1))) (.slice (some (J g 0)) xs.length c) (xs.set k (vW p f)) S:=by
  have hK2:Kept (fun i=>i=g) W1 (W1.setCell (J g (k*4+1)) (Z (f.params - 1))):=(Kept.refl (fun i=>i=g) W1).setCell (p:=(J g (k*4+1))) rfl _
  have h1:=hbA _ _ (vW p f) TF (hR1.set rfl bO (Z (f.params - 1)) (j:=1)) rfl (fun u hu=>by
    simp only[yZ,yQ,yC,yG,yl]at hu;rcases hu with rfl|rfl|rfl|rfl
    ·rfl
    ·rfl
    ·rfl
    rfl) hK2.size (fun i hi h1 h2=>hK2.block i (hS1.inb i hi) h2)
   ⟨_,rfl,hnF,hcT,hhr,⟨hBF.sl.kept qM hK2 (fun i e h=>hgT (by have e:i=g:=e;exact e ▸ h)),hBF.bd⟩⟩ (fun i hi=>⟨.inl hi,by have:=hS1.inb i (hTS i hi);have:=hK2.size;omega⟩)
  rw[List.set_set]at h1;exact h1.grow (fun i h=>h.elim id (hTS i)) (fun i hi=>by have:=hS1.inb i hi;have:=hK2.size;omega)
 have hgU:U≠g:=fun e=>hUS (e ▸ hgS);have hU2:(W1.setCell (J g (k*4+1)) (Z (f.params - 1))).cell? (J U 1)=some (.slice (some (J g 0)) xs.length c):=(zN (a:=(J U 1)) (zJ _ _ _ _ hgU)).trans hU1;have zU2:=q9 hU2;have HL1:=q8 hL1;have HP1:=q8 hP1;have HC1:=q8 hC1;have HU1:=q8 hU1;have HW2:=q8 hW2;have HK1:=q8 hK1;have HB0:=q8 hb0;have HgS:=q8 hgS;have HnS:=q8 nS;clear hw0 hz0 hb0 hKc hPc hLc nS hT hS1 hK1 hvF hgS hhq hnF hjf hhr hBF hgT hTS haL hcD hbo hbA hR1 hW2 hL1 hP1 hC1 hU0
 go_wp2_with fail
 obtain⟨W2,hW2⟩:=nZ (W1.setCell (J g (k*4+1)) (Z (f.params - 1)));rw[←hW2];rw[←hW2]at HW2 hU2 zU2;have hK2:Kept S W1 W2:=by rw[hW2];exact(Kept.refl S W1).setCell (p:=(J g (k*4+1))) HgS.out _
 have hKw:Kept S w W2:=(Kept.of_below HB0.out).trans (HK1.out.trans hK2 fun _ _ h=>h) fun _ _ h=>h;obtain⟨x2,hx2⟩:=nZ (xs.set k (vW p f));have hxl:x2.length=xs.length:=by rw[hx2];simp
 rw[←hx2]at HW2;have hrD:=hK2.size;have hew:∀i,w.heap.size<=i->¬ S i:=fun i hi h=>by have:=HnS.out i h;omega
 have HL2:=q8 ((hK2.block _ (qd HL1.out) (hew _ bO)).trans HL1.out);have HP2:=q8 ((hK2.block _ (qd HP1.out) (hew _ bO)).trans HP1.out);have HC2:=q8 ((hK2.block _ (qd HC1.out) (hew _ bO)).trans HC1.out);have HU2:=q8 hU2;have HKw:=q8 hKw;have HX2:=q8 hx2;have HXl:=q8 hxl;have hcE:=q8 hew;clear hW2 hK2 hKw hx2 hxl hU2 zU2 hrD hew e1 hU1 l1 lz hfr hgU;refine(wpIn_wide (n:=3)).1 ?_;refine wpIn_loop (fun a' w'=>∃(cc:Nat) (Ds:List Nat),(cc<=xs.length/\Ds.Nodup/\(∀D∈Ds,W2.heap.size<=D/\w'.heap[D]?=some (.deferred (some [])))/\SlO 38 4 FunO w' (.slice (some (J g 0)) xs.length c) (qG cc (kK k p) x2) S/\Kept S W2 w')/\a'.defers=X8 Ds/\a'.tmps.size=71/\a'.tmps.getD 0 undef = .pointer (some (J U 0))/\a'.tmps.getD 4 undef = .pointer (some (J w.heap.size 0))/\a'.tmps.getD 5 undef = .pointer (some (J (w.heap.size+1) 0))/\a'.tmps.getD 8 undef = .pointer (some (J (w.heap.size+1+1) 0))/\a'.tmps.getD 33 undef=Z xs.length/\a'.tmps.getD 34 undef=Z cc) (fun a' _=>xs.length - (intOf (a'.tmps.getD 34 undef)).toNat) ?start ?round
 case start=>
  exact⟨0,[],⟨Nat.zero_le _,List.nodup_nil,fun D h=>(by cases h),by rw[qU];exact HW2.out,Kept.refl _ _⟩,rfl,rfl,rfl,rfl,rfl,rfl,rfl,rfl⟩
 case round=>
  rintro⟨ts,ds⟩ wk ⟨cc,Ds,⟨hcc,hN,hD,hL,hK⟩,hdf,hfs,hf0,hf4,hf5,hf8,hkG,hkH⟩;simp only at hdf hfs hf0 hf4 hf5 hf8 hkG hkH;subst hdf;obtain⟨us,hus⟩:∃us:Nat->Value,us=fun i=>ts.getD i undef:=⟨_,rfl⟩
  have hts:ts=((.pointer (some (J U 0)))::(us 1)::(us 2)::(us 3)::(.pointer (some (J w.heap.size 0)))::(.pointer (some (J (w.heap.size+1) 0)))::(us 6)::(us 7)::(.pointer (some (J (w.heap.size+1+1) 0)))::(us 9)::(us 10)::(us 11)::(us 12)::(us 13)::(us 14)::(us 15)::(us 16)::(us 17)::(us 18)::(us 19)::(us 20)::(us 21)::(us 22)::(us 23)::(us 24)::(us 25)::(us 26)::(us 27)::(us 28)::(us 29)::(us 30)::(us 31)::(us 32)::(Z xs.length)::(Z cc)::(us 35)::(us 36)::(us 37)::(us 38)::(us 39)::(us 40)::(us 41)::(us 42)::(us 43)::(us 44)::(us 45)::(us 46)::(us 47)::(us 48)::(us 49)::(us 50)::(us 51)::(us 52)::(us 53)::(us 54)::(us 55)::(us 56)::(us 57)::(us 58)::(us 59)::(us 60)::(us 61)::(us 62)::(us 63)::(us 64)::(us 65)::(us 66)::(us 67)::(us 68)::(us 69)::(us 70)::[]).toArray:=by
   have hfr:=js hfs;rw[←hus]at hfr;have h0:us 0 = .pointer (some (J U 0)):=(by rw[hus];exact hf0);have h4:us 4 = .pointer (some (J w.heap.size 0)):=(by rw[hus];exact hf4);have h5:us 5 = .pointer (some (J (w.heap.size+1) 0)):=(by rw[hus];exact hf5);have h8:us 8 = .pointer (some (J (w.heap.size+1+1) 0)):=(by rw[hus];exact hf8);have h33:us 33=Z xs.length:=(by rw[hus];exact hkG);have h34:us 34=Z cc:=(by rw[hus];exact hkH);refine hfr.trans ?_;show((us 0)::(us 1)::(us 2)::(us 3)::(us 4)::(us 5)::(us 6)::(us 7)::(us 8)::(us 9)::(us 10)::(us 11)::(us 12)::(us 13)::(us 14)::(us 15)::(us 16)::(us 17)::(us 18)::(us 19)::(us 20)::(us 21)::(us 22)::(us 23)::(us 24)::(us 25)::(us 26)::(us 27)::(us 28)::(us 29)::(us 30)::(us 31)::(us 32)::(us 33)::(us 34)::(us 35)::(us 36)::(us 37)::(us 38)::(us 39)::(us 40)::(us 41)::(us 42)::(us 43)::(us 44)::(us 45)::(us 46)::(us 47)::(us 48)::(us 49)::(us 50)::(us 51)::(us 52)::(us 53)::(us 54)::(us 55)::(us 56)::(us 57)::(us 58)::(us 59)::(us 60)::(us 61)::(us 62)::(us 63)::(us 64)::(us 65)::(us 66)::(us 67)::(us 68)::(us 69)::(us 70)::[]).toArray=_;rw[h0,h4,h5,h8,h33,h34]
  clear hus hfs hf0 hf4 hf5 hf8 hkG hkH;subst hts;have HN:=q8 hN;have HD:=q8 hD;have HL:=q8 hL;have HK:=q8 hK;have cU:wk.cell? (J U 1)=some (.slice (some (J g 0)) xs.length c):=(hK.cell (p:=(J U 1)) (q9 HU2.out) hUS).trans HU2.out;have zUk:=q9 cU;have hlk:=(hK.block _ (qd HL2.out) (hcE.out _ bO)).trans HL2.out;have HLk:=q8 hlk;have HPk:=q8 ((hK.block _ (qd HP2.out) (hcE.out _ bO)).trans HP2.out);have HCk:=q8 ((hK.block _ (qd HC2.out) (hcE.out _ bO)).trans HC2.out);have hzk:=hK.size;clear hN hD hL hK hlk;refine wpIn_wide.2 ?_
  by_cases hlt:cc<xs.length
  rotate_left
  ·obtain rfl:cc=xs.length:=(by omega);have l8:wk.cell? (J (w.heap.size+1+1) 0)=some (Z (f.params - 1)):=(blk HLk.out).1 0;have z8:=qd HLk.out
   go_wp2_with fail
   have hfull:=HL.out;rw[←HXl.out,qR]at hfull
   have hdr:x2.map (kK k p)=zC k p xs:=by
    rw[HX2.out];unfold zC;congr 1;rw[HF.out];exact vI hk _
   rw[hdr,HXl.out]at hfull;have hKf:Kept S w wk:=HKw.out.trans HK.out fun _ _ h=>h;show LeavesInM _ _ _ _ _ _ (X8 Ds) .returning _;refine xK W2.heap.size Ds wk HN.out (fun D h=>⟨(HD.out D h).1,(HD.out D h).2⟩) (fun w' h1 h2 h3 h4 h5=>⟨_,results_tmp (t:=6) rfl _ _ _,rfl,?_,?_⟩)
   ·refine hfull.loc qK (fun i hi=>h5 i (fun h=>by have:=(HD.out i h).1;have:=HnS.out i hi;have:=HKw.out.size;omega)) h4
   exact⟨h1.trans hKf.os,h2.trans hKf.tape,h3.trans hKf.output,yv hKf.size h4,fun i hi hn=>(h5 i (fun h=>by have:=(HD.out i h).1;have:=HKw.out.size;omega)).trans (hKf.block i hi hn)⟩
  have c0:(0:Int)<=(cc:Int):=by omega
  have c1:(cc:Int)<xs.length:=by omega
  have hcm:cc<(qG cc (kK k p) x2).length:=by rw[qO,HXl.out];exact hlt
  have hcx:cc<x2.length:=by rw[HXl.out];exact hlt
  obtain⟨g2,c2,csf,Tf,hvf,hkI,hkJ,het,hFf,hkK,hhA,haL,hcD,⟨curf,hbh⟩,_⟩:=HL.out.focus qK bO hcm;obtain rfl:g=g2:=by injection hvf with a;injection a with a;injection a
  rw[xh hcm (zK _)]at hFf;obtain⟨f2,hf2⟩:=nZ (x2[cc]);rw[←hf2]at hFf
  have hgood:0<f2.blocks.length/\∀b∈f2.blocks,∀x∈b.list,x.op=20->x.fn=(k:Int)->p<x.args.length:=by
   have hxc:f2=if k=cc then vW p f else xs[cc]'hlt:=by rw[hf2];simp only[HX2.out];rw[y8]
   by_cases e:k=cc
   ·rw[zZ e]at hxc;rw[hxc];exact⟨by show 0<(f.blocks.map _).length;rw[yT];exact h0f,drop_call (hbU.out f hfm)⟩
   rw[zQ e]at hxc;rw[hxc];exact⟨H0.out _ (zP hlt),hbU.out _ (zP hlt)⟩
  have hset:(qG cc (kK k p) x2).set cc (upI (fun _=>kd k p) f2 0)=qG cc (kK k p) x2:=by
   rw[XT];have e2:=xh (u:=kK k p) hcm (zK _);rw[hf2,←e2,List.set_getElem_self]
  have hlists:=hFf.lists hgood.1;obtain⟨vb,hcU,hnm,hi1,hi2,hBf⟩:=hFf;obtain⟨bb,cb,hcs2,haJ,hbl,hcX⟩:=hlists
  have hvb:vb = .slice (some (J bb 0)) f2.blocks.length cb:=by
   rw[hcU]at hcs2;simpa using hcs2
  subst hvb;subst hcU;have hdJ:=HL.out.inb bb (hhA bb haJ);have e3:wk.cell? (J g (cc*4+3))=some (.slice (some (J bb 0)) f2.blocks.length cb):=haL 3 bO;have HLs:=q8 hcX;have hdZ:=q8 hset;have HF2:=q8 hf2;have hey:=q8 hgood.2;have h0b:=hgood.1;clear hvf hkJ het hkK hhA haL hcD hbh hcs2 haJ hnm hi1 hi2 hBf hcX hset hf2 hgood
  go_wp2_with fail
  refine(Zf (some (J g (cc*4))) wk).mono ?_;rintro e W0 ⟨rfl,hW0⟩;have hb1:Below wk.heap.size wk W0:=by rw[hW0];exact bZ
  have HZ0:Hid (W0.heap.size=wk.heap.size+1):=q8 (by rw[hW0];simp);have hx0:W0.cell? (J wk.heap.size 0)=some (.pointer (some (J g (cc*4)))):=by rw[hW0];exact(blk (qB wk _)).1 0
  have hSk:∀i,S i->i<wk.heap.size:=HL.out.inb
  have hcY:EachSh wk.heap.size g (cc*4) (some (J bb 0)) f2.blocks.length cb (lqW wk bb) (qq f2) (lcW wk bb) W0:=by
   refine⟨hx0,?_,fun mm hmm=>⟨bb,0,rfl,?_⟩⟩
   ·exact(hb1.cell (p:=(J g (cc*4+3))) hkI).trans e3
   rw[yx,hb1.cell (p:=(J bb (mm*6+1))) hdJ];exact(HLs.out mm hmm).1
  have HSH:=q8 hcY;have HS0:Hid (SlO 38 4 FunO W0 (.slice (some (J g 0)) xs.length c) ((qG cc (kK k p) x2).set cc (upI (fun _=>kd k p) f2 0)) S):=q8 (by rw[hdZ.out];exact HL.out.below qK hb1);have HB1:=q8 hb1;have HSk:=q8 hSk;clear hb1 hx0 hcY hW0 hSk
  go_wp2_with fail
  refine(wpIn_wide (n:=3)).1 ?_
  refine jA rfl bO (gf:=74) (lb:=#[.pointer (some (J wk.heap.size 0))]) rfl trivial (enters_of Tryz.func74 bK rfl)
   (XS Fence.wide 2 trivial rfl bO wk.heap.size g (cc*4) cb f2.blocks.length (some (J bb 0)) (lqW wk bb) (lpW wk bb) (qq f2) (lcW wk bb) W0 hbl (fun mm hmm=>(HLs.out mm hmm).2.1) (fun mm hmm h0=>(HLs.out mm hmm).2.2 h0) HSH.out) (fun h k x=>k (h x)) (fun W l o o' _ hl ho _ h=>h.putObj o' hl ho) (zI _ _) (fun i _=>rfl)
   (fun i W=>SlO 38 4 FunO W (.slice (some (J g 0)) xs.length c) ((qG cc (kK k p) x2).set cc (upI (fun _=>kd k p) f2 i)) S/\EachSh wk.heap.size g (cc*4) (some (J bb 0)) f2.blocks.length cb (lqW wk bb) (qq f2) (lcW wk bb) W/\Kept S W0 W)
   (fun _ _ _=>False)
   ((own_slo qK (fun b hb=>by have:=HSk.out b hb;have:=HZ0.out;omega) _).and (own_sh.and (kM (zK _)))) (fun _ _ _ _ _ hs _ _=>hs) ⟨HS0.out,HSH.out,Kept.refl _ _⟩
   (fun i=>{ tmps:=((.pointer (some (J U 0)))::(us 1)::(us 2)::(us 3)::(.pointer (some (J w.heap.size 0)))::(.pointer (some (J (w.heap.size+1) 0)))::(us 6)::(us 7)::(.pointer (some (J (w.heap.size+1+1) 0)))::(Z cc)::((jP (lpW wk bb) (qq f2) f2.blocks.length i))::(us 11)::(us 12)::(us 13)::(us 14)::(us 15)::(us 16)::(us 17)::(us 18)::(us 19)::(us 20)::(us 21)::(us 22)::(us 23)::(us 24)::(us 25)::(us 26)::(us 27)::(us 28)::(us 29)::(us 30)::(us 31)::(us 32)::(Z xs.length)::(Z cc)::(.bool true)::(Z cc)::(.pointer (some (J U 0)))::(.pointer (some (J U 0)))::(.pointer (some (J U 1)))::(.slice (some (J g 0)) xs.length c)::(Z cc)::(.pointer (some (J g (cc*4))))::(.func (.func 74) #[] #[.pointer (some (J wk.heap.size 0))])::((jP (lpW wk bb) (qq f2) f2.blocks.length i))::(us 45)::(us 46)::(us 47)::(us 48)::(us 49)::(us 50)::(us 51)::(us 52)::(us 53)::(us 54)::(us 55)::(us 56)::(us 57)::(us 58)::(us 59)::(us 60)::(us 61)::(us 62)::(us 63)::(us 64)::(us 65)::(us 66)::(us 67)::(us 68)::(us 69)::(us 70)::[]).toArray,defers:=[] }) ?assign ?body ?done ?stop
  case assign=>
   intro l i W K hi hK;unfold Zw
   gi_wp2
   exact hK
  case body=>
   rintro l i W hl hi ⟨hSl,hSh,hKp⟩;obtain⟨m',j,hm',hj,rfl⟩:=kL hi;have hj2:j<f2.blocks[m'].list.length:=by rw[←xn hm'];exact hj
   obtain⟨lb,v,Ti,hlq,hbT,hdX,hep,hci,hlg,haQ,h64,hAr,he3,haJ,hTg,hdC,⟨cur,hay⟩,hput⟩:=J5 hSl hcm hm' hj2 (⟨hSh.fn,fun m hm=>by
    obtain⟨b6,o6,hq6,hc6⟩:=hSh.blk m hm;cases hq6;rw[yx]at hc6
    exact hc6⟩:FunSh g cc bb f2.blocks.length cb (lqW wk bb) (qq f2) (lcW wk bb) W)
   have hpt:jP (lpW wk bb) (qq f2) f2.blocks.length ((xx (qq f2) m').length+j) = .pointer (some (J lb (j*8))):=by
    have h2:=(HLs.out m' hm').2.2 bO;rw[hlq]at h2;injection h2 with h2;injection h2 with h3 h4;rw[kl hm' hj,←h3,←h4,yx]
   rw[hpt];obtain⟨x,hx⟩:=nZ (f2.blocks[m'].list[j]);rw[←hx]at hci h64 hAr hput;obtain⟨qa,ca,rfl,_,_⟩:=hAr.sl.val;have hR0:RowPut W W 51 lb (j*8) 8 (V4 x (.slice qa x.args.length ca)):=RowPut.same hay rfl hci;have y0:W.cell? (J lb (j*8))=some (Z x.op):=hci 0 bO;have y6:W.cell? (J lb (j*8+6))=some (Z x.fn):=hci 6 bO;have hfN:Kept S wk W:=(Kept.of_below HB1.out).trans hKp fun _ _ h=>h;have hCc:=(hfN.block _ (qd HCk.out) (hcE.out _ (zK _))).trans HCk.out;have hPc:=(hfN.block _ (qd HPk.out) (hcE.out _ bO)).trans HPk.out;have yK9:W.cell? (J w.heap.size 0)=some (Z k):=(blk hCc).1 0;have zK9:=qd hCc;have hlen:x.op=20->x.fn=(k:Int)->p<x.args.length:=hey.out _ (zP hm') x (by rw[hx];exact zP hj2)
   have haR:kd k p x=x->∀Wq,Below W.heap.size W Wq->jz W0.heap.size (fun W W'=>EachSh wk.heap.size g (cc*4) (some (J bb 0)) f2.blocks.length cb (lqW wk bb) (qq f2) (lcW wk bb) W->EachSh wk.heap.size g (cc*4) (some (J bb 0)) f2.blocks.length cb (lqW wk bb) (qq f2) (lcW wk bb) W') (fun i W=>SlO 38 4 FunO W (.slice (some (J g 0)) xs.length c) ((qG cc (kK k p) x2).set cc (upI (fun _=>kd k p) f2 i)) S/\EachSh wk.heap.size g (cc*4) (some (J bb 0)) f2.blocks.length cb (lqW wk bb) (qq f2) (lcW wk bb) W/\Kept S W0 W) (fun _ _ _=>False) ((xx (qq f2) m').length+j) W .normal Wq:=fun h1 Wq hb=>by
    have hS2:SlO 38 4 FunO W (.slice (some (J g 0)) xs.length c) ((qG cc (kK k p) x2).set cc (upI (fun _=>kd k p) f2 ((xx (qq f2) m').length+j+1))) S:=by
     rw[←Kx hm' hj2 (by rw[←hx];exact h1)];exact hSl
    refine⟨⟨hb.size,fun q o _ hq _=>(hb.block q (qd hq)).trans hq⟩,fun h=>h.below hb,hS2.below qK hb,hSh.below hb,hKp.trans (Kept.of_below hb) (fun _ _ h=>h)⟩
   have hnS:∀(Wz:World) (y:InsL) (v':Value),Kept (fun b=>b=lb\/Ti b) W Wz->RowPut W Wz 51 lb (j*8) 8 (V4 y v')->v'.oneCell'=true->Ins64 y->SlQ 44 2 16 jV Wz v' y.args Ti->kd k p x=y->jz W0.heap.size (fun W W'=>EachSh wk.heap.size g (cc*4) (some (J bb 0)) f2.blocks.length cb (lqW wk bb) (qq f2) (lcW wk bb) W->EachSh wk.heap.size g (cc*4) (some (J bb 0)) f2.blocks.length cb (lqW wk bb) (qq f2) (lcW wk bb) W') (fun i W=>SlO 38 4 FunO W (.slice (some (J g 0)) xs.length c) ((qG cc (kK k p) x2).set cc (upI (fun _=>kd k p) f2 i)) S/\EachSh wk.heap.size g (cc*4) (some (J bb 0)) f2.blocks.length cb (lqW wk bb) (qq f2) (lcW wk bb) W/\Kept S W0 W) (fun _ _ _=>False) ((xx (qq f2) m').length+j) W .normal Wz:=fun Wz y v' hK hR hv hy hA hG=>by
    have hTz:∀b,Ti b->b<W.heap.size:=fun b hb=>hAr.sl.inb b hb;have hnew:=hput Wz y v' Ti hR hv hK.size (fun b hb h1 h2=>hK.block b (by have:=HSk.out b hb;have:=HB1.out.size;have:=hKp.size;omega) (fun h=>h.elim h2 h1)) hy hA (fun b hb=>⟨.inl hb,by have:=hTz b hb;have:=hK.size;omega⟩) hG;have heu:=hnew.grow (S':=S) (fun b hb=>hb.elim id (hdC b)) (fun b hb=>by have:=HSk.out b hb;have:=HB1.out.size;have:=hKp.size;have:=hK.size;omega);have hKS:Kept S W Wz:=hK.mono fun b _ h=>h.elim (fun e=>by have e:b=lb:=e;rw[e];exact hbT) (hdC b)
    have hhp:EachSh wk.heap.size g (cc*4) (some (J bb 0)) f2.blocks.length cb (lqW wk bb) (qq f2) (lcW wk bb) Wz:=hSh.other fun b o v hc hw=>by
     have hbz:=q9 hc;refine(zN (a:=(J b o)) (hK.block b hbz ?_)).trans hc;rcases hw with e|e|⟨o',e⟩
     ·intro e2;have:S b:=e2.elim (fun e3=>by have e3:b=lb:=e3;rw[e3];exact hbT) (hdC b);have:=HSk.out b this;omega
     ·exact fun e2=>e2.elim (fun e3=>hlg (by rw[←e];exact Eq.symm e3)) (fun h=>hTg (by rw[←e];exact h))
     have e3:bb=b:=(by injection e with e;injection e);exact fun e2=>e2.elim (fun e4=>haQ (by rw[e3];exact Eq.symm e4)) (fun h=>haJ (by rw[e3];exact h))
    exact⟨⟨hKS.size,fun q o hq0 hq _=>(hKS.block q (qd hq) (fun h=>by have:=HSk.out q h;have:=HB1.out.size;omega)).trans hq⟩,fun _=>hhp,heu,hhp,hKp.trans hKS (fun _ _ h=>h)⟩
   have z0:∀d os,(grow (redrawn W d) os).cell? (J lb (j*8))=some (Z x.op):=cell_regrown y0;have z6:∀d os,(grow (redrawn W d) os).cell? (J lb (j*8+6))=some (Z x.fn):=cell_regrown y6;have zk9:∀d os,(grow (redrawn W d) os).cell? (J w.heap.size 0)=some (Z k):=cell_regrown yK9;have hbB:=q8 haR;have hrE:=q8 hnS;have HR0:=q8 hR0;have HPc:=q8 hPc;have HAr:=q8 hAr;have H64:=q8 h64;have HTl:=q8 he3;have HnP:Hid (¬ Ti (w.heap.size+1)/\w.heap.size+1≠lb):=q8 ⟨fun h=>hcE.out _ bO (hdC _ h),fun e=>hcE.out _ bO (e ▸ hbT)⟩;clear hSl hSh hKp hlq hep hci h64 hAr hput hpt hR0 hay hx he3 haJ hTg hdC haR hnS hfN hCc hPc y0 y6 yK9
   by_cases hop:x.op=20
   rotate_left
   ·have q20:(x.op == 20)=false:=(by simp[hop]);have hid:kd k p x=x:=(by unfold kd;rw[zQ fun h=>hop h.1]);clear hlen hop
    gi_wp2
    refine qV bK bK (fun⟨_,_,h⟩=>h.2) bK ?_
    repeat go_big_quiet_step (fail)
    refine wpQuiet_nil ?_;intro Wq hWq
    have hbq:Below W.heap.size W Wq:=by
     obtain⟨p,rfl⟩:=hWq;exact below_regrown _ _ _
    clear hWq
    gi_wp2
    exact hbB.out hid Wq hbq
   have q20:(x.op == 20)=true:=by simp[hop]
   by_cases hfn:x.fn=(k:Int)
   rotate_left
   ·have qk:(x.fn == (k:Int))=false:=(by simp[hfn]);have hid:kd k p x=x:=(by unfold kd;rw[zQ fun h=>hfn h.2]);clear hlen hop hfn
    gi_wp2
    refine qV bK bK (fun⟨_,_,h⟩=>h.2) bK ?_
    repeat go_big_quiet_step (fail)
    refine wpQuiet_nil ?_;intro Wq hWq
    have hbq:Below W.heap.size W Wq:=by
     obtain⟨p,rfl⟩:=hWq;exact below_regrown _ _ _
    clear hWq
    gi_wp2
    exact hbB.out hid Wq hbq
   have qk:(x.fn == (k:Int))=true:=(by simp[hfn]);have hpl:=hlen hop hfn;have HOp:=q8 (zh hop hfn);clear hlen hop hfn
   gi_wp2
   refine qV bK bK (fun⟨_,_,h⟩=>h.2) bK ?_
   repeat go_big_quiet_step (fail)
   refine wpQuiet_nil ?_;intro Wq hWq
   have hbq:Below W.heap.size W Wq:=by
    obtain⟨p,rfl⟩:=hWq;exact below_regrown _ _ _
   clear hWq;obtain⟨ga,hqa,haC,hdel⟩:=del_own (⟨HAr.out.sl.below zq hbq,HAr.out.bd⟩:SlQ 44 2 16 jV Wq (.slice qa x.args.length ca) x.args Ti) hpl;subst hqa;have hrF:=q8 hdel;have hRq:=HR0.out.other1 (hbq.block lb hdX);have hPq:=(hbq.block _ (qd HPc.out)).trans HPc.out;have c7:Wq.cell? (J lb (j*8+7))=some (.slice (some (J ga 0)) x.args.length ca):=hRq.at1 (j:=7) bO;have cP:Wq.cell? (J (w.heap.size+1) 0)=some (Z p):=(blk hPq).1 0;have HRq:=q8 hRq;have hga:ga≠lb:=fun e=>HTl.out (e ▸ haC);have hpw:(p:Int)<=140737488355328:=(by have:=HAr.out.bd;have e:reachBytes=140737488351232:=rfl;omega);clear hdel hRq hPq
   gi_wp2
   have hSp:(fun W':World=>W'.cell? (J lb (j*8+7))=some (.slice (some (J ga 0)) x.args.length ca)/\W'.cell? (J (w.heap.size+1) 0)=some (Z p)) Wq.drew:=⟨c7,cP⟩;refine zi (S:=(fun W':World=>W'.cell? (J lb (j*8+7))=some (.slice (some (J ga 0)) x.args.length ca)/\W'.cell? (J (w.heap.size+1) 0)=some (Z p))) bK (fun⟨_,_,h⟩=>h.2) bK 11 ?_;refine qx 0 58 (.pointer (some (J lb (j*8)))) rfl rfl hSp (fun W' hS'=>by obtain⟨h1,h2⟩:=hS';go_simp) ?_;refine qx 1 59 (.pointer (some (J lb (j*8)))) rfl rfl hSp (fun W' hS'=>by obtain⟨h1,h2⟩:=hS';go_simp) ?_;refine qx 2 60 (.pointer (some (J lb (j*8)))) rfl rfl hSp (fun W' hS'=>by obtain⟨h1,h2⟩:=hS';go_simp) ?_;refine qx 3 61 (.pointer (some (J lb (j*8+7)))) rfl rfl hSp (fun W' hS'=>by obtain⟨h1,h2⟩:=hS';go_simp) ?_;refine qx 4 62 (.slice (some (J ga 0)) x.args.length ca) rfl rfl hSp (fun W' hS'=>by obtain⟨h1,h2⟩:=hS';go_simp) ?_;refine qx 5 63 (Z p) rfl rfl hSp (fun W' hS'=>by obtain⟨h1,h2⟩:=hS';go_simp) ?_;refine qx 6 64 (Z p) rfl rfl hSp (fun W' hS'=>by obtain⟨h1,h2⟩:=hS';go_simp) ?_;refine qx 7 65 (Z ((p+1:Nat):Int)) rfl rfl hSp (fun W' hS'=>by obtain⟨h1,h2⟩:=hS';go_simp;rw[xI];omega) ?_;refine qm (i:=8) bK (qt 66 rfl rfl rfl (by go_simp) hrF.out ?_);rintro e W8 ⟨rfl,hA8,hK8⟩;have hfO:(fun W':World=>W'.cell? (J lb (j*8+7))=some (.slice (some (J ga 0)) x.args.length ca)/\W'.cell? (J (w.heap.size+1) 0)=some (Z p)) W8:=⟨(hK8.cell (p:=(J lb (j*8+7))) (q9 c7) (fun e=>hga (Eq.symm e))).trans c7,(hK8.cell (p:=(J (w.heap.size+1) 0)) (q9 cP) (fun e=>HnP.out.1 (by have e:w.heap.size+1=ga:=e;rw[e];exact haC))).trans cP⟩;refine⟨_,rfl,hfO,?_⟩;refine qx 9 67 (.pointer (some (J lb (j*8)))) rfl rfl hfO (fun W' hS'=>by obtain⟨h1,h2⟩:=hS';go_simp) ?_;refine qx 10 68 (.pointer (some (J lb (j*8+7)))) rfl rfl hfO (fun W' hS'=>by obtain⟨h1,h2⟩:=hS';go_simp) ?_;have hR8:=HRq.out.other1 (hK8.block lb (q9 c7) (fun e=>hga (Eq.symm e)));have hrG:=hR8.free1;have hz8:lb<W8.heap.size:=q9 hfO.1;refine qm (i:=11) bK (qz (W8.setCell (J lb (j*8+7)) (.slice (some (J ga 0)) (x.args.length - 1) ca)) rfl rfl rfl (by obtain⟨h1,h2⟩:=hfO;go_simp) (fun h=>absurd rfl h) ?_);refine⟨by kernel_rfl,?_⟩;have hR9:=hR8.set (j:=7) rfl bO (.slice (some (J ga 0)) (x.args.length - 1) ca);have hK9:Kept (fun b=>b=lb) W8 (W8.setCell (J lb (j*8+7)) (.slice (some (J ga 0)) (x.args.length - 1) ca)):=(Kept.refl (fun b=>b=lb) W8).setCell (p:=(J lb (j*8+7))) rfl _;have hKa:Kept (fun b=>b=lb\/Ti b) W (W8.setCell (J lb (j*8+7)) (.slice (some (J ga 0)) (x.args.length - 1) ca)):=((Kept.of_below hbq).trans hK8 (fun b _ e=>by have e:b=ga:=e;exact .inr (e ▸ haC))).trans hK9 (fun b _ e=>.inl e);have hfin:=hrE.out _ { x with args:=x.args.eraseIdx p } (.slice (some (J ga 0)) (x.args.length - 1) ca) hKa hR9 rfl ⟨H64.out.op,H64.out.dst,H64.out.an,H64.out.bn,H64.out.fn⟩ ⟨hA8.sl.kept zq hK9 fun b e h=>HTl.out (by have e:b=lb:=e;exact e ▸ h),hA8.bd⟩ (by unfold kd;rw[zZ HOp.out]);have HFin:=q8 hfin;clear hSp hfO hR8 hrG hz8 hR9 hK9 hKa hfin hA8 hK8 c7 cP
   gi_wp2
   exact HFin.out
  case done=>
   rintro D W hD ⟨hSl,hSh,hKp⟩ hDl;have hu:upI (fun _=>kd k p) f2 (xx (qq f2) f2.blocks.length).length=kK k p f2:=(by rw[VJ];rfl);rw[hu,HF2.out,qS hcx]at hSl;have hfN:Kept S wk W:=(Kept.of_below HB1.out).trans hKp fun _ _ h=>h;have HS2:=q8 hSl;have hhB:=q8 hfN;have HDl:=q8 hDl;clear hSl hSh hKp hfN hDl hu
   go_wp2_with fail
   refine⟨⟨cc+1,D::Ds,⟨by omega,List.nodup_cons.2 ⟨fun h=>?_,HN.out⟩,fun E hE=>?_,HS2.out,HK.out.trans hhB.out fun _ _ h=>h⟩,rfl,?_⟩,?_⟩
   ·have:=(HD.out D h).2;have:=qd this;have:=HZ0.out;omega
   ·rcases yC.1 hE with rfl|hE
    ·exact⟨by have:=HZ0.out;omega,HDl.out⟩
    obtain⟨d1,d2⟩:=HD.out E hE;exact⟨d1,(hhB.out.block _ (qd d2) (fun h=>by have:=HnS.out E h;have:=HKw.out.size;omega)).trans d2⟩
   ·exact⟨rfl,rfl,rfl,rfl,rfl,rfl,by show Z _=_;go_num⟩
   simp[intOf];omega
  case stop=>
   rintro D ccc i W hD hi h hDl;exact h.elim
end Go.Proofs.YtgjjhadbjmcnpaaGreatDoor
namespace Go.Proofs.YtgjjhadbjmcnpaaGreatDoor
open Go.RowKit

theorem SlW.glue {α:Type} {e:TypeId} {size:Nat} {R:ElemO α} {W W2:World} {v1 v2 v':Value} {xs1 xs2:List α} {S1 S2:Blks} {cs1 cs2:Nat->List Value} {T1 T2:Nat->Blks} (hR:kY R) (h1:SlW e size R W v1 xs1 S1 cs1 T1) (h2:SlW e size R W v2 xs2 S2 cs2 T2)
  (h0:∀i,i<xs1.length->∀k,¬ T1 i k) (hk:∀k,S2 k->W2.heap[k]?=W.heap[k]?) (hs:W.heap.size<=W2.heap.size) (ho:W2.ownsRow W.heap.size e size v' (xs1.length+xs2.length) ((List.range xs1.length).flatMap cs1++(List.range xs2.length).flatMap cs2)) :
  SlO e size R W2 v' (xs1++xs2) (fun k=>S2 k\/(W.heap.size<=k/\k<W2.heap.size)):=by
 have hlow:∀g,v'.ownBlock=some g->W.heap.size<=g/\g<W2.heap.size:=fun g hg=>by
  rcases ho.2 with⟨rfl,_⟩|⟨g',cap,cur,rfl,hb,hc,_⟩
  ·cases hg
  have e:g'=g:=by simpa[Value.ownBlock]using hg
  subst e;exact⟨hb,qd hc⟩
 have hl:(xs1++xs2).length=xs1.length+xs2.length:=yN
 have hhC:(List.range (xs1++xs2).length).flatMap (fun i=>if i<xs1.length then cs1 i else cs2 (i - xs1.length))=(List.range xs1.length).flatMap cs1++(List.range xs2.length).flatMap cs2:=by
  rw[hl,List.range_add,yn,List.flatMap_map];congr 1
  ·rw[List.flatMap_def,List.flatMap_def,ya fun i hi=>zZ (yR.1 hi)]
  rw[List.flatMap_def,List.flatMap_def,ya fun i _=>by rw[zQ (by omega:¬ xs1.length+i<xs1.length),Nat.add_sub_cancel_left]]
 refine⟨fun i=>if i<xs1.length then cs1 i else cs2 (i - xs1.length),fun i=>if i<xs1.length then T1 i else T2 (i - xs1.length),⟨?_,?_⟩,fun i hi=>?_,fun i hi=>?_,fun i hi=>?_,fun i j hi hj hij=>?_,fun i hi g hg=>?_,fun g hg=>.inr (hlow g hg),fun i hi=>?_,fun k hk=>?_⟩
 ·rw[hhC,hl];exact ho.1
 ·rw[hhC,hl];rcases ho.2 with h|⟨g,cap,cur,hv,_,r⟩
  ·exact .inl h
  exact .inr ⟨g,cap,cur,hv,Nat.zero_le _,r⟩
 ·split
  ·next h=>exact h1.len i h
  exact h2.len _ bO
 ·split
  ·next h=>exact h1.one i h
  exact h2.one _ bO
 ·split
  ·next h=>
   rw[List.getElem_append_left h];exact hR _ _ _ _ _ (h1.el i h) (fun k hk2=>(h0 i h k hk2).elim) hs
  next h=>
  rw[List.getElem_append_right bO];exact hR _ _ _ _ _ (h2.el _ bO) (fun k hk2=>hk k (h2.sub _ bO k hk2)) hs
 ·split<;>split
  ·next a b=>exact h1.two i j a b hij
  ·next a b=>exact fun k x y=>h0 _ a k x
  ·next a b=>exact fun k x y=>h0 _ b k y
  next a b=>exact h2.two _ _ bO bO bO
 ·have:=(hlow g hg).1
  split
  ·next a=>exact fun h=>h0 _ a g h
  next a=>exact fun h=>by have:=h2.inb g (h2.sub _ bO g h);omega
 ·split
  ·next a=>exact fun k h=>(h0 _ a k h).elim
  next a=>exact fun k h=>.inl (h2.sub _ bO k h)
 rcases hk with h|h
 ·have:=h2.inb k h;omega
 exact h.2
structure RowX (W:World) (v:Value) (n:Nat) (X:List Value):Prop where
 len:X.length=n*8
 one:∀u∈X,u.oneCell'=true
 val:∃q c,v = .slice q n c/\(q=none->n=0)/\∀a,q=some a->∀j u,X[j]?=some u->W.cell? (a.add j)=some u
theorem SlW.rowX {α:Type} {e:TypeId} {R:ElemO α} {W:World} {v:Value} {xs:List α} {S:Blks} {cs:Nat->List Value} {T:Nat->Blks} (h:SlW e 8 R W v xs S cs T):RowX W v xs.length ((List.range xs.length).flatMap cs):=by
 refine⟨h.own.1,fun u hu=>?_,?_⟩
 ·obtain⟨i,hi,hu⟩:=yU.1 hu;exact h.one i (yR.1 hi) u hu
 rcases h.own.2 with⟨h1,h2⟩|⟨g,cap,cur,hv,r⟩
 ·exact⟨none,0,by rw[h1,h2],fun _=>h2,fun a ha=>by cases ha⟩
 refine⟨some (J g 0),cap,hv,fun h=>(by cases h),fun a ha j u hu=>?_⟩;cases ha;exact h.own.cells (g:=g) (by rw[hv];rfl) j u hu
structure HeadR (W:World) (B:Nat) (hv:Value) (hd:List InsL):Prop where
 own:W.ownsRow B 51 8 hv hd.length (hd.flatMap fun x=>V4 x (.slice none 0 0))
 ins:∀x∈hd,Ins64 x/\x.args=[]
theorem HeadR.slW {W:World} {B:Nat} {hv:Value} {hd:List InsL} (h:HeadR W B hv hd):SlW 51 8 InsO W hv hd (fun b=>hv.ownBlock=some b) (fun i=>V4 (hd.getD i (j8 0 0)) (.slice none 0 0)) (fun _ _=>False):=by
 have hfl:(List.range hd.length).flatMap (fun i=>V4 (hd.getD i (j8 0 0)) (.slice none 0 0))=hd.flatMap fun x=>V4 x (.slice none 0 0):=by
  rw[List.flatMap_def,List.flatMap_def];congr 1;refine yV bV fun i h1 h2=>?_;have h3:i<hd.length:=by simpa using h2
  simp[List.getD,h3]
 refine⟨?_,fun i hi=>rfl,fun i hi u hu=>?_,fun i hi=>?_,fun i j _ _ _ k h=>h.elim,fun i hi g _ h=>h,fun g hg=>hg,fun i hi k h=>h.elim,fun b hb=>?_⟩
 ·rw[hfl];refine⟨h.own.1,?_⟩;rcases h.own.2 with h|⟨g,cap,cur,hv,_,r⟩
  ·exact .inl h
  exact .inr ⟨g,cap,cur,hv,Nat.zero_le _,r⟩
 ·simp only[V4,yC,yG,yl]at hu;rcases hu with rfl|rfl|rfl|rfl|rfl|rfl|rfl|rfl<;>rfl
 ·have e:hd.getD i (j8 0 0)=hd[i]:=by simp[List.getD,hi]
  rw[e];obtain⟨h1,h2⟩:=h.ins _ (zP hi);exact⟨_,rfl,h1.op,h1.dst,h1.an,h1.bn,h1.fn,by rw[h2];exact⟨SlO.nil _ _ _ _ (fun _ h=>h.elim),by simp⟩⟩
 rcases h.own.2 with⟨rfl,_⟩|⟨g,cap,cur,rfl,_,hc,_⟩
 ·cases hb
 have e:g=b:=by simpa[Value.ownBlock]using hb
 exact e ▸ qd hc
theorem head_own {W:World} {g n c k:Nat} {xs:List FunL} {hd:List InsL} {S:Blks} {hv:Value} (h:SlO 38 4 FunO W (.slice (some (J g 0)) n c) xs S) (hk:k<xs.length) (h0:0<xs[k].blocks.length) {B:Nat} (hh:HeadR W B hv hd)
  (hbd:(hd++xs[k].blocks[0].list).length*80<=reachBytes) :
  ∃bb cb v2 X1 X2,W.cell? (J g (k*4+3))=some (.slice (some (J bb 0)) xs[k].blocks.length cb)/\S bb/\bb<W.heap.size/\(∀o,W.frozen? (J bb o)=false)/\W.cell? (J bb 1)=some v2/\RowX W hv hd.length X1/\RowX W v2 xs[k].blocks[0].list.length X2/\
   ∀W1 W2 v',Below W.heap.size W W1->W1.ownsRow W.heap.size 51 8 v' (hd.length+xs[k].blocks[0].list.length) (X1++X2)->W2=W1.setCell (J bb 1) v'->
    SlO 38 4 FunO W2 (.slice (some (J g 0)) n c) (xs.modify k (zF hd)) (fun b=>S b\/(W.heap.size<=b/\b<W2.heap.size)):=by
 obtain⟨g',c',cs',T',hv',hhg,hdW,hcl',hF',hdB,ha9,hbZ,hje,⟨cur',hcQ⟩,hcS⟩:=h.focus qK bO hk
 obtain rfl:g=g':=by
  injection hv' with a;injection a with a;injection a
 obtain⟨v,hcs,hnm,i1,i2,hB⟩:=hF';obtain⟨bb,cb,cB,TB,hvb,hbz,hTb,hlB,hed,hnb,hTB,hcB,hfB,⟨curB,hcG⟩,hput⟩:=hB.sl.focus qM bO h0;obtain⟨v1,v2,v3,S1,S2,S3,rfl,j1,j2,h3,h4,h5,a1,a2,a3,g1,g2,g3⟩:=hed;obtain⟨csl,Tl,hl⟩:=h4.sl;have hhw:=hh.slW;subst hcs hvb;have hbg:bb≠g:=fun e=>hdB (e ▸ hTb);have e0:W.cell? (J bb (0*6+1))=_:=hcB 1 bO;rw[Nat.zero_mul,yx]at e0;refine⟨bb,cb,v2,_,_,hbZ 3 bO,ha9 _ hTb,hbz,hfB,e0,hhw.rowX,hl.rowX,fun W1 W2 v' hb ho hW2=>?_⟩;have hP:PutAt W W2 bb (0*6+1) v':=by rw[hW2];exact .set (Kept.of_below hb) bb 1 hbz v'
 have hK:=hP.kept;have hsz:W1.heap.size=W2.heap.size:=by rw[hW2];simp[World.setCell]
 have hew:¬ S2 bb:=fun h=>hnb (g2 _ h)
 have ho2:W2.ownsRow W.heap.size 51 8 v' (hd.length+xs[k].blocks[0].list.length) ((List.range hd.length).flatMap (fun i=>V4 (hd.getD i (j8 0 0)) (.slice none 0 0))++(List.range xs[k].blocks[0].list.length).flatMap csl):=by
  refine⟨ho.1,?_⟩;rcases ho.2 with h|⟨gq,cap,cur,hv,hbq,hc,r⟩
  ·exact .inl h
  exact .inr ⟨gq,cap,cur,hv,hbq,by rw[hW2,zJ _ _ _ _ (by show gq≠bb;omega)];exact hc,r⟩
 have hL:=SlW.glue (W2:=W2) qT hhw hl (fun _ _ _ h=>h) (fun b hb2=>hK.block b (hl.inb b hb2) (fun e=>hew (e ▸ hb2))) hK.size ho2
 have hone:v'.oneCell'=true:=by
  rcases ho.2 with⟨rfl,_⟩|⟨_,_,_,rfl,_⟩<;>rfl
 have hkeep:∀b,TB b->W2.heap[b]?=W.heap[b]?:=fun b hb2=>hK.block b (h.inb b (ha9 _ (hTB _ hb2))) (fun e=>hnb (e ▸ hb2))
 have hF2:=hput W2 _ { xs[k].blocks[0]with list:=hd++xs[k].blocks[0].list } (fun b=>TB b\/(W.heap.size<=b/\b<W2.heap.size)) ((RowPut.same hcG rfl hcB:RowPut W W 49 bb (0*6) 6 _).put1 (j:=1) rfl bO hP) rfl (fun u hu=>by
   simp only[yZ,yQ,yC,yG,yl]at hu
   have hx3:∀{α:Type} {e:TypeId} {sz bt:Nat} {R:ElemO α} {w:World} {v:Value} {l:List α} {S:Blks},SlQ e sz bt R w v l S->v.oneCell'=true:=fun hq=>by
    obtain⟨p,c,e,_⟩:=hq.sl.val;rw[e];rfl
   rcases hu with rfl|rfl|rfl|rfl|rfl|rfl
   ·exact hx3 h3
   ·exact hone
   ·rfl
   ·rfl
   ·rfl
   exact hx3 h5) hK.size (fun b hb1 hb2 hb3=>hK.block b (h.inb b (ha9 _ hb1)) hb3)
  (by
   refine⟨v1,v',v3,S1,_,S3,rfl,j1,j2,h3.loc x8 (fun _ g=>g) (fun b hb2=>hkeep b (g1 b hb2)) hK.size,⟨hL,hbd⟩,h5.loc xk (fun _ g=>g) (fun b hb2=>hkeep b (g3 b hb2)) hK.size,fun b x y=>?_,a2,fun b x y=>?_,fun b x=>.inl (g1 b x),fun b x=>?_,fun b x=>.inl (g3 b x)⟩
   ·rcases y with y|y
    ·exact a1 b x y
    have:=h3.sl.inb b x;omega
   ·rcases x with x|x
    ·exact a3 b x y
    have:=h5.sl.inb b y;omega
   rcases x with x|x
   ·exact .inl (g2 b x)
   exact .inr x)
  (fun b hb2=>by
   rcases hb2 with x|x
   ·exact⟨.inl x,by have:=h.inb b (ha9 _ (hTB _ x));have:=hK.size;omega⟩
   exact⟨.inr x.1,x.2⟩)
 have hgk:W2.heap[g]?=W.heap[g]?:=hK.block g hhg (fun e=>hbg e.symm)
 have hF3:=hcS W2 _ (zF hd xs[k]) (fun b=>T' b\/(TB b\/(W.heap.size<=b/\b<W2.heap.size))) (RowPut.same hcQ hgk hbZ) hcl' (fun u hu=>by
   simp only[yC,yG,yl]at hu
   rcases hu with rfl|rfl|rfl|rfl<;>rfl) hK.size (fun b hb1 hb2 hb3=>hK.block b (h.inb b hb1) (fun e=>hb2 (e ▸ hTb)))
  ⟨_,rfl,hnm,i1,i2,(by rw[vI h0 fun b=>{ b with list:=hd++b.list }]at hF2;exact hF2),?_⟩ (fun b hb2=>?_)
 ·rw[←vI hk];refine hF3.grow (fun b hb2=>?_) (fun b hb2=>?_)
  ·rcases hb2 with x|x|x|x
   ·exact .inl x
   ·exact .inl (ha9 _ x)
   ·exact .inl (ha9 _ (hTB _ x))
   exact .inr x
  rcases hb2 with x|x
  ·have:=h.inb b x;have:=hK.size;omega
  exact x.2
 ·show((xs[k].blocks.modify 0 _).length)*96<=_;rw[List.length_modify];exact hB.bd
 rcases hb2 with x|x|x
 ·exact⟨.inl x,by have:=h.inb b (ha9 _ x);have:=hK.size;omega⟩
 ·exact⟨.inl (hTB _ x),by have:=h.inb b (ha9 _ (hTB _ x));have:=hK.size;omega⟩
 exact⟨.inr x.1,x.2⟩
end Go.Proofs.YtgjjhadbjmcnpaaGreatDoor
