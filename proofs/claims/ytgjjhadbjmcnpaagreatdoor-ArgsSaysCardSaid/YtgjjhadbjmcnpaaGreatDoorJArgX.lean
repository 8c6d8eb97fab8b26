/-
  Plain: what is left of parameters after both phases of args.Do: each is taken, none is alw
-/
import Derived.Test.YtgjjhadbjmcnpaaGreatDoorJRnmA
set_option maxRecDepth 100000
set_option maxHeartbeats 16000000
namespace Go.Proofs.YtgjjhadbjmcnpaaGreatDoor
open Go.RowKit

structure RegB (m:Nat) (b:BlkL):Prop where
 fin:b.fin.onr=true->0<=b.fin.onn/\b.fin.onn<(m:Int)
 phi:∀p∈b.phis,(0<=p.dst/\p.dst<(m:Int))/\∀v∈p.src,v.1=true->0<=v.2/\v.2<(m:Int)
 ins:∀x∈b.list,x.dst<(m:Int)/\(x.ar=true->0<=x.an/\x.an<(m:Int))/\(x.br=true->0<=x.bn/\x.bn<(m:Int))/\∀v∈x.args,v.1=true->0<=v.2/\v.2<(m:Int)
theorem tw64 {m:Nat} {g:Int->Int} (hg:∀r:Nat,r<m->I64 (g r)) {v:Bool×Int} (hv:v.1=true->0<=v.2/\v.2<(m:Int)) (h:I64 v.2):I64 (toW g v).2:=by
 unfold toW
 split
 ·next e=>
  obtain⟨h0,h1⟩:=hv e;have:=hg v.2.toNat bO
  rwa [show((v.2.toNat:Nat):Int)=v.2 by omega]at this
 exact h

structure RowW (wo W:World) (e:TypeId) (g o size:Nat) (cs:List Value):Prop where
 row:RowPut wo W e g o size cs
 kept:Kept (fun i=>i=g) wo W
theorem RowW.lt {wo W:World} {e:TypeId} {g o size:Nat} {cs:List Value} (h:RowW wo W e g o size cs):g<W.heap.size:=by
 obtain⟨_,_,_,h2,_⟩:=h.row;exact qd h2
theorem RowW.below {wo W W':World} {e:TypeId} {g o size:Nat} {cs:List Value} (h:RowW wo W e g o size cs) (hb:Below W.heap.size W W'):RowW wo W' e g o size cs:=
 ⟨h.row.other1 (hb.block g h.lt),h.kept.trans (Kept.of_below hb) fun _ _ h=>h⟩
theorem RowW.set {wo W:World} {e:TypeId} {g o size j:Nat} {cs:List Value} {v:Value} (h:RowW wo W e g o size cs) (hl:cs.length=size) (hj:j<size):RowW wo (W.setCell (J g (o+j)) v) e g o size (cs.set j v):=by
 have hp:PutAt W (W.setCell (J g (o+j)) v) g (o+j) v:=.set (Kept.refl _ _) g (o+j) h.lt v;exact⟨h.row.put1 hl hj hp,h.kept.trans hp.kept fun _ _ h=>h⟩
theorem K2 (g:Int->Int) (v:Bool×Int):(toW g v).1=v.1:=by
 obtain⟨b,n⟩:=v;cases b<;>rfl
theorem RowW.drew {wo W:World} {e:TypeId} {g o size:Nat} {cs:List Value} (h:RowW wo W e g o size cs):RowW wo W.drew e g o size cs:=⟨h.row.other1 rfl,h.kept.drew⟩
theorem RowW.start {wo:World} {e:TypeId} {g o size:Nat} {cs:List Value} (h:RowPut wo wo e g o size cs):RowW wo wo e g o size cs:=⟨h,Kept.refl _ _⟩
theorem Jd {wo:World} {qa:Option Addr} {ca kk:Nat} {xs:List (Bool×Int)} {u:Bool×Int->Bool×Int} {Ti:Blks} (h:SlO 44 2 jV wo (.slice qa xs.length ca) (qG kk u xs) Ti) (hlt:kk<xs.length) :
  ∃ga,qa=some (J ga 0)/\Ti ga/\I64 xs[kk].2/\RowPut wo wo 44 ga (kk*2) 2 [.bool xs[kk].1,Z xs[kk].2]/\
   ∀W4,RowW wo W4 44 ga (kk*2) 2 [.bool (u xs[kk]).1,Z (u xs[kk]).2]->I64 (u xs[kk]).2->SlO 44 2 jV W4 (.slice qa xs.length ca) (qG (kk+1) u xs) Ti:=by
 obtain⟨ga,ca2,cs,T1,hv2,hnJ,haC,hcl,hV,_,hdY,hce,hfz,⟨cur2,haa⟩,ha8⟩:=h.focus zq bO (i:=kk) (by rw[qO];exact hlt);rw[xh (by rw[qO];exact hlt) (zK _)]at hV;obtain⟨hcs,hv64⟩:=hV;subst hcs;refine⟨ga,by injection hv2,haC,hv64,RowPut.same haa rfl hce,fun W4 hR h2=>?_⟩;have hn4:(qG kk u xs).set kk (u xs[kk])=qG (kk+1) u xs:=qS hlt
 have hS4:=ha8 W4 _ (u xs[kk]) T1 hR.row rfl (fun u hu=>by
   simp only[yC,yG,yl]at hu
   rcases hu with rfl|rfl<;>rfl) hR.kept.size (fun b hb h1 h2=>hR.kept.block b (h.inb b hb) h2) ⟨rfl,h2⟩ (fun b hb=>⟨.inl hb,by have:=h.inb b (hdY b hb);have:=hR.kept.size;omega⟩)
 rw[hn4]at hS4;exact hS4.grow (fun b hb=>hb.elim id (hdY b)) (fun b hb=>by have:=h.inb b hb;have:=hR.kept.size;omega)

theorem K3 (f:FunL) (qb:Option Addr) (cb nb no m c:Nat) (g:Int->Int) (TB:Blks) (w:World) (hS:SlO 49 6 BlkO w (.slice qb f.blocks.length cb) f.blocks TB) (hbd:f.blocks.length*96<=140737488351232) (hr:∀b∈f.blocks,RegB m b) (hN:NamAt w nb no m g) (hnb:nb<w.heap.size) (hnT:¬ TB nb) (hg:∀r:Nat,r<m->I64 (g r)) :
  Calls Tryz.prog 70 #[.agg #[.string f.name,Z f.params,Z f.regs,.slice qb f.blocks.length cb],.slice (some (J nb no)) m c] w fun e w'=>e = .returned (.tuple #[])/\SlO 49 6 BlkO w' (.slice qb f.blocks.length cb) (f.blocks.map (toB g)) TB/\Kept TB w w':=by
 have HTl:Hid (∀i,TB i->i<w.heap.size):=q8 hS.inb;have HS:=q8 hS;have HR:=q8 hr;have HN:=q8 hN;have HnT:=q8 hnT;have HG:=q8 hg;clear hS hr hN hnT hg
 go_enter Tryz.func70,Tryz.ntmps70
 go_wp2_with fail
 obtain⟨W0,hW0⟩:=nZ (w.alloc (.cells #[.string f.name,Z f.params,Z f.regs,.slice qb f.blocks.length cb] 38));rw[←hW0];have hz0:W0.heap.size=w.heap.size+1:=by rw[hW0];simp
 have hb0:Below w.heap.size w W0:=by rw[hW0];exact bZ
 have HB0:=q8 hb0;have HA:Hid (W0.heap[w.heap.size]?=some (.cells #[.string f.name,Z f.params,Z f.regs,.slice qb f.blocks.length cb] 38 (0,0))):=q8 (by rw[hW0];exact qr rfl);have HS0:=q8 (HS.out.below qM hb0);have HN0:=q8 (HN.out.other (hb0.block nb hnb));clear hW0 hb0
 go_loopg [4] f.blocks.length (fun q s wr=>∃b:Nat,b<=f.blocks.length/\q=f.blocks.length - b/\s=Z b/\SlO 49 6 BlkO wr (.slice qb f.blocks.length cb) (qG b (toB g) f.blocks) TB/\Kept TB W0 wr)
 case atStart=>exact⟨0,by omega,rfl,rfl,by rw[qU];exact HS0.out,Kept.refl _ _⟩
 case round=>
  obtain⟨wo,hwo⟩:=nZ wr;subst hwo;obtain⟨b,hb,rfl,rfl,hO,hK⟩:=hrel;have hzo:=hK.size;have hA:=(hK.block w.heap.size bO (fun h=>by have:=HTl.out _ h;omega)).trans HA.out;have HNo:=q8 (HN0.out.other (hK.block nb bO HnT.out));have HO:=q8 hO;have HK:=q8 hK;have a3:wo.cell? (J w.heap.size 3)=some (.slice qb f.blocks.length cb):=(blk hA).1 3;have za:=qd hA;clear hO hK hA
  by_cases hlt:b<f.blocks.length
  rotate_left
  ·obtain rfl:b=f.blocks.length:=by omega
   go_wp2_with fail
   have hO9:=HO.out;rw[qR]at hO9;exact bodyPost_end (results_none rfl _ _ _) rfl ⟨rfl,hO9,(Kept.of_below HB0.out).trans HK.out fun _ _ h=>h⟩
  obtain⟨gb,qp,cp,ql,cl,v3,S1,S2,hqb,hTg,hS1,hS2,hn1,hn2,hAp,h64,hPh,hLi,hRb,hput⟩:=blk_both HO.out hlt;subst hqb;obtain⟨y,hy⟩:=nZ (f.blocks[b]);rw[←hy]at h64 hPh hLi hRb hput;have HRy:=q8 (HR.out y (by rw[hy];exact zP hlt));have HY:=q8 hy;have HPh:=q8 hPh;have HLi:=q8 hLi;have HRb:=q8 hRb;have haA:=q8 hput;have hu4:=q8 h64;have HTs:=q8 (zh hTg (zh hS1 (zh hS2 (zh hn1 (zh hn2 hAp)))));have e0:wo.cell? (J gb (b*6))=some (.slice qp y.phis.length cp):=hRb.at1 (j:=0) bO;have e3:wo.cell? (J gb (b*6+3))=some (.bool y.fin.onr):=hRb.at1 (j:=3) bO;have e4:wo.cell? (J gb (b*6+4))=some (Z y.fin.onn):=hRb.at1 (j:=4) bO;have ez:=q9 e3;have b0:(0:Int)<=(b:Int):=by omega
  have b1:(b:Int)<f.blocks.length:=by omega
  have HC:=q8 (ju y.fin.onr y.fin.onn nb no m c g wo HNo.out HRy.out.fin);have hfr:=hRb.free1;clear hTg hS1 hS2 hn1 hn2 hAp hPh hLi hRb hput hy h64
  go_wp2_with (go_at_call 101;refine HC.out.mono ?_;rintro e W5 ⟨rfl,hb5⟩;have g3:=(hb5.cell (p:=(J gb (b*6+3))) ez).trans e3;have g4:=(hb5.cell (p:=(J gb (b*6+4))) ez).trans e4;have gz:=q9 g3;have gfr:∀i,W5.frozen? (J gb i)=false:=fun i=>(yB (a:=(J gb i)) (hb5.block gb ez)).trans (hfr i);have HB5:=q8 hb5;clear hb5)
  have hR6:=(((RowW.start HRb.out).below HB5.out).set (j:=3) (v:=.bool y.fin.onr) rfl bO).set (j:=4) (v:=Z (toW g (y.fin.onr,y.fin.onn)).2) rfl bO;obtain⟨W6,hW6⟩:=nZ ((W5.setCell (J gb (b*6+2+1)) (.bool y.fin.onr)).setCell (J gb (b*6+2+1+1)) (Z (toW g (y.fin.onr,y.fin.onn)).2));rw[←hW6];have hgF:RowW wo W6 49 gb (b*6) 6 [.slice qp y.phis.length cp,.slice ql y.list.length cl,Z y.fin.kind,.bool y.fin.onr,Z (toW g (y.fin.onr,y.fin.onn)).2,v3]:=by rw[hW6];exact hR6
  have hz6:=hgF.kept.size;have hgT:∀{i:Nat},i=gb->TB i:=fun {i} e=>by rw[e];exact HTs.out.1
  have HR6:=q8 hgF;have HP6:=q8 (HPh.out.sl.kept x8 hgF.kept fun i e h=>HTs.out.2.2.2.1 (by(have e:i=gb:=e);exact e ▸ h));have HL6:=q8 (HLi.out.sl.kept qT hgF.kept fun i e h=>HTs.out.2.2.2.2.1 (by(have e:i=gb:=e);exact e ▸ h));have HN6:=q8 (HNo.out.other (hgF.kept.block nb bO (fun e=>HnT.out (hgT e))));have hpl:y.phis.length<=140737488355328:=by(have:=HPh.out.bd);have e:reachBytes=140737488351232:=rfl;omega
  have hll:y.list.length<=140737488355328:=by(have:=HLi.out.bd);have e:reachBytes=140737488351232:=rfl;omega
  clear hW6 hR6 hgF a3 e0 e3 e4 ez hfr g3 g4 gz gfr
  go_loopg [6] y.phis.length (fun q s wr=>∃i:Nat,i<=y.phis.length/\q=y.phis.length - i/\s=Z i/\SlO 84 2 PhiO wr (.slice qp y.phis.length cp) (qG i (toP g) y.phis) S1/\Kept S1 W6 wr)
  case atStart=>exact⟨0,by omega,rfl,rfl,by rw[qU];exact HP6.out,Kept.refl _ _⟩
  case round=>
   obtain⟨wp,hwp⟩:=nZ wr;subst hwp;obtain⟨i,hi,rfl,rfl,hO2,hK2⟩:=hrel;have hzp:=hK2.size;have hRp:=HR6.out.row.other1 (hK2.block gb HR6.out.lt HTs.out.2.2.2.1);have HRp:=q8 hRp;have HNp:=q8 (HN6.out.other (hK2.block nb bO (fun h=>HnT.out (HTs.out.2.1 _ h))));have d0:wp.cell? (J gb (b*6))=some (.slice qp y.phis.length cp):=hRp.at1 (j:=0) bO;have d1:wp.cell? (J gb (b*6+1))=some (.slice ql y.list.length cl):=hRp.at1 (j:=1) bO;have zd:=q9 d0;have HOp:=q8 hO2;have HK2:=q8 hK2;clear hO2 hK2 hRp
   by_cases hlp:i<y.phis.length
   ·obtain⟨gp,qs,cs,Tq,hqq,hTg,p0,p1,hbK,hTq,hnq,hsv,hRq,haE⟩:=KR HOp.out hlp;subst hqq;obtain⟨ph,hph⟩:=nZ (y.phis[i]);have haD:=HRy.out.phi ph (by rw[hph];exact zP hlp);rw[←hph]at p0 p1 hbK hsv hRq haE;obtain⟨k,hk⟩:∃k:Nat,ph.dst=k:=⟨ph.dst.toNat,by have:=haD.1.1;omega⟩;have hkm:k<m:=(by(have:=haD.1.2);omega);have nk:=HNp.out k hkm;have nz:=q9 nk;have HRs:=q8 haD.2;have hkF:=q8 hph;have HSv:=q8 hsv;have HRq:=q8 hRq;have HPq:=q8 haE;have HTq:=q8 (zh hTq (zh hnq hTg));have hmJ:=q8 (HG.out k hkm);have zp:=q9 p0;have i0:(0:Int)<=(i:Int):=(by omega);have i1:(i:Int)<y.phis.length:=(by omega);have k0:(0:Int)<=(k:Int):=(by omega);have k1:(k:Int)<m:=(by omega);have hfr:=hRq.free1;rw[hk]at p0;have HKd:=q8 hk;clear hsv hRq haE hTq hnq hTg hph haD hbK hk
    go_wp2_with fail
    have hSp:(fun W':World=>W'.cell? (J gb (b*6))=some (.slice (some (J gp 0)) y.phis.length cp)/\W'.cell? (J gp (i*2))=some (Z k)/\W'.cell? (J nb (no+k))=some (Z (g k))) wp.drew:=⟨d0,p0,nk⟩;refine qA (S:=(fun W':World=>W'.cell? (J gb (b*6))=some (.slice (some (J gp 0)) y.phis.length cp)/\W'.cell? (J gp (i*2))=some (Z k)/\W'.cell? (J nb (no+k))=some (Z (g k)))) bK 18 ?_;refine qx 0 42 (.pointer (some (J gb (b*6)))) rfl rfl hSp (fun W' hS'=>by obtain⟨h0,h1,h2⟩:=hS';go_simp) ?_;refine qx 1 43 (.pointer (some (J gb (b*6)))) rfl rfl hSp (fun W' hS'=>by obtain⟨h0,h1,h2⟩:=hS';go_simp) ?_;refine qx 2 44 (.pointer (some (J gb (b*6)))) rfl rfl hSp (fun W' hS'=>by obtain⟨h0,h1,h2⟩:=hS';go_simp) ?_;refine qx 3 45 (.slice (some (J gp 0)) y.phis.length cp) rfl rfl hSp (fun W' hS'=>by obtain⟨h0,h1,h2⟩:=hS';go_simp) ?_;refine qx 4 46 (Z i) rfl rfl hSp (fun W' hS'=>by obtain⟨h0,h1,h2⟩:=hS';go_simp) ?_;refine qx 5 47 (.slice (some (J nb no)) m c) rfl rfl hSp (fun W' hS'=>by obtain⟨h0,h1,h2⟩:=hS';go_simp) ?_;refine qx 6 48 (.pointer (some (J gb (b*6)))) rfl rfl hSp (fun W' hS'=>by obtain⟨h0,h1,h2⟩:=hS';go_simp) ?_;refine qx 7 49 (.pointer (some (J gb (b*6)))) rfl rfl hSp (fun W' hS'=>by obtain⟨h0,h1,h2⟩:=hS';go_simp) ?_;refine qx 8 50 (.pointer (some (J gb (b*6)))) rfl rfl hSp (fun W' hS'=>by obtain⟨h0,h1,h2⟩:=hS';go_simp) ?_;refine qx 9 51 (.slice (some (J gp 0)) y.phis.length cp) rfl rfl hSp (fun W' hS'=>by obtain⟨h0,h1,h2⟩:=hS';go_simp) ?_;refine qx 10 52 (Z i) rfl rfl hSp (fun W' hS'=>by obtain⟨h0,h1,h2⟩:=hS';go_simp) ?_;refine qx 11 53 (.pointer (some (J gp (i*2)))) rfl rfl hSp (fun W' hS'=>by obtain⟨h0,h1,h2⟩:=hS';go_simp) ?_;refine qx 12 54 (.pointer (some (J gp (i*2)))) rfl rfl hSp (fun W' hS'=>by obtain⟨h0,h1,h2⟩:=hS';go_simp) ?_;refine qx 13 55 (Z k) rfl rfl hSp (fun W' hS'=>by obtain⟨h0,h1,h2⟩:=hS';go_simp) ?_;refine qx 14 56 (.pointer (some (J nb (no+k)))) rfl rfl hSp (fun W' hS'=>by obtain⟨h0,h1,h2⟩:=hS';go_simp) ?_;refine qx 15 57 (Z (g k)) rfl rfl hSp (fun W' hS'=>by obtain⟨h0,h1,h2⟩:=hS';go_simp) ?_;refine qx 16 58 (.pointer (some (J gp (i*2)))) rfl rfl hSp (fun W' hS'=>by obtain⟨h0,h1,h2⟩:=hS';go_simp) ?_;refine qx 17 59 (.pointer (some (J gp (i*2)))) rfl rfl hSp (fun W' hS'=>by obtain⟨h0,h1,h2⟩:=hS';go_simp) ?_;have zed:gp<wp.drew.heap.size:=zp;refine qm (i:=18) bK (qz (wp.drew.setCell (J gp (i*2)) (Z (g k))) rfl rfl rfl (by obtain⟨h1,h2,h3⟩:=hSp;go_simp) (fun h=>absurd rfl h) ?_);refine⟨by kernel_rfl,?_⟩;unfold calm;dsimp only [Act.put];obtain⟨W7,hW7⟩:=nZ (wp.drew.setCell (J gp (i*2)) (Z (g k)));rw[←hW7];have hR7:RowW wp W7 84 gp (i*2) 2 [Z (g k),.slice qs ph.src.length cs]:=(by rw[hW7];exact(RowW.start HRq.out).drew.set (j:=0) (v:=Z (g k)) rfl bO);have HR7:=q8 hR7;have HV0:=q8 (HSv.out.sl.kept zq hR7.kept fun i e h=>HTq.out.2.1 (by(have e:i=gp:=e);exact e ▸ h));have hz7:=hR7.kept.size;have HN1:=q8 (HNp.out.other (hR7.kept.block nb bO (fun e=>HnT.out (HTs.out.2.1 _ (by(have e:nb=gp:=e);rw[e];exact HTq.out.2.2)))));have hjJ:Hid (¬ Tq nb):=q8 (fun h=>HnT.out (HTs.out.2.1 _ (HTq.out.1 _ h)));have f1:W7.cell? (J gp (i*2+1))=some (.slice qs ph.src.length cs):=hR7.row.at1 (j:=1) bO;have f0:W7.cell? (J gb (b*6))=some (.slice (some (J gp 0)) y.phis.length cp):=(hR7.kept.cell (p:=(J gb (b*6))) zd (fun e=>HTs.out.2.2.2.1 (by(have e:gb=gp:=e);rw[e];exact HTq.out.2.2))).trans d0;have HF1:=q8 f1;have HF0:=q8 f0;have zf1:=q9 f1;have zf0:=q9 f0;have hsl:ph.src.length<=140737488355328:=(by(have:=HSv.out.bd);have e:reachBytes=140737488351232:=rfl;omega);clear hW7 hR7 p0 p1 zp hfr d0 d1 zd nk nz hSp
    go_wp2_with fail
    go_loopg [7] ph.src.length (fun q s wr=>∃r:Nat,r<=ph.src.length/\q=ph.src.length - r/\s=Z r/\SlO 44 2 jV wr (.slice qs ph.src.length cs) (qG r (toW g) ph.src) Tq/\Kept Tq W7 wr)
    case atStart=>exact⟨0,by omega,rfl,rfl,by rw[qU];exact HV0.out,Kept.refl _ _⟩
    case round=>
     obtain⟨wq,hwq⟩:=nZ wr;subst hwq;obtain⟨r,hr,rfl,rfl,hV,hKv⟩:=hrel;have HV:=q8 hV;have HKv:=q8 hKv;have hzq:=hKv.size;have HNq:=q8 (HN1.out.other (hKv.block nb bO hjJ.out));have h1:wq.cell? (J gp (i*2+1))=some (.slice qs ph.src.length cs):=(hKv.cell (p:=(J gp (i*2+1))) zf1 HTq.out.2.1).trans HF1.out;have h0:wq.cell? (J gb (b*6))=some (.slice (some (J gp 0)) y.phis.length cp):=(hKv.cell (p:=(J gb (b*6))) zf0 (fun h=>HTs.out.2.2.2.1 (HTq.out.1 _ h))).trans HF0.out;have zh1:=q9 h1;have zh0:=q9 h0;clear hV hKv
     by_cases hlr:r<ph.src.length
     rotate_left
     ·obtain rfl:r=ph.src.length:=(by omega);have hV8:=HV.out;rw[qR]at hV8;have HV8:=q8 hV8;clear hV8;have haM:Kept (fun i=>i=gp\/Tq i) wp wq:=(HR7.out.kept.mono (fun _ _ h=>.inl h)).trans HKv.out (fun _ _ h=>.inr h);have hRw:=HR7.out.row.other1 (HKv.out.block gp HR7.out.lt HTq.out.2.1)
      have hx8:=HPq.out wq (toP g ph) (by
       show RowPut wp wq 84 gp (i*2) 2 [Z (g ph.dst),.slice qs ph.src.length cs];rw[HKd.out]
       exact hRw) haM.size (fun i hi h1 h2=>haM.block i (HOp.out.inb i hi) (fun h=>h.elim h2 h1)) (by show I64 (g ph.dst);rw[HKd.out];exact hmJ.out)
       ⟨show SlO 44 2 jV wq _ (ph.src.map _) Tq from HV8.out,by show(ph.src.map _).length*16<=_;rw[yT];exact HSv.out.bd⟩
      have hn8:(qG i (toP g) y.phis).set i (toP g ph)=qG (i+1) (toP g) y.phis:=(by rw[hkF.out];exact qS hlp);rw[hn8]at hx8;have HX8:=q8 hx8;have hdK:=q8 haM;clear hx8 hn8 hRw haM
      go_wp2_with fail
      go_roundg (y.phis.length - (i+1))
      case measure=>omega
      case rel=>exact⟨i+1,by omega,rfl,by go_num,HX8.out,HK2.out.trans hdK.out fun i _ h=>h.elim (fun e=>e ▸ HTq.out.2.2) (HTq.out.1 i)⟩
     obtain⟨ga,hqs,haC,av64,hRv,ha8⟩:=Jd HV.out hlr;subst hqs;obtain⟨vv,hvv⟩:=nZ (ph.src[r]);have he9:=q8 (HRs.out vv (by rw[hvv];exact zP hlr));rw[←hvv]at av64 hRv ha8;have HRv:=q8 hRv;have HPv:=q8 ha8;have HAv:=q8 av64;have a0:wq.cell? (J ga (r*2))=some (.bool vv.1):=hRv.at1 (j:=0) bO;have a1:wq.cell? (J ga (r*2+1))=some (Z vv.2):=hRv.at1 (j:=1) bO;have zga:=q9 a0;have hfr:=hRv.free1;have r0:(0:Int)<=(r:Int):=(by omega);have r1:(r:Int)<ph.src.length:=(by omega);have hiH:=q8 haC;have HC:=q8 (ju vv.1 vv.2 nb no m c g wq.drew (HNq.out.other rfl) he9.out);clear hRv ha8 hvv haC av64
     go_wp2_with fail
     have hSp:(fun W':World=>W'.cell? (J gb (b*6))=some (.slice (some (J gp 0)) y.phis.length cp)/\W'.cell? (J gp (i*2+1))=some (.slice (some (J ga 0)) ph.src.length cs)/\W'.cell? (J ga (r*2))=some (.bool vv.1)/\W'.cell? (J ga (r*2+1))=some (Z vv.2)) wq.drew:=⟨h0,h1,a0,a1⟩;refine qA (S:=(fun W':World=>W'.cell? (J gb (b*6))=some (.slice (some (J gp 0)) y.phis.length cp)/\W'.cell? (J gp (i*2+1))=some (.slice (some (J ga 0)) ph.src.length cs)/\W'.cell? (J ga (r*2))=some (.bool vv.1)/\W'.cell? (J ga (r*2+1))=some (Z vv.2))) bK 23 ?_;refine qx 0 73 (.pointer (some (J gb (b*6)))) rfl rfl hSp (fun W' hS'=>by obtain⟨h0,h1,h2,h3⟩:=hS';go_simp) ?_;refine qx 1 74 (.pointer (some (J gb (b*6)))) rfl rfl hSp (fun W' hS'=>by obtain⟨h0,h1,h2,h3⟩:=hS';go_simp) ?_;refine qx 2 75 (.pointer (some (J gb (b*6)))) rfl rfl hSp (fun W' hS'=>by obtain⟨h0,h1,h2,h3⟩:=hS';go_simp) ?_;refine qx 3 76 (.slice (some (J gp 0)) y.phis.length cp) rfl rfl hSp (fun W' hS'=>by obtain⟨h0,h1,h2,h3⟩:=hS';go_simp) ?_;refine qx 4 77 (Z i) rfl rfl hSp (fun W' hS'=>by obtain⟨h0,h1,h2,h3⟩:=hS';go_simp) ?_;refine qx 5 78 (.pointer (some (J gp (i*2)))) rfl rfl hSp (fun W' hS'=>by obtain⟨h0,h1,h2,h3⟩:=hS';go_simp) ?_;refine qx 6 79 (.pointer (some (J gp (i*2+1)))) rfl rfl hSp (fun W' hS'=>by obtain⟨h0,h1,h2,h3⟩:=hS';go_simp) ?_;refine qx 7 80 (.slice (some (J ga 0)) ph.src.length cs) rfl rfl hSp (fun W' hS'=>by obtain⟨h0,h1,h2,h3⟩:=hS';go_simp) ?_;refine qx 8 81 (Z r) rfl rfl hSp (fun W' hS'=>by obtain⟨h0,h1,h2,h3⟩:=hS';go_simp) ?_;refine qx 9 82 (.pointer (some (J gb (b*6)))) rfl rfl hSp (fun W' hS'=>by obtain⟨h0,h1,h2,h3⟩:=hS';go_simp) ?_;refine qx 10 83 (.pointer (some (J gb (b*6)))) rfl rfl hSp (fun W' hS'=>by obtain⟨h0,h1,h2,h3⟩:=hS';go_simp) ?_;refine qx 11 84 (.pointer (some (J gb (b*6)))) rfl rfl hSp (fun W' hS'=>by obtain⟨h0,h1,h2,h3⟩:=hS';go_simp) ?_;refine qx 12 85 (.slice (some (J gp 0)) y.phis.length cp) rfl rfl hSp (fun W' hS'=>by obtain⟨h0,h1,h2,h3⟩:=hS';go_simp) ?_;refine qx 13 86 (Z i) rfl rfl hSp (fun W' hS'=>by obtain⟨h0,h1,h2,h3⟩:=hS';go_simp) ?_;refine qx 14 87 (.pointer (some (J gp (i*2)))) rfl rfl hSp (fun W' hS'=>by obtain⟨h0,h1,h2,h3⟩:=hS';go_simp) ?_;refine qx 15 88 (.pointer (some (J gp (i*2+1)))) rfl rfl hSp (fun W' hS'=>by obtain⟨h0,h1,h2,h3⟩:=hS';go_simp) ?_;refine qx 16 89 (.slice (some (J ga 0)) ph.src.length cs) rfl rfl hSp (fun W' hS'=>by obtain⟨h0,h1,h2,h3⟩:=hS';go_simp) ?_;refine qx 17 90 (Z r) rfl rfl hSp (fun W' hS'=>by obtain⟨h0,h1,h2,h3⟩:=hS';go_simp) ?_;refine qx 18 91 (.pointer (some (J ga (r*2)))) rfl rfl hSp (fun W' hS'=>by obtain⟨h0,h1,h2,h3⟩:=hS';go_simp) ?_;refine qx 19 92 (.agg #[.bool vv.1,Z vv.2]) rfl rfl hSp (fun W' hS'=>by obtain⟨h0,h1,h2,h3⟩:=hS';go_simp) ?_;refine qx 20 93 (.slice (some (J nb no)) m c) rfl rfl hSp (fun W' hS'=>by obtain⟨h0,h1,h2,h3⟩:=hS';go_simp) ?_;refine qm (i:=21) bK (qt 94 rfl rfl rfl (by go_simp) (HC.out) ?_);rintro e W8 ⟨rfl,hb8⟩;have g0:=(hb8.cell (p:=(J ga (r*2))) zga).trans a0;have gz:=q9 g0;have gfr:∀i,W8.frozen? (J ga i)=false:=fun i=>(yB (a:=(J ga i)) (hb8.block ga zga)).trans (hfr i);have HB8:=q8 hb8;have hSp:(fun W':World=>W'.cell? (J gb (b*6))=some (.slice (some (J gp 0)) y.phis.length cp)/\W'.cell? (J gp (i*2+1))=some (.slice (some (J ga 0)) ph.src.length cs)/\W'.cell? (J ga (r*2))=some (.bool vv.1)/\W'.cell? (J ga (r*2+1))=some (Z vv.2)) W8:=⟨(hb8.cell (by simpa using q9 (h0))).trans (h0),(hb8.cell (by simpa using q9 (h1))).trans (h1),(hb8.cell (by simpa using q9 (a0))).trans (a0),(hb8.cell (by simpa using q9 (a1))).trans (a1)⟩;clear hb8;refine⟨_,rfl,hSp,?_⟩;refine qx 22 95 (.pointer (some (J ga (r*2)))) rfl rfl hSp (fun W' hS'=>by obtain⟨h0,h1,h2,h3⟩:=hS';go_simp) ?_;refine qm (i:=23) bK (qz ((W8.setCell (J ga (r*2)) (.bool vv.1)).setCell (J ga (r*2+1)) (Z (toW g (vv.1,vv.2)).2)) rfl rfl rfl (by go_simp) (fun h=>absurd rfl h) ?_);refine⟨by kernel_rfl,?_⟩;have hR9:=(((RowW.start HRv.out).drew.below HB8.out).set (j:=0) (v:=.bool vv.1) rfl bO).set (j:=1) (v:=Z (toW g (vv.1,vv.2)).2) rfl bO
     have hV9:=HPv.out _ (by
      have e1:(toW g vv).1=vv.1:=K2 g vv;rw[e1]
      exact hR9) (tw64 HG.out he9.out HAv.out)
     have HV9:=q8 hV9;have HK9:=q8 (HKv.out.trans hR9.kept fun i _ e=>by(have e:i=ga:=e);exact e ▸ hiH.out);clear hR9 hV9 a0 a1 zga hfr g0 gz gfr hSp;unfold calm;dsimp only [Act.put]
     go_wp2_with fail
     go_roundg (ph.src.length - (r+1))
     case measure=>omega
     case rel=>exact⟨r+1,by omega,rfl,by go_num,HV9.out,HK9.out⟩
   obtain rfl:i=y.phis.length:=(by omega);have hP9:=HOp.out;rw[qR]at hP9;have HP9:=q8 hP9;have HL9:=q8 (HL6.out.kept qT HK2.out fun i h1 h2=>HTs.out.2.2.2.2.2 i h1 h2);clear hP9
   go_wp2_with fail
   clear d0 d1 zd
   go_loopg [8] y.list.length (fun q s wr=>∃i:Nat,i<=y.list.length/\q=y.list.length - i/\s=Z i/\SlO 51 8 InsO wr (.slice ql y.list.length cl) (qG i (toI g) y.list) S2/\Kept S2 wp wr)
   case atStart=>exact⟨0,by omega,rfl,rfl,by rw[qU];exact HL9.out,Kept.refl _ _⟩
   case round=>
    obtain⟨wi,hwi⟩:=nZ wr;subst hwi;obtain⟨i,hi,rfl,rfl,hO3,hK3⟩:=hrel;have hzi:=hK3.size;have hRi:=HRp.out.other1 (hK3.block gb (by obtain⟨_,_,_,h2,_⟩:=HRp.out;exact qd h2) HTs.out.2.2.2.2.1);have HRi:=q8 hRi;have HNi:=q8 (HNp.out.other (hK3.block nb bO (fun h=>HnT.out (HTs.out.2.2.1 _ h))));have d1:wi.cell? (J gb (b*6+1))=some (.slice ql y.list.length cl):=hRi.at1 (j:=1) bO;have zd:=q9 d1;have HOi:=q8 hO3;have HK3:=q8 hK3;clear hO3 hK3 hRi
    by_cases hli:i<y.list.length
    rotate_left
    ·obtain rfl:i=y.list.length:=(by omega);have hL9:=HOi.out;rw[qR]at hL9;have hKa:Kept S1 W6 wp:=HK2.out;have hdT:Kept (fun i=>i=gb\/S1 i\/S2 i) wo wi:=((HR6.out.kept.mono (fun _ _ h=>.inl h)).trans hKa (fun _ _ h=>.inr (.inl h))).trans HK3.out (fun _ _ h=>.inr (.inr h))
     have hx9:=haA.out wi (y.phis.map (toP g)) (y.list.map (toI g)) (toW g (y.fin.onr,y.fin.onn)).2 HRi.out hdT.size (fun i hi h1 h2 h3=>hdT.block i (HO.out.inb i hi) (fun h=>h.elim h3 (fun h=>h.elim h1 h2))) (tw64 (v:=(y.fin.onr,y.fin.onn)) HG.out HRy.out.fin hu4.out)
      ⟨HP9.out.kept x8 HK3.out fun i h1 h2=>HTs.out.2.2.2.2.2 i h2 h1,by rw[yT];exact HPh.out.bd⟩ ⟨hL9,by rw[yT];exact HLi.out.bd⟩
     have hn9:(qG b (toB g) f.blocks).set b (toB g y)=qG (b+1) (toB g) f.blocks:=(by rw[HY.out];exact qS hlt);have hhy:SlO 49 6 BlkO wi (.slice (some (J gb 0)) f.blocks.length cb) (qG (b+1) (toB g) f.blocks) TB:=(by rw[←hn9];exact hx9);have HX9:=q8 hhy;have hmK:=q8 hdT;clear hL9 hKa hdT hx9 hn9 hhy
     go_wp2_with fail
     go_roundg (f.blocks.length - (b+1))
     case measure=>omega
     case rel=>exact⟨b+1,by omega,rfl,by go_num,HX9.out,HK.out.trans hmK.out fun i _ h=>h.elim hgT (fun h=>h.elim (HTs.out.2.1 i) (HTs.out.2.2.1 i))⟩
    obtain⟨gi,qs,cs,Tq,hqq,hTg,hbK,hmL,hmM,hTq,hnq,hsv,hRq,haE⟩:=ins_step HOi.out hli;subst hqq;obtain⟨x,hx⟩:=nZ (y.list[i]);have haD:=HRy.out.ins x (by rw[hx];exact zP hli);rw[←hx]at hbK hmL hmM hsv hRq haE;have HRg:=q8 haD;have HRs:=q8 haD.2.2.2;have HX:=q8 hx;have HSv:=q8 hsv;have HRq:=q8 hRq;have HPq:=q8 haE;have HTq:=q8 (zh hTq (zh hnq hTg));have H64:=q8 (zh hbK (zh hmL hmM));have hfr:=hRq.free1;have i0:(0:Int)<=(i:Int):=(by omega);have i1:(i:Int)<y.list.length:=(by omega);have x1:wi.cell? (J gi (i*8+1))=some (Z x.dst):=hRq.at1 (j:=1) bO;have x2:wi.cell? (J gi (i*8+2))=some (.bool x.ar):=hRq.at1 (j:=2) bO;have x3:wi.cell? (J gi (i*8+3))=some (Z x.an):=hRq.at1 (j:=3) bO;have x4:wi.cell? (J gi (i*8+4))=some (.bool x.br):=hRq.at1 (j:=4) bO;have x5:wi.cell? (J gi (i*8+5))=some (Z x.bn):=hRq.at1 (j:=5) bO;have zx:=q9 x1;have hsl:x.args.length<=140737488355328:=(by(have:=HSv.out.bd);have e:reachBytes=140737488351232:=rfl;omega);have hjK:∀{j:Nat},j=gi->S2 j:=fun {j} e=>by rw[e];exact HTq.out.2.2
    have hcb:=fun(W:World) (h:NamAt W nb no m g)=>ju x.br x.bn nb no m c g W h HRg.out.2.2.1;have hca:=fun(W:World) (h:NamAt W nb no m g)=>ju x.ar x.an nb no m c g W h HRg.out.2.1;have HCa:=q8 hca;have HCb:=q8 hcb;have hjJ:Hid (¬ Tq nb):=q8 (fun h=>HnT.out (HTs.out.2.2.1 _ (HTq.out.1 _ h)));have hcE:Hid (¬ S2 nb):=q8 (fun h=>HnT.out (HTs.out.2.2.1 _ h));clear hsv hRq haE hTq hnq hTg hx haD hbK hmL hmM hca hcb
    by_cases hd:0<=x.dst
    ·obtain⟨k,hk⟩:∃k:Nat,x.dst=k:=⟨x.dst.toNat,by omega⟩;have hkm:k<m:=(by(have:=HRg.out.1);omega);have nk:=HNi.out k hkm;have nz:=q9 nk;have k0:(0:Int)<=(k:Int):=(by omega);have k1:(k:Int)<m:=(by omega);have hmN:Hid (I64 (toI g x).dst):=q8 (by show I64 (if 0<=x.dst then g x.dst else x.dst);rw[zZ hd,hk];exact HG.out k hkm);have HDx:Hid ((toI g x).dst=g k):=q8 (by show(if 0<=x.dst then g x.dst else x.dst)=_;rw[zZ hd,hk]);rw[hk]at x1 hd;clear hk;have hdd:decide ((k:Int)<0)=false:=decide_eq_false bO
     go_wp2_with fail
     obtain⟨W10,hmO⟩:=nZ (wi.setCell (J gi (i*8+1)) (Z (g k)));have haK:RowW wi W10 51 gi (i*8) 8 [Z x.op,Z (toI g x).dst,.bool x.ar,Z x.an,.bool x.br,Z x.bn,Z x.fn,.slice qs x.args.length cs]:=(by rw[HDx.out,hmO];exact(RowW.start HRq.out).set (j:=1) (v:=Z (g k)) rfl bO);rw[←hmO];clear hmO;have hiC:=q8 haK;have heI:=q8 (HNi.out.other (haK.kept.block nb bO (fun e=>hcE.out (hjK e))));have u2:W10.cell? (J gi (i*8+2))=some (.bool x.ar):=haK.row.at1 (j:=2) bO;have u3:W10.cell? (J gi (i*8+3))=some (Z x.an):=haK.row.at1 (j:=3) bO;have u4:W10.cell? (J gi (i*8+4))=some (.bool x.br):=haK.row.at1 (j:=4) bO;have u5:W10.cell? (J gi (i*8+5))=some (Z x.bn):=haK.row.at1 (j:=5) bO;have uz:=q9 u2;have ufr:=haK.row.free1;have hfU:=haK.kept.size;clear haK x1 x2 x3 x4 x5 d1 zd;have hSp:(fun W':World=>W'.cell? (J gi (i*8+4))=some (.bool x.br)/\W'.cell? (J gi (i*8+5))=some (Z x.bn)) W10.drew:=⟨u4,u5⟩;refine qA (S:=(fun W':World=>W'.cell? (J gi (i*8+4))=some (.bool x.br)/\W'.cell? (J gi (i*8+5))=some (Z x.bn))) bK 19 ?_;refine qx 0 126 (.pointer (some (J gi (i*8)))) rfl rfl hSp (fun W' hS'=>by obtain⟨h0,h1⟩:=hS';go_simp) ?_;refine qx 1 127 (.pointer (some (J gi (i*8)))) rfl rfl hSp (fun W' hS'=>by obtain⟨h0,h1⟩:=hS';go_simp) ?_;refine qx 2 128 (.pointer (some (J gi (i*8)))) rfl rfl hSp (fun W' hS'=>by obtain⟨h0,h1⟩:=hS';go_simp) ?_;refine qx 3 129 (.pointer (some (J gi (i*8)))) rfl rfl hSp (fun W' hS'=>by obtain⟨h0,h1⟩:=hS';go_simp) ?_;refine qx 4 130 (.pointer (some (J gi (i*8+2)))) rfl rfl hSp (fun W' hS'=>by obtain⟨h0,h1⟩:=hS';go_simp) ?_;refine qx 6 132 (.slice (some (J nb no)) m c) rfl rfl hSp (fun W' hS'=>by obtain⟨h0,h1⟩:=hS';go_simp) ?_;refine qx 8 134 (.pointer (some (J gi (i*8)))) rfl rfl hSp (fun W' hS'=>by obtain⟨h0,h1⟩:=hS';go_simp) ?_;refine qx 9 135 (.pointer (some (J gi (i*8)))) rfl rfl hSp (fun W' hS'=>by obtain⟨h0,h1⟩:=hS';go_simp) ?_;refine qx 10 136 (.pointer (some (J gi (i*8+4)))) rfl rfl hSp (fun W' hS'=>by obtain⟨h0,h1⟩:=hS';go_simp) ?_;refine qx 12 138 (.slice (some (J nb no)) m c) rfl rfl hSp (fun W' hS'=>by obtain⟨h0,h1⟩:=hS';go_simp) ?_;refine qx 11 137 (.agg #[.bool x.br,Z x.bn]) rfl rfl hSp (fun W' hS'=>by obtain⟨h0,h1⟩:=hS';go_simp) ?_;refine qm (i:=5) bK (qC 131 (.agg #[.bool x.ar,Z x.an]) _ rfl rfl rfl (by go_simp) hSp ?_);refine qm (i:=7) bK (qt 133 rfl rfl rfl (by go_simp) (HCa.out W10.drew (heI.out.other rfl)) ?_);rintro e W11 ⟨rfl,haF⟩;have s4:=(haF.cell (p:=(J gi (i*8+4))) uz).trans u4;have s5:=(haF.cell (p:=(J gi (i*8+5))) uz).trans u5;have sz:=q9 s4;have hSp:(fun W':World=>W'.cell? (J gi (i*8+4))=some (.bool x.br)/\W'.cell? (J gi (i*8+5))=some (Z x.bn)) W11:=⟨s4,s5⟩;have hjL:=q8 haF;have hzb:nb<W10.heap.size:=(by omega);refine⟨_,rfl,hSp,?_⟩;refine qm (i:=13) bK (qt 139 rfl rfl rfl (by go_simp) (HCb.out W11 ((heI.out.other rfl).other (haF.block nb hzb))) ?_);rintro e W12 ⟨rfl,haG⟩;have t4:=(haG.cell (p:=(J gi (i*8+4))) sz).trans s4;have t5:=(haG.cell (p:=(J gi (i*8+5))) sz).trans s5;have tz:=q9 t4;have hdh:=(hiC.out.drew.below haF).below haG;have tfr:=hdh.row.free1;have t2:W12.cell? (J gi (i*8+2))=some (.bool x.ar):=hdh.row.at1 (j:=2) bO;have t3:W12.cell? (J gi (i*8+3))=some (Z x.an):=hdh.row.at1 (j:=3) bO;have hSp:(fun W':World=>W'.cell? (J gi (i*8+4))=some (.bool x.br)/\W'.cell? (J gi (i*8+5))=some (Z x.bn)) W12:=⟨t4,t5⟩;have hdI:=q8 haG;refine⟨_,rfl,hSp,?_⟩;refine qx 14 140 (.pointer (some (J gi (i*8)))) rfl rfl hSp (fun W' hS'=>by obtain⟨h0,h1⟩:=hS';go_simp) ?_;refine qx 15 141 (.pointer (some (J gi (i*8+2)))) rfl rfl hSp (fun W' hS'=>by obtain⟨h0,h1⟩:=hS';go_simp) ?_;obtain⟨W13,heV⟩:=nZ ((W12.setCell (J gi (i*8+2)) (.bool x.ar)).setCell (J gi (i*8+2+1)) (Z (toW g (x.ar,x.an)).2));have hiI:=(hdh.set (j:=2) (v:=.bool x.ar) rfl bO).set (j:=3) (v:=Z (toW g (x.ar,x.an)).2) rfl bO;have han:RowW wi W13 51 gi (i*8) 8 [Z x.op,Z (toI g x).dst,.bool x.ar,Z (toW g (x.ar,x.an)).2,.bool x.br,Z x.bn,Z x.fn,.slice qs x.args.length cs]:=(by rw[heV];exact hiI);have heW:(fun W':World=>W'.cell? (J gi (i*8+4))=some (.bool x.br)/\W'.cell? (J gi (i*8+5))=some (Z x.bn)) W13:=⟨han.row.at1 (j:=4) bO,han.row.at1 (j:=5) bO⟩;refine qm (i:=16) bK (qz W13 rfl rfl rfl (by rw[heV];go_simp) (fun _=>heW) ?_);have hSp:=heW;refine qx 17 142 (.pointer (some (J gi (i*8)))) rfl rfl hSp (fun W' hS'=>by obtain⟨h0,h1⟩:=hS';go_simp) ?_;refine qx 18 143 (.pointer (some (J gi (i*8+4)))) rfl rfl hSp (fun W' hS'=>by obtain⟨h0,h1⟩:=hS';go_simp) ?_;obtain⟨W12z,heX⟩:=nZ ((W13.setCell (J gi (i*8+4)) (.bool x.br)).setCell (J gi (i*8+4+1)) (Z (toW g (x.br,x.bn)).2));have hiJ:=(han.set (j:=4) (v:=.bool x.br) rfl bO).set (j:=5) (v:=Z (toW g (x.br,x.bn)).2) rfl bO;have hau:RowW wi W12z 51 gi (i*8) 8 [Z (toI g x).op,Z (toI g x).dst,.bool (toI g x).ar,Z (toI g x).an,.bool (toI g x).br,Z (toI g x).bn,Z (toI g x).fn,.slice qs x.args.length cs]:=(by rw[heX];exact hiJ);have zfr:=han.row.free1;have z13:=han.lt;refine qm (i:=19) bK (qz W12z rfl rfl rfl (by rw[heX];go_simp) (fun h=>absurd rfl h) ?_);refine⟨by kernel_rfl,?_⟩;unfold calm;dsimp only [Act.put];have heY:=q8 hau;have HV0:=q8 (HSv.out.sl.kept zq hau.kept fun j e h=>HTq.out.2.1 (by(have e:j=gi:=e);exact e ▸ h));have hz7:=hau.kept.size;have HN1:=q8 (HNi.out.other (hau.kept.block nb bO (fun e=>hcE.out (hjK e))));have f1:W12z.cell? (J gi (i*8+7))=some (.slice qs x.args.length cs):=hau.row.at1 (j:=7) bO;have HF1:=q8 f1;have zf1:=q9 f1;clear hSp heW heV heX hiI han hiJ hau hdh tfr zfr z13 s4 s5 t2 t3 t4 t5 u2 u3 u4 u5 uz ufr sz tz haF haG hfr
     go_wp2_with fail
     clear f1
     go_loopg [10] x.args.length (fun q s wr=>∃r:Nat,r<=x.args.length/\q=x.args.length - r/\s=Z r/\SlO 44 2 jV wr (.slice qs x.args.length cs) (qG r (toW g) x.args) Tq/\Kept Tq W12z wr)
     case atStart=>exact⟨0,by omega,rfl,rfl,by rw[qU];exact HV0.out,Kept.refl _ _⟩
     case round=>
      obtain⟨wq,hwq⟩:=nZ wr;subst hwq;obtain⟨r,hr,rfl,rfl,hV,hKv⟩:=hrel;have HV:=q8 hV;have HKv:=q8 hKv;have hzq:=hKv.size;have HNq:=q8 (HN1.out.other (hKv.block nb bO hjJ.out));have h1:wq.cell? (J gi (i*8+7))=some (.slice qs x.args.length cs):=(hKv.cell (p:=(J gi (i*8+7))) zf1 HTq.out.2.1).trans HF1.out;have zh1:=q9 h1;clear hV hKv
      by_cases hlr:r<x.args.length
      rotate_left
      ·obtain rfl:r=x.args.length:=(by omega);have hV8:=HV.out;rw[qR]at hV8;have HV8:=q8 hV8;clear hV8;have haM:Kept (fun j=>j=gi\/Tq j) wi wq:=(heY.out.kept.mono (fun _ _ h=>.inl h)).trans HKv.out (fun _ _ h=>.inr h);have hRw:=heY.out.row.other1 (HKv.out.block gi heY.out.lt HTq.out.2.1)
       have hx8:=HPq.out wq (toI g x) hRw haM.size (fun j hj h1 h2=>haM.block j (HOi.out.inb j hj) (fun h=>h.elim h2 h1)) rfl rfl hmN.out (tw64 (v:=(x.ar,x.an)) HG.out HRg.out.2.1 H64.out.2.1) (tw64 (v:=(x.br,x.bn)) HG.out HRg.out.2.2.1 H64.out.2.2)
        ⟨show SlO 44 2 jV wq _ (x.args.map _) Tq from HV8.out,by show(x.args.map _).length*16<=_;rw[yT];exact HSv.out.bd⟩
       have hn8:(qG i (toI g) y.list).set i (toI g x)=qG (i+1) (toI g) y.list:=(by rw[HX.out];exact qS hli);rw[hn8]at hx8;have HX8:=q8 hx8;have hdK:=q8 haM;clear hx8 hn8 hRw haM
       go_wp2_with fail
       go_roundg (y.list.length - (i+1))
       case measure=>omega
       case rel=>exact⟨i+1,by omega,rfl,by go_num,HX8.out,HK3.out.trans hdK.out fun j _ h=>h.elim (fun e=>e ▸ HTq.out.2.2) (HTq.out.1 j)⟩
      obtain⟨ga,hqs,haC,av64,hRv,ha8⟩:=Jd HV.out hlr;subst hqs;obtain⟨vv,hvv⟩:=nZ (x.args[r]);have he9:=q8 (HRs.out vv (by rw[hvv];exact zP hlr));rw[←hvv]at av64 hRv ha8;have HRv:=q8 hRv;have HPv:=q8 ha8;have HAv:=q8 av64;have a0:wq.cell? (J ga (r*2))=some (.bool vv.1):=hRv.at1 (j:=0) bO;have a1:wq.cell? (J ga (r*2+1))=some (Z vv.2):=hRv.at1 (j:=1) bO;have zga:=q9 a0;have hfr:=hRv.free1;have r0:(0:Int)<=(r:Int):=(by omega);have r1:(r:Int)<x.args.length:=(by omega);have hiH:=q8 haC;have HC:=q8 (ju vv.1 vv.2 nb no m c g wq.drew (HNq.out.other rfl) he9.out);clear hRv ha8 hvv haC av64
      go_wp2_with fail
      have hSp:(fun W':World=>W'.cell? (J gi (i*8+7))=some (.slice (some (J ga 0)) x.args.length cs)/\W'.cell? (J ga (r*2))=some (.bool vv.1)/\W'.cell? (J ga (r*2+1))=some (Z vv.2)) wq.drew:=⟨h1,a0,a1⟩;refine qA (S:=(fun W':World=>W'.cell? (J gi (i*8+7))=some (.slice (some (J ga 0)) x.args.length cs)/\W'.cell? (J ga (r*2))=some (.bool vv.1)/\W'.cell? (J ga (r*2+1))=some (Z vv.2))) bK 15 ?_;refine qx 0 153 (.pointer (some (J gi (i*8)))) rfl rfl hSp (fun W' hS'=>by obtain⟨h0,h1,h2⟩:=hS';go_simp) ?_;refine qx 1 154 (.pointer (some (J gi (i*8)))) rfl rfl hSp (fun W' hS'=>by obtain⟨h0,h1,h2⟩:=hS';go_simp) ?_;refine qx 2 155 (.pointer (some (J gi (i*8+7)))) rfl rfl hSp (fun W' hS'=>by obtain⟨h0,h1,h2⟩:=hS';go_simp) ?_;refine qx 3 156 (.slice (some (J ga 0)) x.args.length cs) rfl rfl hSp (fun W' hS'=>by obtain⟨h0,h1,h2⟩:=hS';go_simp) ?_;refine qx 4 157 (Z r) rfl rfl hSp (fun W' hS'=>by obtain⟨h0,h1,h2⟩:=hS';go_simp) ?_;refine qx 5 158 (.pointer (some (J gi (i*8)))) rfl rfl hSp (fun W' hS'=>by obtain⟨h0,h1,h2⟩:=hS';go_simp) ?_;refine qx 6 159 (.pointer (some (J gi (i*8)))) rfl rfl hSp (fun W' hS'=>by obtain⟨h0,h1,h2⟩:=hS';go_simp) ?_;refine qx 7 160 (.pointer (some (J gi (i*8+7)))) rfl rfl hSp (fun W' hS'=>by obtain⟨h0,h1,h2⟩:=hS';go_simp) ?_;refine qx 8 161 (.slice (some (J ga 0)) x.args.length cs) rfl rfl hSp (fun W' hS'=>by obtain⟨h0,h1,h2⟩:=hS';go_simp) ?_;refine qx 9 162 (Z r) rfl rfl hSp (fun W' hS'=>by obtain⟨h0,h1,h2⟩:=hS';go_simp) ?_;refine qx 10 163 (.pointer (some (J ga (r*2)))) rfl rfl hSp (fun W' hS'=>by obtain⟨h0,h1,h2⟩:=hS';go_simp) ?_;refine qx 11 164 (.agg #[.bool vv.1,Z vv.2]) rfl rfl hSp (fun W' hS'=>by obtain⟨h0,h1,h2⟩:=hS';go_simp) ?_;refine qx 12 165 (.slice (some (J nb no)) m c) rfl rfl hSp (fun W' hS'=>by obtain⟨h0,h1,h2⟩:=hS';go_simp) ?_;refine qm (i:=13) bK (qt 166 rfl rfl rfl (by go_simp) (HC.out) ?_);rintro e W8 ⟨rfl,hb8⟩;have g0:=(hb8.cell (p:=(J ga (r*2))) zga).trans a0;have gz:=q9 g0;have gfr:∀i,W8.frozen? (J ga i)=false:=fun i=>(yB (a:=(J ga i)) (hb8.block ga zga)).trans (hfr i);have HB8:=q8 hb8;have hSp:(fun W':World=>W'.cell? (J gi (i*8+7))=some (.slice (some (J ga 0)) x.args.length cs)/\W'.cell? (J ga (r*2))=some (.bool vv.1)/\W'.cell? (J ga (r*2+1))=some (Z vv.2)) W8:=⟨(hb8.cell (by simpa using q9 (h1))).trans (h1),(hb8.cell (by simpa using q9 (a0))).trans (a0),(hb8.cell (by simpa using q9 (a1))).trans (a1)⟩;clear hb8;refine⟨_,rfl,hSp,?_⟩;refine qx 14 167 (.pointer (some (J ga (r*2)))) rfl rfl hSp (fun W' hS'=>by obtain⟨h0,h1,h2⟩:=hS';go_simp) ?_;refine qm (i:=15) bK (qz ((W8.setCell (J ga (r*2)) (.bool vv.1)).setCell (J ga (r*2+1)) (Z (toW g (vv.1,vv.2)).2)) rfl rfl rfl (by go_simp) (fun h=>absurd rfl h) ?_);refine⟨by kernel_rfl,?_⟩;have hR9:=(((RowW.start HRv.out).drew.below HB8.out).set (j:=0) (v:=.bool vv.1) rfl bO).set (j:=1) (v:=Z (toW g (vv.1,vv.2)).2) rfl bO
      have hV9:=HPv.out _ (by
       have e1:(toW g vv).1=vv.1:=K2 g vv;rw[e1]
       exact hR9) (tw64 HG.out he9.out HAv.out)
      have HV9:=q8 hV9;have HK9:=q8 (HKv.out.trans hR9.kept fun i _ e=>by(have e:i=ga:=e);exact e ▸ hiH.out);clear hR9 hV9 a0 a1 zga hfr g0 gz gfr hSp;unfold calm;dsimp only [Act.put]
      go_wp2_with fail
      go_roundg (x.args.length - (r+1))
      case measure=>omega
      case rel=>exact⟨r+1,by omega,rfl,by go_num,HV9.out,HK9.out⟩
    have hmN:Hid (I64 (toI g x).dst):=q8 (by show I64 (if 0<=x.dst then g x.dst else x.dst);rw[zQ hd];exact H64.out.1);have HDx:Hid ((toI g x).dst=x.dst):=q8 (by show(if 0<=x.dst then g x.dst else x.dst)=_;rw[zQ hd]);have hdd:decide (x.dst<0)=true:=decide_eq_true bO;have hda:decide (0<=x.dst)=false:=decide_eq_false hd
    go_wp2_with fail
    have haK:RowW wi wi 51 gi (i*8) 8 [Z x.op,Z (toI g x).dst,.bool x.ar,Z x.an,.bool x.br,Z x.bn,Z x.fn,.slice qs x.args.length cs]:=(by rw[HDx.out];exact RowW.start HRq.out);have hiC:=q8 haK;have heI:=q8 (HNi.out.other (haK.kept.block nb bO (fun e=>hcE.out (hjK e))));have u2:wi.cell? (J gi (i*8+2))=some (.bool x.ar):=haK.row.at1 (j:=2) bO;have u3:wi.cell? (J gi (i*8+3))=some (Z x.an):=haK.row.at1 (j:=3) bO;have u4:wi.cell? (J gi (i*8+4))=some (.bool x.br):=haK.row.at1 (j:=4) bO;have u5:wi.cell? (J gi (i*8+5))=some (Z x.bn):=haK.row.at1 (j:=5) bO;have uz:=q9 u2;have ufr:=haK.row.free1;have hfU:=haK.kept.size;clear haK x1 x2 x3 x4 x5 d1 zd;have hSp:(fun W':World=>W'.cell? (J gi (i*8+4))=some (.bool x.br)/\W'.cell? (J gi (i*8+5))=some (Z x.bn)) wi.drew:=⟨u4,u5⟩;refine qA (S:=(fun W':World=>W'.cell? (J gi (i*8+4))=some (.bool x.br)/\W'.cell? (J gi (i*8+5))=some (Z x.bn))) bK 19 ?_;refine qx 0 126 (.pointer (some (J gi (i*8)))) rfl rfl hSp (fun W' hS'=>by obtain⟨h0,h1⟩:=hS';go_simp) ?_;refine qx 1 127 (.pointer (some (J gi (i*8)))) rfl rfl hSp (fun W' hS'=>by obtain⟨h0,h1⟩:=hS';go_simp) ?_;refine qx 2 128 (.pointer (some (J gi (i*8)))) rfl rfl hSp (fun W' hS'=>by obtain⟨h0,h1⟩:=hS';go_simp) ?_;refine qx 3 129 (.pointer (some (J gi (i*8)))) rfl rfl hSp (fun W' hS'=>by obtain⟨h0,h1⟩:=hS';go_simp) ?_;refine qx 4 130 (.pointer (some (J gi (i*8+2)))) rfl rfl hSp (fun W' hS'=>by obtain⟨h0,h1⟩:=hS';go_simp) ?_;refine qx 6 132 (.slice (some (J nb no)) m c) rfl rfl hSp (fun W' hS'=>by obtain⟨h0,h1⟩:=hS';go_simp) ?_;refine qx 8 134 (.pointer (some (J gi (i*8)))) rfl rfl hSp (fun W' hS'=>by obtain⟨h0,h1⟩:=hS';go_simp) ?_;refine qx 9 135 (.pointer (some (J gi (i*8)))) rfl rfl hSp (fun W' hS'=>by obtain⟨h0,h1⟩:=hS';go_simp) ?_;refine qx 10 136 (.pointer (some (J gi (i*8+4)))) rfl rfl hSp (fun W' hS'=>by obtain⟨h0,h1⟩:=hS';go_simp) ?_;refine qx 12 138 (.slice (some (J nb no)) m c) rfl rfl hSp (fun W' hS'=>by obtain⟨h0,h1⟩:=hS';go_simp) ?_;refine qx 11 137 (.agg #[.bool x.br,Z x.bn]) rfl rfl hSp (fun W' hS'=>by obtain⟨h0,h1⟩:=hS';go_simp) ?_;refine qm (i:=5) bK (qC 131 (.agg #[.bool x.ar,Z x.an]) _ rfl rfl rfl (by go_simp) hSp ?_);refine qm (i:=7) bK (qt 133 rfl rfl rfl (by go_simp) (HCa.out wi.drew (heI.out.other rfl)) ?_);rintro e W11 ⟨rfl,haF⟩;have s4:=(haF.cell (p:=(J gi (i*8+4))) uz).trans u4;have s5:=(haF.cell (p:=(J gi (i*8+5))) uz).trans u5;have sz:=q9 s4;have hSp:(fun W':World=>W'.cell? (J gi (i*8+4))=some (.bool x.br)/\W'.cell? (J gi (i*8+5))=some (Z x.bn)) W11:=⟨s4,s5⟩;have hjL:=q8 haF;have hzb:nb<wi.heap.size:=(by omega);refine⟨_,rfl,hSp,?_⟩;refine qm (i:=13) bK (qt 139 rfl rfl rfl (by go_simp) (HCb.out W11 ((heI.out.other rfl).other (haF.block nb hzb))) ?_);rintro e W12 ⟨rfl,haG⟩;have t4:=(haG.cell (p:=(J gi (i*8+4))) sz).trans s4;have t5:=(haG.cell (p:=(J gi (i*8+5))) sz).trans s5;have tz:=q9 t4;have hdh:=(hiC.out.drew.below haF).below haG;have tfr:=hdh.row.free1;have t2:W12.cell? (J gi (i*8+2))=some (.bool x.ar):=hdh.row.at1 (j:=2) bO;have t3:W12.cell? (J gi (i*8+3))=some (Z x.an):=hdh.row.at1 (j:=3) bO;have hSp:(fun W':World=>W'.cell? (J gi (i*8+4))=some (.bool x.br)/\W'.cell? (J gi (i*8+5))=some (Z x.bn)) W12:=⟨t4,t5⟩;have hdI:=q8 haG;refine⟨_,rfl,hSp,?_⟩;refine qx 14 140 (.pointer (some (J gi (i*8)))) rfl rfl hSp (fun W' hS'=>by obtain⟨h0,h1⟩:=hS';go_simp) ?_;refine qx 15 141 (.pointer (some (J gi (i*8+2)))) rfl rfl hSp (fun W' hS'=>by obtain⟨h0,h1⟩:=hS';go_simp) ?_;obtain⟨W13,heV⟩:=nZ ((W12.setCell (J gi (i*8+2)) (.bool x.ar)).setCell (J gi (i*8+2+1)) (Z (toW g (x.ar,x.an)).2));have hiI:=(hdh.set (j:=2) (v:=.bool x.ar) rfl bO).set (j:=3) (v:=Z (toW g (x.ar,x.an)).2) rfl bO;have han:RowW wi W13 51 gi (i*8) 8 [Z x.op,Z (toI g x).dst,.bool x.ar,Z (toW g (x.ar,x.an)).2,.bool x.br,Z x.bn,Z x.fn,.slice qs x.args.length cs]:=(by rw[heV];exact hiI);have heW:(fun W':World=>W'.cell? (J gi (i*8+4))=some (.bool x.br)/\W'.cell? (J gi (i*8+5))=some (Z x.bn)) W13:=⟨han.row.at1 (j:=4) bO,han.row.at1 (j:=5) bO⟩;refine qm (i:=16) bK (qz W13 rfl rfl rfl (by rw[heV];go_simp) (fun _=>heW) ?_);have hSp:=heW;refine qx 17 142 (.pointer (some (J gi (i*8)))) rfl rfl hSp (fun W' hS'=>by obtain⟨h0,h1⟩:=hS';go_simp) ?_;refine qx 18 143 (.pointer (some (J gi (i*8+4)))) rfl rfl hSp (fun W' hS'=>by obtain⟨h0,h1⟩:=hS';go_simp) ?_;obtain⟨W12z,heX⟩:=nZ ((W13.setCell (J gi (i*8+4)) (.bool x.br)).setCell (J gi (i*8+4+1)) (Z (toW g (x.br,x.bn)).2));have hiJ:=(han.set (j:=4) (v:=.bool x.br) rfl bO).set (j:=5) (v:=Z (toW g (x.br,x.bn)).2) rfl bO;have hau:RowW wi W12z 51 gi (i*8) 8 [Z (toI g x).op,Z (toI g x).dst,.bool (toI g x).ar,Z (toI g x).an,.bool (toI g x).br,Z (toI g x).bn,Z (toI g x).fn,.slice qs x.args.length cs]:=(by rw[heX];exact hiJ);have zfr:=han.row.free1;have z13:=han.lt;refine qm (i:=19) bK (qz W12z rfl rfl rfl (by rw[heX];go_simp) (fun h=>absurd rfl h) ?_);refine⟨by kernel_rfl,?_⟩;unfold calm;dsimp only [Act.put];have heY:=q8 hau;have HV0:=q8 (HSv.out.sl.kept zq hau.kept fun j e h=>HTq.out.2.1 (by(have e:j=gi:=e);exact e ▸ h));have hz7:=hau.kept.size;have HN1:=q8 (HNi.out.other (hau.kept.block nb bO (fun e=>hcE.out (hjK e))));have f1:W12z.cell? (J gi (i*8+7))=some (.slice qs x.args.length cs):=hau.row.at1 (j:=7) bO;have HF1:=q8 f1;have zf1:=q9 f1;clear hSp heW heV heX hiI han hiJ hau hdh tfr zfr z13 s4 s5 t2 t3 t4 t5 u2 u3 u4 u5 uz ufr sz tz haF haG hfr
    go_wp2_with fail
    clear f1
    go_loopg [10] x.args.length (fun q s wr=>∃r:Nat,r<=x.args.length/\q=x.args.length - r/\s=Z r/\SlO 44 2 jV wr (.slice qs x.args.length cs) (qG r (toW g) x.args) Tq/\Kept Tq W12z wr)
    case atStart=>exact⟨0,by omega,rfl,rfl,by rw[qU];exact HV0.out,Kept.refl _ _⟩
    case round=>
     obtain⟨wq,hwq⟩:=nZ wr;subst hwq;obtain⟨r,hr,rfl,rfl,hV,hKv⟩:=hrel;have HV:=q8 hV;have HKv:=q8 hKv;have hzq:=hKv.size;have HNq:=q8 (HN1.out.other (hKv.block nb bO hjJ.out));have h1:wq.cell? (J gi (i*8+7))=some (.slice qs x.args.length cs):=(hKv.cell (p:=(J gi (i*8+7))) zf1 HTq.out.2.1).trans HF1.out;have zh1:=q9 h1;clear hV hKv
     by_cases hlr:r<x.args.length
     rotate_left
     ·obtain rfl:r=x.args.length:=(by omega);have hV8:=HV.out;rw[qR]at hV8;have HV8:=q8 hV8;clear hV8;have haM:Kept (fun j=>j=gi\/Tq j) wi wq:=(heY.out.kept.mono (fun _ _ h=>.inl h)).trans HKv.out (fun _ _ h=>.inr h);have hRw:=heY.out.row.other1 (HKv.out.block gi heY.out.lt HTq.out.2.1)
      have hx8:=HPq.out wq (toI g x) hRw haM.size (fun j hj h1 h2=>haM.block j (HOi.out.inb j hj) (fun h=>h.elim h2 h1)) rfl rfl hmN.out (tw64 (v:=(x.ar,x.an)) HG.out HRg.out.2.1 H64.out.2.1) (tw64 (v:=(x.br,x.bn)) HG.out HRg.out.2.2.1 H64.out.2.2)
       ⟨show SlO 44 2 jV wq _ (x.args.map _) Tq from HV8.out,by show(x.args.map _).length*16<=_;rw[yT];exact HSv.out.bd⟩
      have hn8:(qG i (toI g) y.list).set i (toI g x)=qG (i+1) (toI g) y.list:=(by rw[HX.out];exact qS hli);rw[hn8]at hx8;have HX8:=q8 hx8;have hdK:=q8 haM;clear hx8 hn8 hRw haM
      go_wp2_with fail
      go_roundg (y.list.length - (i+1))
      case measure=>omega
      case rel=>exact⟨i+1,by omega,rfl,by go_num,HX8.out,HK3.out.trans hdK.out fun j _ h=>h.elim (fun e=>e ▸ HTq.out.2.2) (HTq.out.1 j)⟩
     obtain⟨ga,hqs,haC,av64,hRv,ha8⟩:=Jd HV.out hlr;subst hqs;obtain⟨vv,hvv⟩:=nZ (x.args[r]);have he9:=q8 (HRs.out vv (by rw[hvv];exact zP hlr));rw[←hvv]at av64 hRv ha8;have HRv:=q8 hRv;have HPv:=q8 ha8;have HAv:=q8 av64;have a0:wq.cell? (J ga (r*2))=some (.bool vv.1):=hRv.at1 (j:=0) bO;have a1:wq.cell? (J ga (r*2+1))=some (Z vv.2):=hRv.at1 (j:=1) bO;have zga:=q9 a0;have hfr:=hRv.free1;have r0:(0:Int)<=(r:Int):=(by omega);have r1:(r:Int)<x.args.length:=(by omega);have hiH:=q8 haC;have HC:=q8 (ju vv.1 vv.2 nb no m c g wq.drew (HNq.out.other rfl) he9.out);clear hRv ha8 hvv haC av64
     go_wp2_with fail
     have hSp:(fun W':World=>W'.cell? (J gi (i*8+7))=some (.slice (some (J ga 0)) x.args.length cs)/\W'.cell? (J ga (r*2))=some (.bool vv.1)/\W'.cell? (J ga (r*2+1))=some (Z vv.2)) wq.drew:=⟨h1,a0,a1⟩;refine qA (S:=(fun W':World=>W'.cell? (J gi (i*8+7))=some (.slice (some (J ga 0)) x.args.length cs)/\W'.cell? (J ga (r*2))=some (.bool vv.1)/\W'.cell? (J ga (r*2+1))=some (Z vv.2))) bK 15 ?_;refine qx 0 153 (.pointer (some (J gi (i*8)))) rfl rfl hSp (fun W' hS'=>by obtain⟨h0,h1,h2⟩:=hS';go_simp) ?_;refine qx 1 154 (.pointer (some (J gi (i*8)))) rfl rfl hSp (fun W' hS'=>by obtain⟨h0,h1,h2⟩:=hS';go_simp) ?_;refine qx 2 155 (.pointer (some (J gi (i*8+7)))) rfl rfl hSp (fun W' hS'=>by obtain⟨h0,h1,h2⟩:=hS';go_simp) ?_;refine qx 3 156 (.slice (some (J ga 0)) x.args.length cs) rfl rfl hSp (fun W' hS'=>by obtain⟨h0,h1,h2⟩:=hS';go_simp) ?_;refine qx 4 157 (Z r) rfl rfl hSp (fun W' hS'=>by obtain⟨h0,h1,h2⟩:=hS';go_simp) ?_;refine qx 5 158 (.pointer (some (J gi (i*8)))) rfl rfl hSp (fun W' hS'=>by obtain⟨h0,h1,h2⟩:=hS';go_simp) ?_;refine qx 6 159 (.pointer (some (J gi (i*8)))) rfl rfl hSp (fun W' hS'=>by obtain⟨h0,h1,h2⟩:=hS';go_simp) ?_;refine qx 7 160 (.pointer (some (J gi (i*8+7)))) rfl rfl hSp (fun W' hS'=>by obtain⟨h0,h1,h2⟩:=hS';go_simp) ?_;refine qx 8 161 (.slice (some (J ga 0)) x.args.length cs) rfl rfl hSp (fun W' hS'=>by obtain⟨h0,h1,h2⟩:=hS';go_simp) ?_;refine qx 9 162 (Z r) rfl rfl hSp (fun W' hS'=>by obtain⟨h0,h1,h2⟩:=hS';go_simp) ?_;refine qx 10 163 (.pointer (some (J ga (r*2)))) rfl rfl hSp (fun W' hS'=>by obtain⟨h0,h1,h2⟩:=hS';go_simp) ?_;refine qx 11 164 (.agg #[.bool vv.1,Z vv.2]) rfl rfl hSp (fun W' hS'=>by obtain⟨h0,h1,h2⟩:=hS';go_simp) ?_;refine qx 12 165 (.slice (some (J nb no)) m c) rfl rfl hSp (fun W' hS'=>by obtain⟨h0,h1,h2⟩:=hS';go_simp) ?_;refine qm (i:=13) bK (qt 166 rfl rfl rfl (by go_simp) (HC.out) ?_);rintro e W8 ⟨rfl,hb8⟩;have g0:=(hb8.cell (p:=(J ga (r*2))) zga).trans a0;have gz:=q9 g0;have gfr:∀i,W8.frozen? (J ga i)=false:=fun i=>(yB (a:=(J ga i)) (hb8.block ga zga)).trans (hfr i);have HB8:=q8 hb8;have hSp:(fun W':World=>W'.cell? (J gi (i*8+7))=some (.slice (some (J ga 0)) x.args.length cs)/\W'.cell? (J ga (r*2))=some (.bool vv.1)/\W'.cell? (J ga (r*2+1))=some (Z vv.2)) W8:=⟨(hb8.cell (by simpa using q9 (h1))).trans (h1),(hb8.cell (by simpa using q9 (a0))).trans (a0),(hb8.cell (by simpa using q9 (a1))).trans (a1)⟩;clear hb8;refine⟨_,rfl,hSp,?_⟩;refine qx 14 167 (.pointer (some (J ga (r*2)))) rfl rfl hSp (fun W' hS'=>by obtain⟨h0,h1,h2⟩:=hS';go_simp) ?_;refine qm (i:=15) bK (qz ((W8.setCell (J ga (r*2)) (.bool vv.1)).setCell (J ga (r*2+1)) (Z (toW g (vv.1,vv.2)).2)) rfl rfl rfl (by go_simp) (fun h=>absurd rfl h) ?_);refine⟨by kernel_rfl,?_⟩;have hR9:=(((RowW.start HRv.out).drew.below HB8.out).set (j:=0) (v:=.bool vv.1) rfl bO).set (j:=1) (v:=Z (toW g (vv.1,vv.2)).2) rfl bO
     have hV9:=HPv.out _ (by
      have e1:(toW g vv).1=vv.1:=K2 g vv;rw[e1]
      exact hR9) (tw64 HG.out he9.out HAv.out)
     have HV9:=q8 hV9;have HK9:=q8 (HKv.out.trans hR9.kept fun i _ e=>by(have e:i=ga:=e);exact e ▸ hiH.out);clear hR9 hV9 a0 a1 zga hfr g0 gz gfr hSp;unfold calm;dsimp only [Act.put]
     go_wp2_with fail
     go_roundg (x.args.length - (r+1))
     case measure=>omega
     case rel=>exact⟨r+1,by omega,rfl,by go_num,HV9.out,HK9.out⟩

def rdB (r:Int) (b:BlkL):Bool:=isV r (b.fin.onr,b.fin.onn) || (b.phis.any (tkP r) || b.list.any (tkI r))
theorem tkF_rd (r:Int) (f:FunL):tkF r f=f.blocks.any (rdB r):=by
 unfold tkF;generalize f.blocks=l
 induction l with
 | nil=>rfl
 | cons b l ih=>
  simp only[List.any_cons];rw[←ih];unfold rdB tkB;generalize b.list.any (tkI r)=a1;generalize l.any _=a2;generalize isV r _=a3;generalize b.phis.any _=a4;generalize l.any _=a5;cases a1<;>cases a2<;>cases a3<;>cases a4<;>cases a5<;>rfl

theorem jD (r n:Int) (b:Bool) (w:World) :
  Calls Tryz.prog 41 #[.agg #[.bool b,Z n],Z r] w fun e w'=>e = .returned (.bool (isV r (b,n)))/\Below w.heap.size w w':=by
 cases b
 ·go_enter Tryz.func41,Tryz.ntmps41
  go_wp2
  go_ret
  exact⟨rfl,by exact bZ⟩
 go_enter Tryz.func41,Tryz.ntmps41
 go_wp2
 go_ret
 exact⟨rfl,by exact bZ⟩

theorem YL (f:FunL) (r:Int) (bp:Option Addr) (bc:Nat) (w:World) (hl0:f.blocks.length*96<=140737488351232) (hB:SliceAt w 6 (BlkR w) bp f.blocks) :
  Calls Tryz.prog 16 #[.agg #[.string f.name,Z f.params,Z f.regs,.slice bp f.blocks.length bc],Z r] w fun e w'=>e = .returned (.bool (tkF r f))/\Below w.heap.size w w':=by
 have HT:Hid (∀k (hk:k<f.blocks.length),rdB r f.blocks[k]=true->tkF r f=true):=q8 fun k hk h=>by rw[tkF_rd];exact vj hk h
 have HN:Hid ((∀k (hk:k<f.blocks.length),rdB r f.blocks[k]=false)->tkF r f=false):=q8 fun h=>by rw[tkF_rd];exact jw h
 have HF:=q8 hB;clear hB
 go_enter Tryz.func16,Tryz.ntmps16
 go_wp2_with fail
 obtain⟨W0,hW0⟩:=nZ (w.alloc (.cells #[.string f.name,Z f.params,Z f.regs,.slice bp f.blocks.length bc] 38));rw[←hW0];have hz0:W0.heap.size=w.heap.size+1:=by rw[hW0];simp
 have HB0:Hid (Below w.heap.size w W0):=q8 (by rw[hW0];exact bZ);have HA:Hid (W0.heap[w.heap.size]?=some (.cells #[.string f.name,Z f.params,Z f.regs,.slice bp f.blocks.length bc] 38 (0,0))):=q8 (by rw[hW0];exact qr rfl);clear hW0
 go_loopg [5] f.blocks.length (fun q s wr=>∃k:Nat,k<=f.blocks.length/\q=f.blocks.length - k/\s=Z k/\Below W0.heap.size W0 wr/\∀j (h:j<f.blocks.length),j<k->rdB r f.blocks[j]=false)
 case atStart=>exact⟨0,by omega,rfl,rfl,zI _ _,fun _ _ h=>absurd h bO⟩
 case round=>
  obtain⟨wo,hwo⟩:=nZ wr;subst hwo;obtain⟨k,hk,rfl,rfl,hb,hV⟩:=hrel;have HV:=q8 hV;have HBo:=q8 hb;have hzo:=hb.size;have HBw:Hid (Below w.heap.size w wo):=HB0.out.trans (hb.mono bO);have hA:=(hb.block w.heap.size bO).trans HA.out;have a3:wo.cell? (J w.heap.size 3)=some (.slice bp f.blocks.length bc):=(blk hA).1 3;have za:=qd hA;clear hb hV hA
  by_cases hlt:k<f.blocks.length
  rotate_left
  ·obtain rfl:k=f.blocks.length:=(by omega);have HR:Hid (tkF r f=false):=q8 (HN.out fun j hj=>HV.out j hj hj)
   go_wp2_with fail
   go_ret
   exact⟨by rw[HR.out];rfl,HBw.out⟩
  obtain⟨b2,o2,q1,c1,q2,c2,q3,c3,hp,e0,e1,e2,e3,e4,e5,_,_,t1,t2,_,hph,hli,_⟩:=vw HF.out HBw.out hlt;subst hp;obtain⟨x,hx⟩:=nZ (f.blocks[k]);have HX:=q8 hx;rw[←hx]at e0 e1 e2 e3 e4 e5 t1 t2 hph hli;have HPh:=q8 hph;have HLi:=q8 hli;have hz1:=q9 e0;have g1:(0:Int)<=(k:Int):=by omega
  have g2:(k:Int)<f.blocks.length:=by omega
  have hmP:Hid (rdB r x=true->tkF r f=true):=q8 fun h=>HT.out k hlt (by rw[←HX.out];exact h);clear hx hph hli
  go_wp2_with fail
  obtain⟨W1,hW1⟩:=nZ (wo.alloc (.cells #[.slice q1 x.phis.length c1,.slice q2 x.list.length c2,Z x.fin.kind,.bool x.fin.onr,Z x.fin.onn,.slice q3 x.fin.to.length c3] 49));rw[←hW1];have hz2:W1.heap.size=wo.heap.size+1:=by rw[hW1];simp
  have HB1:Hid (Below wo.heap.size wo W1):=q8 (by rw[hW1];exact bZ);have HX1:Hid (W1.heap[wo.heap.size]?=some (.cells #[.slice q1 x.phis.length c1,.slice q2 x.list.length c2,Z x.fin.kind,.bool x.fin.onr,Z x.fin.onn,.slice q3 x.fin.to.length c3] 49 (0,0))):=q8 (by rw[hW1];exact qr rfl);clear hW1;refine(jD r x.fin.onn x.fin.onr W1).mono ?_;rintro e W2 ⟨rfl,hb2⟩;have hw6:=hb2.size;have HB2:Hid (Below wo.heap.size wo W2):=q8 (HB1.out.trans (hb2.mono bO));have HX2:Hid (W2.heap[wo.heap.size]?=some (.cells #[.slice q1 x.phis.length c1,.slice q2 x.list.length c2,Z x.fin.kind,.bool x.fin.onr,Z x.fin.onn,.slice q3 x.fin.to.length c3] 49 (0,0))):=q8 ((hb2.block _ bO).trans HX1.out);have heZ:Hid (Below w.heap.size w W2):=q8 (HBw.out.trans (HB2.out.mono (by have:=HBw.out.size;omega)));clear hb2 a3 e0 e1 e2 e3 e4 e5 hz1;cases h1:isV r (x.fin.onr,x.fin.onn)
  rotate_left
  ·have hR:tkF r f=true:=hmP.out (by unfold rdB;rw[h1];rfl);have HR:=q8 hR;clear h1 hR
   go_wp2_with fail
   go_ret
   exact⟨by rw[HR.out];rfl,heZ.out⟩
  have H1:=q8 h1;clear h1
  go_wp2_with fail
  go_loopg [7] x.phis.length (fun q s wr=>∃i:Nat,i<=x.phis.length/\q=x.phis.length - i/\s=Z i/\Below W2.heap.size W2 wr/\∀j (h:j<x.phis.length),j<i->tkP r x.phis[j]=false)
  case atStart=>exact⟨0,by omega,rfl,rfl,zI _ _,fun _ _ h=>absurd h bO⟩
  case round=>
   obtain⟨wp,hwp⟩:=nZ wr;subst hwp;obtain⟨i,hi,rfl,rfl,hb,hV⟩:=hrel;have HV1:=q8 hV;have hzp:=hb.size;have HBp:Hid (Below wo.heap.size wo wp):=q8 (HB2.out.trans (hb.mono bO));have hjM:Hid (Below w.heap.size w wp):=q8 (heZ.out.trans (hb.mono heZ.out.size));have hqr:=q8 hb;have HXp:=q8 ((hb.block _ bO).trans HX2.out);have x0:wp.cell? (J wo.heap.size 0)=some (.slice q1 x.phis.length c1):=(blk HXp.out).1 0;have x1:wp.cell? (J wo.heap.size 1)=some (.slice q2 x.list.length c2):=(blk HXp.out).1 1;have zx:=qd HXp.out;clear hb hV
   by_cases hlt2:i<x.phis.length
   ·obtain⟨bp,op,qs,cs,hp,p0,p1,_,_,hsr⟩:=Jz HPh.out HBp.out hlt2;subst hp;have HSr:=q8 hsr;have zp:=q9 p1;have i1:(0:Int)<=(i:Int):=(by omega);have i2:(i:Int)<x.phis.length:=(by omega);clear hsr p0 x1
    go_wp2_with fail
    go_loopg [8] x.phis[i].src.length (fun q s wr=>∃l:Nat,l<=x.phis[i].src.length/\q=x.phis[i].src.length - l/\s=Z l/\Below wp.heap.size wp wr/\∀j (h:j<x.phis[i].src.length),j<l->isV r x.phis[i].src[j]=false)
    case atStart=>exact⟨0,by omega,rfl,rfl,zI _ _,fun _ _ h=>absurd h bO⟩
    case round=>
     obtain⟨wq,hwq⟩:=nZ wr;subst hwq;obtain⟨l,hl,rfl,rfl,hb,hV⟩:=hrel;have HV2:=q8 hV;have hzq:=hb.size;have HBq:=q8 hb;have hdU:Hid (Below w.heap.size w wq):=q8 (hjM.out.trans (hb.mono hjM.out.size));have y0:wq.cell? (J wo.heap.size 0)=some (.slice (some (J bp op)) x.phis.length c1):=(hb.cell (p:=(J wo.heap.size 0)) zx).trans x0;have r1:wq.cell? (J bp (op+i*2+1))=some (.slice qs x.phis[i].src.length cs):=(hb.cell (p:=(J bp (op+i*2+1))) zp).trans p1;have zy:=q9 y0;have zr:=q9 r1;clear hb hV
     by_cases hlt3:l<x.phis[i].src.length
     rotate_left
     ·obtain rfl:l=x.phis[i].src.length:=(by omega);have HP:Hid (tkP r x.phis[i]=false):=q8 (jw (t:=isV r) fun j hj=>HV2.out j hj hj);clear x0 p1
      go_wp2_with fail
      go_roundg (x.phis.length - (i+1))
      case measure=>omega
      case rel=>
       refine⟨i+1,by omega,rfl,by go_num,hqr.out.trans (HBq.out.mono hqr.out.size),fun j hj h=>?_⟩
       by_cases e:j=i
       ·subst e;exact HP.out
       exact HV1.out j hj bO
     obtain⟨bs,os,hp,s0,s1,_⟩:=Z1 HSr.out HBq.out hlt3;subst hp;have zs:=q9 s0;have l1:(0:Int)<=(l:Int):=(by omega);have l2:(l:Int)<x.phis[i].src.length:=by omega
     go_wp2_with fail
     refine(jD r x.phis[i].src[l].2 x.phis[i].src[l].1 wq).mono ?_;rintro e W3 ⟨rfl,hb3⟩;have HB3:=q8 hb3;clear hb3 y0 r1 s0 s1 x0 p1;cases h2:isV r (x.phis[i].src[l].1,x.phis[i].src[l].2)
     rotate_left
     ·have hR:tkF r f=true:=hmP.out (by
       have h3:tkP r x.phis[i]=true:=vj (t:=isV r) hlt3 h2;have h4:x.phis.any (tkP r)=true:=vj hlt2 h3;unfold rdB
       rw[h4,Bool.true_or,Bool.or_true])
      have HR:=q8 hR;clear h2 hR
      go_wp2_with fail
      go_ret
      exact⟨by rw[HR.out];rfl,hdU.out.trans (HB3.out.mono hdU.out.size)⟩
     have H2:=q8 h2;clear h2
     go_wp2_with fail
     go_roundg (x.phis[i].src.length - (l+1))
     case measure=>omega
     case rel=>
      refine⟨l+1,by omega,rfl,by go_num,HBq.out.trans (HB3.out.mono HBq.out.size),fun j hj h=>?_⟩
      by_cases e:j=l
      ·subst e;exact H2.out
      exact HV2.out j hj bO
   obtain rfl:i=x.phis.length:=(by omega);have HP:Hid (x.phis.any (tkP r)=false):=q8 (jw fun j hj=>HV1.out j hj hj)
   go_wp2_with fail
   clear x0 x1
   go_loopg [9] x.list.length (fun q s wr=>∃i:Nat,i<=x.list.length/\q=x.list.length - i/\s=Z i/\Below wp.heap.size wp wr/\∀j (h:j<x.list.length),j<i->tkI r x.list[j]=false)
   case atStart=>exact⟨0,by omega,rfl,rfl,zI _ _,fun _ _ h=>absurd h bO⟩
   case round=>
    obtain⟨wq,hwq⟩:=nZ wr;subst hwq;obtain⟨i,hi,rfl,rfl,hb,hV⟩:=hrel;have HV2:=q8 hV;have hzq:=hb.size;have hqt:=q8 hb;have HBq:Hid (Below wo.heap.size wo wq):=q8 (HBp.out.trans (hb.mono HBp.out.size));have hdU:Hid (Below w.heap.size w wq):=q8 (hjM.out.trans (hb.mono hjM.out.size));have HXq:=q8 ((hb.block _ zx).trans HXp.out);have x1:wq.cell? (J wo.heap.size 1)=some (.slice q2 x.list.length c2):=(blk HXq.out).1 1;have zy:=qd HXq.out;clear hb hV
    by_cases hlt2:i<x.list.length
    rotate_left
    ·obtain rfl:i=x.list.length:=by omega
     have HRd:Hid (rdB r x=false):=q8 (by
      have h4:x.list.any (tkI r)=false:=jw fun j hj=>HV2.out j hj hj;unfold rdB;rw[H1.out,HP.out,h4]
      rfl)
     go_wp2_with fail
     go_roundg (f.blocks.length - (k+1))
     case measure=>omega
     case rel=>
      refine⟨k+1,by omega,rfl,by go_num,HBo.out.trans (HBq.out.mono HBo.out.size),fun j hj h=>?_⟩
      by_cases e:j=k
      ·subst e;rw[←HX.out];exact HRd.out
      exact HV.out j hj bO
    obtain⟨bp,op,qs,cs,hp,_,_,n2,n3,n4,n5,_,n7,_,_,_,_,_,hal,hsr⟩:=Zp HLi.out HBq.out hlt2;subst hp;obtain⟨Y,hY⟩:=nZ (x.list[i])
    have HHi:Hid (tkI r Y=true->tkF r f=true):=q8 fun h=>hmP.out (by
     have h4:x.list.any (tkI r)=true:=vj hlt2 (by rw[←hY];exact h);unfold rdB
     rw[h4,Bool.or_true,Bool.or_true])
    rw[←hY]at n2 n3 n4 n5 n7 hsr hal;have HYe:=q8 hY;have HSr:=q8 hsr;have zp:=q9 n2;have i1:(0:Int)<=(i:Int):=(by omega);have i2:(i:Int)<x.list.length:=(by omega);clear hsr hY;cases h2:isV r (Y.ar,Y.an)
    ·cases h3:isV r (Y.br,Y.bn)
     ·have H2:=q8 h2;have H3:=q8 h3;have hca:=jD r Y.an Y.ar wq;have hcb:=fun W=>jD r Y.bn Y.br W;rw[h2]at hca;rw[h3]at hcb;have HCa:=q8 hca;have HCb:=q8 hcb;clear h2 h3 hca hcb
      go_wp2_with (first|(go_at_call 41;refine(HCb.out W3).mono ?_;rintro e W4 ⟨rfl,hb4⟩;have HB4:=q8 hb4;clear hb4)|(go_at_call 41;refine HCa.out.mono ?_;rintro e W3 ⟨rfl,hb3⟩;have HB3:=q8 hb3;have x3:W3.cell? (J wo.heap.size 1)=some (.slice (some (J bp op)) x.list.length c2):=(hb3.cell (p:=(J wo.heap.size 1)) zy).trans x1;have n23:W3.cell? (J bp (op+i*8+4))=some (.bool Y.br):=(hb3.cell (p:=(J bp (op+i*8+4))) zp).trans n4;have n33:W3.cell? (J bp (op+i*8+5))=some (Z Y.bn):=(hb3.cell (p:=(J bp (op+i*8+5))) zp).trans n5;clear hb3))
      have hgG:Hid (Below wq.heap.size wq W4):=q8 (HB3.out.trans (HB4.out.mono HB3.out.size));have hz4:=hgG.out.size;have hqu:Hid (Below w.heap.size w W4):=q8 (hdU.out.trans (hgG.out.mono hdU.out.size));have HX4:=q8 ((hgG.out.block _ zy).trans HXq.out);have n74:W4.cell? (J bp (op+i*8+7))=some (.slice qs Y.args.length cs):=(hgG.out.cell (p:=(J bp (op+i*8+7))) zp).trans n7;have x14:W4.cell? (J wo.heap.size 1)=some (.slice (some (J bp op)) x.list.length c2):=(blk HX4.out).1 1;have z74:=q9 n74;have z14:=q9 x14;clear n2 n3 n4 n5 n7 x1 x3 n23 n33
      go_loopg [10] Y.args.length (fun q s wr=>∃l:Nat,l<=Y.args.length/\q=Y.args.length - l/\s=Z l/\Below W4.heap.size W4 wr/\∀j (h:j<Y.args.length),j<l->isV r Y.args[j]=false)
      case atStart=>exact⟨0,by omega,rfl,rfl,zI _ _,fun _ _ h=>absurd h bO⟩
      case round=>
       obtain⟨wz,hwz⟩:=nZ wr;subst hwz;obtain⟨l,hl,rfl,rfl,hb,hV⟩:=hrel;have HV3:=q8 hV;have hzz:=hb.size;have HBz:=q8 hb;have hqw:Hid (Below wq.heap.size wq wz):=q8 (hgG.out.trans (hb.mono hgG.out.size));have hqx:Hid (Below w.heap.size w wz):=q8 (hqu.out.trans (hb.mono hqu.out.size));have y0:wz.cell? (J wo.heap.size 1)=some (.slice (some (J bp op)) x.list.length c2):=(hb.cell (p:=(J wo.heap.size 1)) z14).trans x14;have r1:wz.cell? (J bp (op+i*8+7))=some (.slice qs Y.args.length cs):=(hb.cell (p:=(J bp (op+i*8+7))) z74).trans n74;have zy0:=q9 y0;have zr:=q9 r1;clear hb hV
       by_cases hlt3:l<Y.args.length
       ·obtain⟨bs,os,hp,s0,s1,_⟩:=Z1 HSr.out hqw.out hlt3;subst hp;have zs:=q9 s0;have l1:(0:Int)<=(l:Int):=(by omega);have l2:(l:Int)<Y.args.length:=by omega
        go_wp2_with fail
        refine(jD r Y.args[l].2 Y.args[l].1 wz).mono ?_;rintro e W5 ⟨rfl,hb5⟩;have HB5:=q8 hb5;clear hb5 y0 r1 s0 s1 x14 n74;cases h2:isV r (Y.args[l].1,Y.args[l].2)
        rotate_left
        ·have hR:tkF r f=true:=HHi.out (by
          have h3:Y.args.any (isV r)=true:=vj (t:=isV r) hlt3 h2;unfold tkI
          rw[h3,Bool.or_true,Bool.or_true])
         have HR:=q8 hR;clear h2 hR
         go_wp2_with fail
         go_ret
         exact⟨by rw[HR.out];rfl,hqx.out.trans (HB5.out.mono hqx.out.size)⟩
        have H4:=q8 h2;clear h2
        go_wp2_with fail
        go_roundg (Y.args.length - (l+1))
        case measure=>omega
        case rel=>
         refine⟨l+1,by omega,rfl,by go_num,HBz.out.trans (HB5.out.mono HBz.out.size),fun j hj h=>?_⟩
         by_cases e:j=l
         ·subst e;exact H4.out
         exact HV3.out j hj bO
       obtain rfl:l=Y.args.length:=by omega
       have HIi:Hid (tkI r Y=false):=q8 (by
        have h4:Y.args.any (isV r)=false:=jw fun j hj=>HV3.out j hj hj;unfold tkI;rw[H2.out,H3.out,h4]
        rfl)
       clear x14 n74
       go_wp2_with fail
       go_roundg (x.list.length - (i+1))
       case measure=>omega
       case rel=>
        refine⟨i+1,by omega,rfl,by go_num,hqt.out.trans (hqw.out.mono hqt.out.size),fun j hj h=>?_⟩
        by_cases e:j=i
        ·subst e;rw[←HYe.out];exact HIi.out
        exact HV2.out j hj bO
     have hR:tkF r f=true:=HHi.out (by unfold tkI;rw[h3,Bool.true_or,Bool.or_true]);have HR:=q8 hR;have hca:=jD r Y.an Y.ar wq;have hcb:=fun W=>jD r Y.bn Y.br W;rw[h2]at hca;rw[h3]at hcb;have HCa:=q8 hca;have HCb:=q8 hcb;clear h2 h3 hca hcb hR
     go_wp2_with (first|(go_at_call 41;refine(HCb.out W3).mono ?_;rintro e W4 ⟨rfl,hb4⟩;have HB4:=q8 hb4;clear hb4)|(go_at_call 41;refine HCa.out.mono ?_;rintro e W3 ⟨rfl,hb3⟩;have HB3:=q8 hb3;have x3:W3.cell? (J wo.heap.size 1)=some (.slice (some (J bp op)) x.list.length c2):=(hb3.cell (p:=(J wo.heap.size 1)) zy).trans x1;have n23:W3.cell? (J bp (op+i*8+4))=some (.bool Y.br):=(hb3.cell (p:=(J bp (op+i*8+4))) zp).trans n4;have n33:W3.cell? (J bp (op+i*8+5))=some (Z Y.bn):=(hb3.cell (p:=(J bp (op+i*8+5))) zp).trans n5;clear hb3))
     go_ret
     have h34:=HB3.out.trans (HB4.out.mono HB3.out.size);exact⟨by rw[HR.out];rfl,hdU.out.trans (h34.mono hdU.out.size)⟩
    have hR:tkF r f=true:=HHi.out (by unfold tkI;rw[h2,Bool.true_or]);have HR:=q8 hR;have hca:=jD r Y.an Y.ar wq;rw[h2]at hca;have HCa:=q8 hca;clear h2 hca hR
    go_wp2_with (go_at_call 41;refine HCa.out.mono ?_;rintro e W3 ⟨rfl,hb3⟩;have HB3:=q8 hb3;clear hb3)
    go_ret
    exact⟨by rw[HR.out];rfl,hdU.out.trans (HB3.out.mono hdU.out.size)⟩

theorem jE {w w':World} {b:Nat} {t:TypeId} {n:Nat} {f:Nat->Value} (h:w.rowIs b t n f) (hb:Below w.heap.size w w'):w'.rowIs b t n f:=h.of_block (hb.block b h.lt)
theorem Xv:Tryz.prog.underlying 74=some (.slice 4):=by kernel_rfl
theorem Vb:(Tryz.prog.info? 4).map (fun i=>(i.zero,i.size,i.bytes))=some (some (.bool false),1,1):=by kernel_rfl
theorem stay_any (f:FunL) (n:Nat) (fp:Option Addr) (fc:Nat) (w:World) (hn:f.params=n) (h6:n<=6) (hl0:f.blocks.length*96<=140737488351232) (hF:SliceAt w 6 (BlkR w) fp f.blocks) :
  Calls Tryz.prog 34 #[.agg #[.string f.name,Z f.params,Z f.regs,.slice fp f.blocks.length fc]] w fun e w'=>(e = .returned (.slice (some (J (w.heap.size+1) 0)) n n)/\w'.rowIs (w.heap.size+1) 4 n (fun p=>.bool (tkF p f)))/\Below w.heap.size w w':=by
 obtain⟨i1,k1,k2,k3,k4⟩:=info_parts Vb;have hmk:=run_make_row 74 4 i1 (.bool false) Xv k1 k2 k3 rfl .i64 .i64 n (by rw[k4];omega) bO;have HF:=q8 hF
 have HTk:Hid (∀p fp fc (w:World),SliceAt w 6 (BlkR w) fp f.blocks->Calls Tryz.prog 16 #[.agg #[.string f.name,Z n,Z f.regs,.slice fp f.blocks.length fc],Z p] w fun e w'=>e = .returned (.bool (tkF p f))/\Below w.heap.size w w'):=q8 fun p fp fc w h=>by
  have:=YL f p fp fc w hl0 h
  rwa [hn]at this
 rw[hn];clear hF hn hl0
 go_enter Tryz.func34,Tryz.ntmps34
 go_wp2_with fail
 obtain⟨W0,hW0⟩:=nZ ((w.alloc (.cells #[.string f.name,Z n,Z f.regs,.slice fp f.blocks.length fc] 38)).alloc (.cells (madeCells #[.bool false] n) 4));have hz0:W0.heap.size=w.heap.size+1+1:=by rw[hW0];simp
 have hb0:Below w.heap.size w W0:=by rw[hW0];exact bZ
 have HB0:=q8 hb0;have HA:Hid (W0.heap[w.heap.size]?=some (.cells #[.string f.name,Z n,Z f.regs,.slice fp f.blocks.length fc] 38 (0,0))):=q8 (by rw[hW0];exact qh (qr rfl))
 have haZ:Hid (W0.rowIs (w.heap.size+1) 4 n (fun _=>.bool false)):=q8 (by
  have:=World.rowIs_made (w.alloc (.cells #[.string f.name,Z n,Z f.regs,.slice fp f.blocks.length fc] 38)) (.bool false) n 4;rw[hW0]
  simpa using this)
 rw[←hW0];clear hW0 hb0 hmk
 go_loopw [4] (fun i wr=>∃x:Nat,x<=n/\i=Z x/\wr.rowIs (w.heap.size+1) 4 n (fun y=>.bool (decide (y<x)&&tkF y f))/\Below (w.heap.size+1) W0 wr) (fun i _=>n - (intOf i).toNat)
 case atStart=>exact⟨0,by omega,rfl,by simpa using haZ.out,zI _ _⟩
 case round=>
  obtain⟨x,hx,rfl,hrow,hb⟩:=hrel;have HR:=q8 hrow;have HB:=q8 hb;have hzr:=hb.size;have hA:=(hb.block w.heap.size bO).trans HA.out;obtain⟨hcc,hcf⟩:=blk hA;have za:=qd hA;have HBw:Hid (Below w.heap.size w wr):=HB0.out.trans (hb.mono bO);clear hrow hb
  by_cases hlt:x<n
  ·have hc0:=HR.out.cell hlt;have hf0:=HR.out.frozen x;have hrz:=HR.out.lt;have x0:(0:Int)<=(x:Int):=(by omega);have x1:(x:Int)<n:=(by omega);have HC:=q8 (HTk.out x fp fc wr (HF.out.mono HBw.out bO fun _ _ h=>h.below HBw.out))
   go_wp2_with (go_at_call 16;refine HC.out.mono ?_;rintro e w2 ⟨rfl,hb2⟩;have hc2:=(hb2.cell (p:=(J (w.heap.size+1) x)) hrz).trans hc0;have hf2:=(hb2.frozen (p:=(J (w.heap.size+1) x)) hrz).trans hf0;have HB2:=q8 hb2;clear hb2)
   refine⟨⟨x+1,by omega,by go_num,((jE HR.out HB2.out).set x _).congr fun y _=>?_,(HB.out.trans (HB2.out.mono bO)).setCell (zK _) _⟩,by simp[intOf];omega⟩
   by_cases hy:y=x
   ·simp[hy]
   have h2:decide (y<x+1)=decide (y<x):=(by rw[decide_eq_decide];omega);simp[hy,h2]
  obtain rfl:x=n:=by omega
  go_wp2_with fail
  go_ret
  exact⟨⟨rfl,HR.out.congr fun y hy=>by simp[hy]⟩,HBw.out⟩

theorem FunC.less {nf:Nat} {P:Nat->Int} {f:FunL} (h:FunC nf P f):(doT f).blocks.length<=f.blocks.length/\(zM (Qy f)).blocks.length=(Qy f).blocks.length:=by
 have h1:=h.order.chains;have e:=Xu h.order;refine⟨?_,e⟩
 have n1:∀g:FunL,FunD g->(Qy g).blocks.length<=g.blocks.length:=fun g hg=>by
  unfold Qy;rw[xg];exact jl _ _ hg.toFunS.ordC.once hg.toFunS.ordC.inb
 have a:=n1 _ h1.funD;have b:=n1 _ h.funD;show(xO (Qy (zM (Qy f)))).blocks.length<=_;rw[x9];omega
/-! ## the blocks stay as they are -/
def ShB (x y:BlkL):Prop:=x.fin.to=y.fin.to/\x.fin.kind=y.fin.kind/\x.phis.length=y.phis.length
structure Shp (f g:FunL):Prop where
 len:f.blocks.length=g.blocks.length
 blk:∀b (h:b<f.blocks.length) (h2:b<g.blocks.length),ShB f.blocks[b] g.blocks[b]
theorem Shp.refl (f:FunL):Shp f f:=⟨rfl,fun _ _ _=>⟨rfl,rfl,rfl⟩⟩
theorem Shp.trans {f g h:FunL} (a:Shp f g) (b:Shp g h):Shp f h:=⟨a.len.trans b.len,fun k h1 h2=>by
 have h3:k<g.blocks.length:=by rw[←a.len];exact h1
 obtain⟨a1,a2,a3⟩:=a.blk k h1 h3;obtain⟨b1,b2,b3⟩:=b.blk k h3 h2
 exact⟨a1.trans b1,a2.trans b2,a3.trans b3⟩⟩
theorem Shp.map {f:FunL} (g:BlkL->BlkL) (hg:∀b,ShB (g b) b) {f':FunL} (e:f'.blocks=f.blocks.map g):Shp f' f:=by
 refine⟨by rw[e];simp,fun b h h2=>?_⟩;have e2:f'.blocks[b]=g f.blocks[b]:=by simp[e]
 rw[e2];exact hg _
theorem Shp.del (k:Int) (p:Nat) (f:FunL):Shp (kK k p f) f:=.map (fun b=>{ b with list:=b.list.map (kd k p) }) (fun _=>⟨rfl,rfl,rfl⟩) rfl
theorem Shp.drop (p:Nat) (f:FunL):Shp (vW p f) f:=.map (toB (qN p (f.params - 1))) (fun _=>⟨rfl,rfl,by simp[toB]⟩) rfl
theorem ZQ {hd:List InsL} {f:FunL} {i:Nat} (h:i<(zF hd f).blocks.length) (h2:i<f.blocks.length):(zF hd f).blocks[i]=if 0=i then { f.blocks[i]with list:=hd++f.blocks[i].list } else f.blocks[i]:=by
 simp[zF,List.getElem_modify]
theorem Shp.head (hd:List InsL) (f:FunL):Shp (zF hd f) f:=by
 refine⟨by simp[zF],fun b h h2=>?_⟩;rw[ZQ h h2]
 split<;>exact⟨rfl,rfl,rfl⟩
theorem Shp.tos {f g:FunL} (h:Shp f g):tosB f.blocks=tosB g.blocks:=by
 funext b;have hl:=h.len;unfold tosB
 by_cases hb:b<g.blocks.length
 ·have hb':b<f.blocks.length:=by omega
  rw[zj hb,zj hb'];exact(h.blk b hb' hb).1
 rw[yk bO,yk bO]
theorem Shp.order {f g:FunL} (h:Shp f g):jW f.blocks=jW g.blocks:=by
 unfold jW jR ko;rw[h.tos,h.len]
theorem Shp.ins {f g:FunL} (h:Shp f g) (c:Nat):insN f c=insN g c:=by
 have e:kE f=kE g:=by
  unfold kE;refine yV (by simp[h.len]) fun i h1 h2=>?_;simp only[xE];exact(h.blk i (by simpa using h1) (by simpa using h2)).1
 unfold insN xq;rw[e,h.len]
theorem Shp.may {f g:FunL} (h:Shp f g) (b:Nat):vt f b=none↔vt g b=none:=by
 have hl:=h.len
 have e:∀b,(atF f b).fin.to=(atF g b).fin.to/\(atF f b).fin.kind=(atF g b).fin.kind/\(atF f b).phis.length=(atF g b).phis.length:=fun b=>by
  by_cases hb:b<g.blocks.length
  ·have hb':b<f.blocks.length:=(by omega);rw[qW hb,qW hb'];exact h.blk b hb' hb
  unfold atF;rw[yO,yO,yk bO,yk bO];exact⟨rfl,rfl,rfl⟩
 unfold vt;dsimp only;rw[(e b).1,(e b).2.1,(e _).2.2,h.ins]
theorem FunC.calm {nf:Nat} {P:Nat->Int} {f:FunL} (h:FunC nf P f):jW (doT f).blocks=List.range (doT f).blocks.length/\∀b,b<(doT f).blocks.length->vt (doT f) b=none:=by
 have h1:=h.order.chains;obtain⟨g,hg⟩:=nZ (Qy (zM (Qy f)));have e0:doT f=xO g:=by rw[hg];rfl
 have ho:jW g.blocks=List.range g.blocks.length:=by
  rw[hg,h1.funD.order];unfold Qy;rw[xg]
 rw[e0];refine⟨by rw[YJ,ho,x9],fun b hb=>?_⟩;rw[name_may];rw[x9]at hb;rw[hg]at hb ⊢;refine h1.none_order (h.funD.live.chains h.order) (fun b hb=>?_) hb
 exact h.order.chained (by
  have hl:(zM (Qy f)).blocks.length=(Qy f).blocks.length:=Xu h.order
  rw[←hl];exact hb)
theorem FunC.still {nf nf':Nat} {P P':Nat->Int} {f g:FunL} (h:FunC nf P f) (hg:FunC nf' P' g) (hs:Shp g (doT f)):doT g=xO g:=by
 obtain⟨h1,h2⟩:=h.calm
 have e1:Qy g=g:=by
  unfold Qy;rw[hs.order,h1,←hs.len];exact hg.funD.keep_same fun b hb p hp=>(hg.phi b hb p hp).len
 have e2:zM g=g:=K0 fun b hb=>(hs.may b).2 (h2 b (by rw[←hs.len];exact hb));unfold doT jH;rw[e1,e2,e1]
/-! ## what a function takes -/
def RdF (f:FunL) (v:Bool×Int):Prop:=∃b∈f.blocks,v=(b.fin.onr,b.fin.onn)\/(∃p∈b.phis,v∈p.src)\/∃x∈b.list,v=(x.ar,x.an)\/v=(x.br,x.bn)\/v∈x.args
theorem isV_iff {r:Int} {v:Bool×Int}:isV r v=true↔(true,r)=v:=by
 unfold isV;rw[Bool.and_eq_true,beq_iff_eq];constructor
 ·rintro⟨a,b⟩;exact Prod.ext a.symm b.symm
 rintro rfl;exact⟨rfl,rfl⟩
theorem tkF_iff {r:Int} {f:FunL}:tkF r f=true↔RdF f (true,r):=by
 unfold tkF RdF tkB tkI tkP;simp only[Bool.or_eq_true,List.any_eq_true,isV_iff];constructor
 ·rintro(⟨b,hb,x,hx,h⟩|⟨b,hb,h|⟨p,hp,v,hv,rfl⟩⟩)
  ·refine⟨b,hb,.inr (.inr ⟨x,hx,?_⟩)⟩;rcases h with h|h|⟨v,hv,rfl⟩
   ·exact .inl h
   ·exact .inr (.inl h)
   exact .inr (.inr hv)
  ·exact⟨b,hb,.inl h⟩
  exact⟨b,hb,.inr (.inl ⟨p,hp,hv⟩)⟩
 rintro⟨b,hb,h|⟨p,hp,hv⟩|⟨x,hx,h⟩⟩
 ·exact .inr ⟨b,hb,.inl h⟩
 ·exact .inr ⟨b,hb,.inr ⟨p,hp,_,hv,rfl⟩⟩
 refine .inl ⟨b,hb,x,hx,?_⟩;rcases h with h|h|h
 ·exact .inl h
 ·exact .inr (.inl h)
 exact .inr (.inr ⟨_,h,rfl⟩)
theorem jv (g:Int->Int) (r:Bool) (n:Int):toW g (r,n)=(r,(toW g (r,n)).2):=by
 unfold toW;cases r<;>rfl
theorem RdF.to {f:FunL} {v:Bool×Int} (g:Int->Int) (h:RdF f v):RdF (toF g f) (toW g v):=by
 obtain⟨b,hb,h⟩:=h;refine⟨toB g b,yD.2 ⟨b,hb,rfl⟩,?_⟩;rcases h with rfl|⟨p,hp,hv⟩|⟨x,hx,h⟩
 ·exact .inl (jv _ _ _)
 ·exact .inr (.inl ⟨toP g p,yD.2 ⟨p,hp,rfl⟩,yD.2 ⟨v,hv,rfl⟩⟩)
 refine .inr (.inr ⟨toI g x,yD.2 ⟨x,hx,rfl⟩,?_⟩);rcases h with rfl|rfl|h
 ·exact .inl (jv _ _ _)
 ·exact .inr (.inl (jv _ _ _))
 exact .inr (.inr (yD.2 ⟨v,h,rfl⟩))
theorem RdF.name {f:FunL} {v:Bool×Int} (h:RdF f v):RdF (xO f) (xw (kO f).1 v):=by
 obtain⟨b,hb,h⟩:=h;refine⟨KH (kO f).1 b,yD.2 ⟨b,hb,rfl⟩,?_⟩;rcases h with rfl|⟨p,hp,hv⟩|⟨x,hx,h⟩
 ·exact .inl (Jb _ _ _).symm
 ·exact .inr (.inl ⟨_,yD.2 ⟨p,hp,rfl⟩,yD.2 ⟨v,hv,rfl⟩⟩)
 refine .inr (.inr ⟨vZ _ x,yD.2 ⟨x,hx,rfl⟩,?_⟩);rcases h with rfl|rfl|h
 ·exact .inl (Jb _ _ _).symm
 ·exact .inr (.inl (Jb _ _ _).symm)
 exact .inr (.inr (yD.2 ⟨v,h,rfl⟩))
theorem RdF.head {f:FunL} {v:Bool×Int} (hd:List InsL) (h:RdF f v):RdF (zF hd f) v:=by
 obtain⟨b,hb,h⟩:=h;obtain⟨i,hi,rfl⟩:=yp.1 hb;have hi2:i<(zF hd f).blocks.length:=by simpa[zF]using hi
 refine⟨_,zP hi2,?_⟩;rw[ZQ hi2 hi]
 split
 ·rcases h with h|h|⟨x,hx,h⟩
  ·exact .inl h
  ·exact .inr (.inl h)
  exact .inr (.inr ⟨x,yM _ hx,h⟩)
 exact h
theorem RdF.del {f:FunL} {r:Int} {k:Int} {p:Nat} (hc:∀b∈f.blocks,∀x∈b.list,x.op=20->x.fn=k->(x.args.getD p (false,0)).1=false) (h:RdF f (true,r)):RdF (kK k p f) (true,r):=by
 obtain⟨b,hb,h⟩:=h;refine⟨_,yD.2 ⟨b,hb,rfl⟩,?_⟩;rcases h with h|h|⟨x,hx,h⟩
 ·exact .inl h
 ·exact .inr (.inl h)
 refine .inr (.inr ⟨kd k p x,yD.2 ⟨x,hx,rfl⟩,?_⟩);unfold kd
 split
 ·next e=>
  rcases h with h|h|h
  ·exact .inl h
  ·exact .inr (.inl h)
  refine .inr (.inr ?_);obtain⟨i,hi,e2⟩:=yp.1 h;refine List.mem_eraseIdx_iff_getElem.2 ⟨i,hi,fun e3=>?_,e2⟩;subst e3;have:=hc b hb x hx e.1 e.2;rw[yO,zj hi,Option.getD_some,e2]at this;cases this
 exact h
/-! ## what calls pass -/
def yj (v:Bool×Int):Option Int:=if v.1=true then none else some v.2
def cvI (k:Int) (p:Nat) (x:InsL):List (Option Int):=if x.op=20/\x.fn=k then[yj (x.args.getD p (false,0))] else[]
def cvF (k:Int) (p:Nat) (f:FunL):List (Option Int):=f.blocks.flatMap fun b=>b.list.flatMap (cvI k p)
def cvX (k:Int) (p:Nat) (xs:List FunL):List (Option Int):=xs.flatMap (cvF k p)
def alwV (s:Option (Option Int)) (v:Option Int):Option (Option Int):=
 match s with
 | none=>none
 | some h=>if v=none\/(h.isSome=true/\h≠v)then none else some v
theorem alw_one (k:Int) (p:Nat) (s:Option (Option Int)) (x:InsL):JL k p s x=(cvI k p x).foldl alwV s:=by
 unfold cvI;cases s with
 | none=>
  split<;>rfl
 | some h=>
  unfold JL
  by_cases e:x.op=20/\x.fn=k
  ·simp only[zZ e,List.foldl_cons,List.foldl_nil];generalize x.args.getD p (false,0)=v;obtain⟨b,n⟩:=v;cases b<;>simp[alwV,yj]
  simp only[zQ e,List.foldl_nil]
theorem ym (k:Int) (p:Nat):∀(l:List InsL) (s:Option (Option Int)),l.foldl (JL k p) s=(l.flatMap (cvI k p)).foldl alwV s
 | [],_=>rfl
 | x::l,s=>by rw[List.foldl_cons,List.flatMap_cons,yh,ym k p l,alw_one]
theorem Vc {m:Int}:∀(vs:List (Option Int)) (s:Option (Option Int)),vs.foldl alwV s=some (some m)↔(s=some (some m)\/(s=some none/\vs≠[]))/\∀v∈vs,v=some m
 | [],s=>by simp
 | v::vs,s=>by
  rw[List.foldl_cons,Vc vs]
  have h1:alwV s v≠some none:=by
   unfold alwV;cases s with
   | none=>simp
   | some h=>
    by_cases e:v=none\/(h.isSome=true/\h≠v)
    ·simp only[zZ e];simp
    simp only[zQ e];intro g;exact e (.inl (by injection g))
  have h2:alwV s v=some (some m)↔(s=some none\/s=some (some m))/\v=some m:=by
   unfold alwV;rcases s with _|_|h
   ·simp
   ·rcases v with _|v<;>simp
   rcases v with _|v
   ·simp
   by_cases e:h=v
   ·subst e;simp
   simp only[e,Option.isSome_some,true_and,ne_eq,Option.some.injEq,not_false_eq_true,or_true,if_true,reduceCtorEq,false_iff,not_and,false_or];intro e2 e3;exact e (e2.trans e3.symm)
  rw[h2];constructor
  ·rintro⟨(⟨a,rfl⟩|⟨a,_⟩),h⟩
   ·refine⟨?_,fun x hx=>?_⟩
    ·rcases a with a|a
     ·exact .inr ⟨a,by simp⟩
     exact .inl a
    rcases yC.1 hx with rfl|hx
    ·rfl
    exact h x hx
   exact absurd a h1
  rintro⟨a,h⟩;refine⟨.inl ⟨?_,h _ (.head _)⟩,fun x hx=>h x (.tail _ hx)⟩;rcases a with a|a
  ·exact .inr a
  exact .inl a.1
theorem alwL_iff {k:Int} {p:Nat} {xs:List FunL} {m:Int}:jy k p xs=some m↔cvX k p xs≠[]/\∀v∈cvX k p xs,v=some m:=by
 have e:(xs.flatMap fun f=>f.blocks.flatMap fun b=>b.list).flatMap (cvI k p)=cvX k p xs:=by
  unfold cvX cvF;rw[List.flatMap_assoc];simp only[List.flatMap_assoc]
 unfold jy;rw[ym,e,Option.join_eq_some_iff,Vc];simp
theorem alwL_same {k:Int} {p q:Nat} {xs ys:List FunL} (e:cvX k p ys=cvX k q xs) (h:jy k q xs=none):jy k p ys=none:=by
 cases g:jy k p ys with
 | none=>rfl
 | some m=>
  have:=alwL_iff.1 g;rw[e]at this;rw[alwL_iff.2 this]at h;cases h
theorem alwL_all {k:Int} {p:Nat} {xs:List FunL} {m:Int} (h:jy k p xs=some m):∀f∈xs,∀b∈f.blocks,∀x∈b.list,x.op=20->x.fn=k->(x.args.getD p (false,0)).1=false:=fun f hf b hb x hx h1 h2=>by
 have:=(alwL_iff.1 h).2 (yj (x.args.getD p (false,0))) (yU.2 ⟨f,hf,yU.2 ⟨b,hb,yU.2 ⟨x,hx,by unfold cvI;rw[zZ ⟨h1,h2⟩];exact .head _⟩⟩⟩);unfold yj at this
 split at this
 ·cases this
 next e=>simpa using e
theorem cvF_map {k:Int} {p q:Nat} {f f':FunL} (g:BlkL->BlkL) (e:f'.blocks=f.blocks.map g) (h:∀b∈f.blocks,(g b).list.flatMap (cvI k p)=b.list.flatMap (cvI k q)):cvF k p f'=cvF k q f:=by
 unfold cvF;rw[e,List.flatMap_map];generalize f.blocks=bs at h
 induction bs with
 | nil=>rfl
 | cons b bs ih=>rw[List.flatMap_cons,List.flatMap_cons,h b (.head _),ih fun c hc=>h c (.tail _ hc)]
theorem K4 {k:Int} {p q:Nat} (g:InsL->InsL):∀(l:List InsL),(∀x∈l,cvI k p (g x)=cvI k q x)->(l.map g).flatMap (cvI k p)=l.flatMap (cvI k q)
 | [],_=>rfl
 | x::l,h=>by rw[yS,List.flatMap_cons,List.flatMap_cons,h x (.head _),K4 g l fun y hy=>h y (.tail _ hy)]
theorem Je {T:Bool×Int->Bool×Int} (h0:T (false,0)=(false,0)) (l:List (Bool×Int)) (p:Nat):(l.map T).getD p (false,0)=T (l.getD p (false,0)):=by
 rw[yO,yO,List.getElem?_map];cases l[p]? with
 | none=>exact h0.symm
 | some v=>rfl
theorem cvI_to (k:Int) (p:Nat) (g:Int->Int) (x:InsL):cvI k p (toI g x)=cvI k p x:=by
 have e:yj ((x.args.map (toW g)).getD p (false,0))=yj (x.args.getD p (false,0)):=by
  rw[Je rfl];unfold yj toW
  split<;>simp_all
 unfold cvI toI;simp only[e]
theorem cvX_at {k:Int} {p q:Nat} {xs ys:List FunL} (hl:ys.length=xs.length) (h:∀i (h1:i<xs.length) (h2:i<ys.length),cvF k p ys[i]=cvF k q xs[i]):cvX k p ys=cvX k q xs:=ZP hl h
def ShL (xs t:List FunL):Prop:=xs.length=t.length/\∀k (h:k<xs.length) (h2:k<t.length),Shp xs[k] t[k]/\xs[k].name=t[k].name/\xs[k].params<=t[k].params
theorem ShL.refl (t:List FunL):ShL t t:=⟨rfl,fun _ _ _=>⟨.refl _,rfl,Int.le_refl _⟩⟩
theorem ShL.trans {a b c:List FunL} (h:ShL a b) (g:ShL b c):ShL a c:=⟨h.1.trans g.1,fun k h1 h2=>by
 have h3:k<b.length:=by rw[←h.1];exact h1
 obtain⟨a1,a2,a3⟩:=h.2 k h1 h3;obtain⟨b1,b2,b3⟩:=g.2 k h3 h2
 exact⟨a1.trans b1,a2.trans b2,Int.le_trans a3 b3⟩⟩
theorem ShL.drop (k p:Nat) (xs:List FunL):ShL (zC k p xs) xs:=⟨qQ _ _ _,fun i h1 h2=>by
 rw[j5 h1];refine⟨(Shp.del _ _ _).trans ?_,?_,?_⟩
 ·split
  ·exact .drop _ _
  exact .refl _
 ·show(if k=i then vW p xs[i]else xs[i]).name=_
  split<;>rfl
 show(if k=i then vW p xs[i]else xs[i]).params<=_
 split
 ·show xs[i].params - 1<=_;omega
 exact Int.le_refl _⟩
theorem ShL.head (k:Nat) (hd:List InsL) (xs:List FunL):ShL (xs.modify k (zF hd)) xs:=⟨by simp,fun i h1 h2=>by
 rw[List.getElem_modify]
 split
 ·exact⟨.head _ _,rfl,Int.le_refl _⟩
 exact⟨.refl _,rfl,Int.le_refl _⟩⟩
theorem Dr.shl {t xs:List FunL} (h:Dr t xs):ShL xs t:=by
 induction h with
 | start=>exact .refl _
 | step _ _ _ _ _ ih=>exact(ShL.drop _ _ _).trans ih
theorem Al.shl {t xs:List FunL} {k p:Nat} {hd:List InsL} (h:Al t k p xs hd):ShL xs t:=by
 induction h with
 | start=>exact .refl _
 | skip _ _ _ _ ih=>exact ih
 | drop _ _ _ _ ih=>exact(ShL.drop _ _ _).trans ih
 | next _ _ _ ih=>exact(ShL.head _ _ _).trans ih
theorem lastG_on {p:Nat} {last:Int} {q:Nat} (_hp:(p:Int)<=last) (hq:(q:Int)<last):∃r:Nat,(r:Int)<=last/\qN p last r=q:=by
 by_cases h:q<p
 ·exact⟨q,by omega,by unfold qN;rw[zQ bO,zQ bO]⟩
 refine⟨q+1,by omega,?_⟩;unfold qN;rw[zQ bO,zZ bO];omega
theorem Taken.drop {xs:List FunL} {k p:Nat} {m:Int} (h:Taken xs) (hk:k<xs.length) (hp:(p:Int)<xs[k].params) (ha:jy k p xs=some m):Taken (zC k p xs):=fun i hi q hq _=>by
 have hi':i<xs.length:=by rw[←qQ k p xs];exact hi
 rw[jk hi]at hq;rw[j5 hi,tkF_iff];have hc:=alwL_all ha _ (zP hi')
 by_cases e:k=i
 ·subst e;rw[zZ rfl]at hq ⊢;obtain⟨r,hr,e2⟩:=lastG_on (p:=p) (last:=xs[k].params - 1) (q:=q) bO bO;have h1:=tkF_iff.1 (h k hk r bO (.inl hk));have h2:=h1.to (qN p (xs[k].params - 1));unfold toW at h2;rw[zZ rfl]at h2;simp only[e2]at h2;refine RdF.del (fun b hb x hx h3 h4=>?_) (show RdF (vW p xs[k]) _ from h2);obtain⟨b0,hb0,rfl⟩:=yD.1 hb;obtain⟨x0,hx0,rfl⟩:=yD.1 hx;have h5:=hc b0 hb0 x0 hx0 h3 h4;show((x0.args.map _).getD p (false,0)).1=false;rw[Je rfl];unfold toW;rw[zQ (by rw[h5];decide)];exact h5
 rw[zQ e]at hq ⊢;exact RdF.del (fun b hb x hx h3 h4=>hc b hb x hx h3 h4) (tkF_iff.1 (h i hi' q hq (.inl hi')))
theorem Taken.head {xs:List FunL} (k:Nat) (hd:List InsL) (h:Taken xs):Taken (xs.modify k (zF hd)):=fun i hi q hq _=>by
 have hi':i<xs.length:=by simpa using hi
 rw[tkF_iff];rw[List.getElem_modify]at hq ⊢
 split at hq
 ·next e=>
  rw[zZ e];exact(tkF_iff.1 (h i hi' q hq (.inl hi'))).head _
 next e=>
 rw[zQ e];exact tkF_iff.1 (h i hi' q hq (.inl hi'))
theorem Al.noCall {t xs:List FunL} {k p:Nat} {hd:List InsL} (h:Al t k p xs hd):∀x∈hd,x.op≠20:=by
 induction h with
 | start=>exact fun x h=>by cases h
 | skip _ _ _ _ ih=>exact ih
 | drop _ hk hp _ ih=>
  intro x hx;rcases yH.1 hx with hx|hx
  ·exact ih x hx
  obtain rfl:=yI.1 hx;show(1:Int)≠20;omega
 | next _ _ _ _=>exact fun x h=>by cases h
theorem ChkOk.zero {u:UniL} (h:ChkOk u):chk u=(0,0):=(h.same rfl rfl fun _ hk=>⟨rfl,rfl,h.funC hk⟩).1
end Go.Proofs.YtgjjhadbjmcnpaaGreatDoor
