/-
  The contracts of calls.Many and calls.Fits.
-/
import Derived.Test.YtgjjhadbjmcnpaaGreatDoorJArgR
set_option maxRecDepth 100000
set_option maxHeartbeats 16000000
namespace Go.Proofs.YtgjjhadbjmcnpaaGreatDoor
open Go.RowKit

structure OutAt (w:World) (O g c:Nat) (p1:Option Addr) (c1:Nat) (gl:List GloL) (xs:List FunL) (S1 S2:Blks) (W:World):Prop where
 b:Below w.heap.size w W
 hO:w.heap.size+1+1<O
 out:W.heap[O]?=some (.cells #[.slice p1 gl.length c1,.slice (some (J g 0)) xs.length c] 25 (0,0))
 r1:W.heap[w.heap.size+1]?=some (.cells #[.slice none 0 0,.slice none 0 0] 25 (0,0))
 r2:W.heap[w.heap.size+1+1]?=some (.cells #[Z 0,Z 0] 27 (0,0))
 glo:SlQ 61 3 48 GloO W (.slice p1 gl.length c1) gl S1
 fn:SlO 38 4 FunO W (.slice (some (J g 0)) xs.length c) xs S2
 ap:Apart S1 S2
 l1:∀k,S1 k->w.heap.size+1+1<k/\k≠O
 l2:∀k,S2 k->w.heap.size+1+1<k/\k≠O
section
variable {w W W' : World} {O g c c1 : Nat} {p1 : Option Addr} {gl : List GloL} {xs : List FunL} {S1 S2 : Blks}
theorem OutAt.to (h:OutAt w O g c p1 c1 gl xs S1 S2 W) {U S2':Blks} {xs':List FunL} (hl:xs'.length=xs.length) (hk:Kept U W W') (hU:∀b,U b->¬ S1 b/\b≠O/\w.heap.size+1+1<b) (hs:SlO 38 4 FunO W' (.slice (some (J g 0)) xs.length c) xs' S2') (hs2:∀b,S2' b->S2 b\/W.heap.size<=b) :
  OutAt w O g c p1 c1 gl xs' S1 S2' W':=by
 have zO:=qd h.out;have hO:=h.hO;have hb0:=h.b.size;refine⟨h.b.trans (hk.below h.b.size fun b hb=>by have:=(hU b hb).2.2;omega),h.hO,?_,?_,?_,⟨h.glo.sl.loc xl (fun b hb=>hk.block b (h.glo.sl.inb b hb) fun hu=>(hU b hu).1 hb) hk.size,h.glo.bd⟩,by rw[hl];exact hs,fun b x y=>?_,h.l1,fun b hb=>?_⟩
 ·rw[hl];exact(hk.block O zO fun hu=>(hU O hu).2.1 rfl).trans h.out
 ·exact(hk.block _ (qd h.r1) fun hu=>by have:=(hU _ hu).2.2;omega).trans h.r1
 ·exact(hk.block _ (qd h.r2) fun hu=>by have:=(hU _ hu).2.2;omega).trans h.r2
 ·rcases hs2 b y with z|z
  ·exact h.ap b x z
  have:=h.glo.sl.inb b x;omega
 rcases hs2 b hb with z|z
 ·exact h.l2 b z
 omega
theorem OutAt.kept (h:OutAt w O g c p1 c1 gl xs S1 S2 W) {U:Blks} (hk:Kept U W W') (hU:∀b,U b->(¬ S1 b/\b≠O/\w.heap.size+1+1<b)/\¬ S2 b):OutAt w O g c p1 c1 gl xs S1 S2 W':=
 h.to rfl hk (fun b hb=>(hU b hb).1) (h.fn.loc qK (fun b hb=>hk.block b (h.fn.inb b hb) fun hu=>(hU b hu).2 hb) hk.size) fun _ hb=>.inl hb
theorem OutAt.below (h:OutAt w O g c p1 c1 gl xs S1 S2 W) (hb:Below W.heap.size W W'):OutAt w O g c p1 c1 gl xs S1 S2 W':=
 h.kept (U:=fun _=>False) (Kept.of_below hb) fun _ h=>h.elim
theorem OutAt.put (h:OutAt w O g c p1 c1 gl xs S1 S2 W) {xs':List FunL} (hl:xs'.length=xs.length) (hk:Kept S2 W W') (hs:SlO 38 4 FunO W' (.slice (some (J g 0)) xs.length c) xs' S2):OutAt w O g c p1 c1 gl xs' S1 S2 W':=
 h.to hl hk (fun b hb=>⟨fun h1=>h.ap b h1 hb,(h.l2 b hb).2,(h.l2 b hb).1⟩) hs fun _ hb=>.inl hb
theorem OutAt.cO (h:OutAt w O g c p1 c1 gl xs S1 S2 W):W.cell? (J O 0)=some (.slice p1 gl.length c1)/\W.cell? (J O 1)=some (.slice (some (J g 0)) xs.length c):=⟨(blk h.out).1 0,(blk h.out).1 1⟩
theorem OutAt.par (h:OutAt w O g c p1 c1 gl xs S1 S2 W) {k:Nat} (hk:k<xs.length):W.cell? (J g (k*4+1))=some (Z xs[k].params)/\I64 xs[k].params:=by
 obtain⟨g',c',cs',T',hv',hhg,hdW,hcl',hF',hdB,ha9,hbZ,hje,_,_⟩:=h.fn.focus qK bO hk
 obtain rfl:g=g':=by
  injection hv' with a;injection a with a;injection a
 obtain⟨v,hcs,hnm,i1,i2,hB⟩:=hF';subst hcs;exact⟨hbZ 1 bO,i1⟩
theorem OutAt.notO (h:OutAt w O g c p1 c1 gl xs S1 S2 W):¬ S2 O:=fun h1=>(h.l2 O h1).2 rfl
end
theorem HeadR.kept {W W':World} {B:Nat} {hv:Value} {hd:List InsL} (h:HeadR W B hv hd) (hk:∀b,hv.ownBlock=some b->W'.heap[b]?=W.heap[b]?):HeadR W' B hv hd:=by
 refine⟨⟨h.own.1,?_⟩,h.ins⟩;rcases h.own.2 with h1|⟨g,cap,cur,hv,hb,hg,r⟩
 ·exact .inl h1
 exact .inr ⟨g,cap,cur,hv,hb,by rw[hk g (by rw[hv];rfl)];exact hg,r⟩
theorem alw_mem {k:Int} {p:Nat} {m:Int}:∀(l:List InsL) (s:Option (Option Int)),l.foldl (JL k p) s=some (some m)->s=some (some m)\/∃x∈l,x.op=20/\x.fn=k/\x.args.getD p (false,0)=(false,m)
 | [],s,h=>.inl h
 | x::l,s,h=>by
  rcases alw_mem l _ h with h1|⟨y,hy,r⟩
  ·unfold JL at h1;cases s with
   | none=>cases h1
   | some h0=>
    dsimp only at h1
    split at h1
    ·next hc=>
     split at h1
     ·cases h1
     next hn=>
     have e:(x.args.getD p (false,0)).2=m:=by injection h1 with h1;injection h1
     have e2:(x.args.getD p (false,0)).1=false:=by
      cases hb:(x.args.getD p (false,0)).1
      ·rfl
      exact absurd (.inl hb) hn
     exact .inr ⟨x,yg,hc.1,hc.2,Prod.ext e2 e⟩
    exact .inl h1
  exact .inr ⟨y,yc _ hy,r⟩
theorem alwL_mem {k:Int} {p:Nat} {m:Int} {xs:List FunL} (h:jy k p xs=some m):∃f∈xs,∃b∈f.blocks,∃x∈b.list,x.op=20/\x.fn=k/\x.args.getD p (false,0)=(false,m):=by
 unfold jy at h;rw[Option.join_eq_some_iff]at h;rcases alw_mem _ _ h with h1|⟨x,hx,r⟩
 ·cases h1
 obtain⟨f,hf,hx⟩:=yU.1 hx;obtain⟨b,hb,hx⟩:=yU.1 hx;exact⟨f,hf,b,hb,x,hx,r⟩
theorem SlO.args64 {w:World} {v:Value} {xs:List FunL} {S:Blks} (h:SlO 38 4 FunO w v xs S):∀f∈xs,∀b∈f.blocks,∀x∈b.list,∀a∈x.args,I64 a.2:=fun f hf b hb x hx a ha=>by
 obtain⟨_,_,h⟩:=h;obtain⟨i,hi,rfl⟩:=yp.1 hf;obtain⟨_,_,_,_,_,h⟩:=h.el i hi;obtain⟨_,_,h⟩:=h.sl;obtain⟨i,hi,rfl⟩:=yp.1 hb;obtain⟨_,_,_,_,_,_,_,_,_,_,h,_⟩:=h.el i hi;obtain⟨_,_,h⟩:=h.sl;obtain⟨i,hi,rfl⟩:=yp.1 hx;obtain⟨_,_,_,_,_,_,_,h⟩:=h.el i hi;obtain⟨_,_,h⟩:=h.sl;obtain⟨i,hi,rfl⟩:=yp.1 ha;exact(h.el i hi).2
theorem alw64 {w:World} {v:Value} {k p:Nat} {m:Int} {xs:List FunL} {S:Blks} (h:SlO 38 4 FunO w v xs S) (hc:∀f∈xs,∀b∈f.blocks,∀x∈b.list,x.op=20->x.fn=(k:Int)->p<x.args.length) (ha:jy k p xs=some m):I64 m:=by
 obtain⟨f,hf,b,hb,x,hx,ho,hk,hg⟩:=alwL_mem ha;have hp:=hc f hf b hb x hx ho hk;have e:x.args.getD p (false,0)=x.args[p]:=by simp[List.getD,hp]
 have:=h.args64 f hf b hb x hx _ (zP hp);rw[←e,hg]at this;exact this
theorem head_app (W:World) (B:Nat) (hv:Value) (hd:List InsL) (d m:Int) (hB:B<=W.heap.size) (h:HeadR W B hv hd) (hbK:I64 d) (hm:I64 m) (hl:hd.length<=6) (ty:TypeId) :
  ∃v' w',(Builtin.append_ #[42,42] ty #[hv,.slice (some (J W.heap.size 0)) 1 1]).run Tryz.prog (W.alloc (.cells #[Z 1,Z d,.bool false,Z m,.bool false,Z 0,Z 0,.slice none 0 0] 51)) = .ok v' w'/\
   HeadR w' B v' (hd++[j8 d m])/\Kept (fun b=>hv.ownBlock=some b) W w'/\∀b,v'.ownBlock=some b->hv.ownBlock=some b\/W.heap.size<=b:=by
 obtain⟨iI,l1,l2,l3,l4⟩:=info_parts v6;obtain⟨W1,hW1⟩:=nZ (W.alloc (.cells #[Z 1,Z d,.bool false,Z m,.bool false,Z 0,Z 0,.slice none 0 0] 51));have hc:=zW W [Z 1,Z d,.bool false,Z m,.bool false,Z 0,Z 0,.slice none 0 0] 51 rfl;have hb:Below W.heap.size W W1:=by rw[hW1];exact bZ
 have hz:W1.heap.size=W.heap.size+1:=by rw[hW1];simp
 have hc':∀j u,[Z 1,Z d,.bool false,Z m,.bool false,Z 0,Z 0,.slice none 0 0][j]?=some u->W1.cell? ((⟨W.heap.size,0,none⟩:Addr).add j)=some u:=by rw[hW1];exact hc
 rw[←hW1];clear hW1 hc;have h1:=h.kept (W':=W1) fun b hb2=>hb.block b (h.slW.inb b hb2)
 obtain⟨v',w',hr,ho,hg,_,hob⟩:=run_append_own_at (P:=Tryz.prog) W1 B 42 ty 51 iI _ 8 80 Tryz.underlying42 l1 l2 l3 l4 rfl bO hv _ _ h1.own ⟨W.heap.size,0,none⟩ 1 1 _ rfl hc' (fun u hu=>by
  simp only[yC,yG,yl]at hu
  rcases hu with rfl|rfl|rfl|rfl|rfl|rfl|rfl|rfl<;>rfl) (by unfold maxLen;omega) bO bO
 refine⟨v',w',hr,⟨?_,fun x hx=>?_⟩,?_,fun b hb2=>?_⟩
 ·rw[yn,yN];exact ho
 ·rcases yH.1 hx with hx|hx
  ·exact h.ins x hx
  obtain rfl:=yI.1 hx;exact⟨⟨⟨by show _<=(1:Int);omega,by show(1:Int)<=_;omega⟩,hbK,hm,⟨by show _<=(0:Int);omega,by show(0:Int)<=_;omega⟩,⟨by show _<=(0:Int);omega,by show(0:Int)<=_;omega⟩⟩,rfl⟩
 ·exact(Kept.of_below hb).trans (Kept.of_grown hg fun g hg=>hg) fun _ _ h=>h
 rcases hob with e|e
 ·exact .inl (by rw[←e];exact hb2)
 rw[hb2]at e;injection e with e;exact .inr bO
theorem blk_lt {w:World} {p:Addr} {v:Value} (h:w.cell? p=some v):p.block<w.heap.size:=Nat.lt_of_not_le fun hl=>by
 have e:w.cell? p=none:=by simp[World.cell?,Array.getElem?_eq_none hl]
 rw[e]at h;cases h
theorem CallN.at_call {xs:List FunL} (h:CallN xs) {k p:Nat} (hk:k<xs.length) (hp:(p:Int)<xs[k].params):∀f∈xs,∀b∈f.blocks,∀x∈b.list,x.op=20->x.fn=(k:Int)->p<x.args.length:=fun f hf b hb x hx ho hf2=>by
 obtain⟨h1,h2⟩:=h.call f hf b hb x hx ho k hf2;omega
end Go.Proofs.YtgjjhadbjmcnpaaGreatDoor
namespace Go.Proofs.YtgjjhadbjmcnpaaGreatDoor
/-! the fold over all instructions -/
theorem KT (k:Int) (p:Nat):∀l:List InsL,l.foldl (JL k p) none=none
 | []=>rfl
 | _::l=>KT k p l
theorem VV (f:FunL):∀m,m<=f.blocks.length->((f.blocks.take m).flatMap fun b:BlkL=>b.list).length=(xx (qq f) m).length
 | 0,_=>by simp[xx]
 | m+1,h=>by
  rw[kj,←VV f m bO,yA bO,yn,yN];simp[xn (show m<f.blocks.length by omega)]
theorem all_at {f:FunL} {m j:Nat} (hm:m<f.blocks.length) (hj:j<f.blocks[m].list.length):(f.blocks.flatMap fun b:BlkL=>b.list)[(xx (qq f) m).length+j]?=some f.blocks[m].list[j]:=by
 have e:f.blocks=f.blocks.take m++(f.blocks[m]::f.blocks.drop (m+1)):=by rw[List.getElem_cons_drop,List.take_append_drop]
 have e2:(f.blocks.flatMap fun b:BlkL=>b.list)=((f.blocks.take m).flatMap fun b:BlkL=>b.list)++(f.blocks[m].list++(f.blocks.drop (m+1)).flatMap fun b:BlkL=>b.list):=by
  conv=>lhs;rw[e]
  rw[yn,List.flatMap_cons]
 rw[e2,←VV f m bO,List.getElem?_append_right bO,Nat.add_sub_cancel_left,List.getElem?_append_left hj];simp[hj]
def jS (k:Int) (p:Nat) (xs:List FunL) (cc i:Nat):Option (Option Int):=(((xs.take cc).flatMap fun f:FunL=>f.blocks.flatMap fun b:BlkL=>b.list)++((xs[cc]?.map fun f:FunL=>f.blocks.flatMap fun b:BlkL=>b.list).getD []).take i).foldl (JL k p) (some none)
theorem YA (k:Int) (p:Nat) (xs:List FunL):jS k p xs 0 0=some none:=by simp[jS]
theorem YB {k:Int} {p:Nat} {xs:List FunL} {cc m j:Nat} (hc:cc<xs.length) (hm:m<xs[cc].blocks.length) (hj:j<xs[cc].blocks[m].list.length):jS k p xs cc ((xx (qq xs[cc]) m).length+j+1)=JL k p (jS k p xs cc ((xx (qq xs[cc]) m).length+j)) xs[cc].blocks[m].list[j]:=by
 have ha:=all_at hm hj;obtain⟨hl,hg⟩:=List.getElem?_eq_some_iff.1 ha;unfold jS;rw[zj hc];simp only[Option.map_some,Option.getD_some];rw[yA hl,←yF,yh,hg];rfl
theorem alwTo_fn {k:Int} {p:Nat} {xs:List FunL} {cc i:Nat} (hc:cc<xs.length) (hi:(xs[cc].blocks.flatMap fun b:BlkL=>b.list).length<=i):jS k p xs (cc+1) 0=jS k p xs cc i:=by
 unfold jS;rw[zj hc,yA hc,yn];simp only[Option.map_some,Option.getD_some,List.take_zero,List.append_nil,List.flatMap_cons,List.flatMap_nil];rw[List.take_of_length_le hi]
theorem alwTo_all {k:Int} {p:Nat} {xs:List FunL}:jS k p xs xs.length 0=(xs.flatMap fun f:FunL=>f.blocks.flatMap fun b:BlkL=>b.list).foldl (JL k p) (some none):=by
 unfold jS;rw[yP];simp
theorem YC {k:Int} {p:Nat} {xs:List FunL} {cc i:Nat} (hc:cc<xs.length) (h:jS k p xs cc i=none):jy k p xs=none:=by
 have e:xs=xs.take cc++(xs[cc]::xs.drop (cc+1)):=by rw[List.getElem_cons_drop,List.take_append_drop]
 have e2:(xs.flatMap fun f:FunL=>f.blocks.flatMap fun b:BlkL=>b.list)=(((xs.take cc).flatMap fun f:FunL=>f.blocks.flatMap fun b:BlkL=>b.list)++(xs[cc].blocks.flatMap fun b:BlkL=>b.list).take i)++((xs[cc].blocks.flatMap fun b:BlkL=>b.list).drop i++(xs.drop (cc+1)).flatMap fun f:FunL=>f.blocks.flatMap fun b:BlkL=>b.list):=by
  conv=>lhs;rw[e]
  rw[yn,List.flatMap_cons,yF,←yF (List.take _ _),List.take_append_drop]
 unfold jS at h;rw[zj hc]at h;simp only[Option.map_some,Option.getD_some]at h;unfold jy;rw[e2,yh,h,KT];rfl
end Go.Proofs.YtgjjhadbjmcnpaaGreatDoor
namespace Go.Proofs.YtgjjhadbjmcnpaaGreatDoor
open Go.RowKit

structure IsR (C:Nat) (r:Int) (w:World):Prop where
 at_:w.cell? (J C 0)=some (Z r)
structure IsAt (I C:Nat) (r:Int) (w:World):Prop where
 at_:w.cell? (J C 0)=some (Z r)
 fn:w.cell? (J I 0)=some (.func (.func 44) #[] #[.pointer (some (J C 0))])
theorem IsR.below {C:Nat} {r:Int} {w w':World} (h:IsR C r w) (hb:Below w.heap.size w w'):IsR C r w':=⟨(hb.cell (p:=(J C 0)) (q9 h.at_)).trans h.at_⟩
theorem IsAt.below {I C:Nat} {r:Int} {w w':World} (h:IsAt I C r w) (hb:Below w.heap.size w w'):IsAt I C r w':=⟨(hb.cell (p:=(J C 0)) (q9 h.at_)).trans h.at_,(hb.cell (p:=(J I 0)) (q9 h.fn)).trans h.fn⟩
theorem IsAt.r {I C:Nat} {r:Int} {w:World} (h:IsAt I C r w):IsR C r w:=⟨h.at_⟩

theorem KV (C:Nat) (r n:Int) (b:Bool) (w:World) (hC:IsR C r w) :
  Calls Tryz.prog 44 #[.agg #[.bool b,Z n],.pointer (some (J C 0))] w fun e w'=>e = .returned (.bool (isV r (b,n)))/\Below w.heap.size w w':=by
 have c0:=hC.at_;have cz:=q9 c0;clear hC;cases b
 ·go_enter Tryz.func44,Tryz.ntmps44
  go_wp2
  go_ret
  exact⟨rfl,by exact bZ⟩
 go_enter Tryz.func44,Tryz.ntmps44
 go_wp2
 go_ret
 exact⟨rfl,by exact bZ⟩
theorem vj {α:Type} {xs:List α} {t:α->Bool} {k:Nat} (hk:k<xs.length) (h:t xs[k]=true):xs.any t=true:=List.any_eq_true.2 ⟨_,zP hk,h⟩
theorem jw {α:Type} {xs:List α} {t:α->Bool} (h:∀j (h:j<xs.length),t xs[j]=false):xs.any t=false:=by
 rw[List.any_eq_false];intro x hx;obtain⟨j,hj,rfl⟩:=yX hx;simp[h j hj]

theorem YD (C:Nat) (r:Int) (xs:List (Bool×Int)) (p:Option Addr) (c:Nat) (w:World) (hl:xs.length<=9223372036854775807) (hF:SliceAt w 2 kc p xs) (hC:IsR C r w) :
  Calls Tryz.prog 75 #[.slice p xs.length c,.func (.func 44) #[] #[.pointer (some (J C 0))]] w fun e w'=>(∃m:Int,e = .returned (Z m)/\Hid (decide (0<=m)=xs.any (isV r)))/\Below w.heap.size w w':=by
 have HF:=q8 hF;have HC:=q8 hC;clear hF hC
 go_enter Tryz.func75,Tryz.ntmps75
 go_wp2
 go_loopw [8] (fun i wr=>∃k:Nat,k<=xs.length/\i=Z k/\(∀j (h:j<xs.length),j<k->isV r xs[j]=false)/\Below w.heap.size w wr) (fun i _=>xs.length - (intOf i).toNat)
 case atStart=>exact⟨0,by omega,rfl,fun j _ h=>by omega,zI _ _⟩
 case round=>
  obtain⟨k,hk,rfl,hV,hb⟩:=hrel;have HV:=q8 hV;have HBw:=q8 hb;clear hV hb
  by_cases hlt:k<xs.length
  rotate_left
  ·go_wp2_with fail
   go_ret
   exact⟨⟨_,rfl,by rw[jw fun j hj=>HV.out j hj bO];rfl⟩,HBw.out⟩
  obtain⟨b,o,hp,e0,e1,_⟩:=Z1 HF.out HBw.out hlt;subst hp;have bz:=q9 e0
  go_wp2_with fail
  refine(KV C r _ _ _ (HC.out.below HBw.out)).mono ?_;rintro e w3 ⟨rfl,hb3⟩;have HB3:=q8 hb3;have HE:Hid (∃q,q=isV r xs[k]):=⟨_,rfl⟩;clear hb3;cases hm:isV r xs[k]
  ·have HM:=q8 hm;clear hm HE
   go_wp2_with fail
   refine⟨⟨k+1,by omega,by go_num,fun j hj hjk=>?_,HBw.out.trans (HB3.out.mono HBw.out.size)⟩,by simp[intOf];omega⟩
   by_cases hj2:j<k
   ·exact HV.out j hj hj2
   obtain rfl:j=k:=(by omega);exact HM.out
  have HM:=q8 hm;clear hm HE
  go_wp2_with fail
  go_ret
  exact⟨⟨_,rfl,by rw[vj hlt HM.out];exact decide_eq_true bO⟩,HBw.out.trans (HB3.out.mono HBw.out.size)⟩
theorem KW (C:Nat) (r:Int) (xs:List (Bool×Int)) (p:Option Addr) (c:Nat) (w:World) (hl:xs.length<=9223372036854775807) (hF:SliceAt w 2 kc p xs) (hC:IsR C r w) :
  Calls Tryz.prog 46 #[.slice p xs.length c,.func (.func 44) #[] #[.pointer (some (J C 0))]] w fun e w'=>e = .returned (.bool (xs.any (isV r)))/\Below w.heap.size w w':=by
 have HI:=q8 (YD C r xs p c w hl hF hC);clear hF hC
 go_enter Tryz.func46,Tryz.ntmps46
 go_wp2_with fail
 refine HI.out.mono ?_;rintro e w1 ⟨⟨m,rfl,hm⟩,hb1⟩;have hm2:=hm.out;clear hm
 go_wp2_with fail
 go_ret
 refine⟨?_,hb1⟩;rw[←hm2];rfl

theorem isPhi_any (I C:Nat) (r:Int) (x:PhiL) (q:Option Addr) (c:Nat) (w:World) (hl:x.src.length<=9223372036854775807) (hF:SliceAt w 2 kc q x.src) (hC:IsAt I C r w) :
  Calls Tryz.prog 50 #[.agg #[Z x.dst,.slice q x.src.length c],.pointer (some (J I 0))] w fun e w'=>e = .returned (.bool (tkP r x))/\Below w.heap.size w w':=by
 have c0:=hC.fn;have cz:=q9 c0;have HF:=q8 hF;have HC:=q8 hC;clear hF hC
 go_enter Tryz.func50,Tryz.ntmps50
 go_wp2_with fail
 refine(KW C r x.src q c _ hl (HF.out.mono bZ bO fun _ _ h=>h) (HC.out.r.below bZ)).mono ?_;rintro e w1 ⟨rfl,hb1⟩
 go_wp2_with fail
 go_ret
 exact⟨rfl,yo bZ (hb1.mono bV)⟩

theorem YE (I C:Nat) (r:Int) (xs:List PhiL) (p:Option Addr) (c:Nat) (w:World) (hl:xs.length<=9223372036854775807) (hF:SliceAt w 2 (PhiR w) p xs) (hC:IsAt I C r w) :
  Calls Tryz.prog 77 #[.slice p xs.length c,.func (.func 50) #[] #[.pointer (some (J I 0))]] w fun e w'=>(∃m:Int,e = .returned (Z m)/\Hid (decide (0<=m)=xs.any (tkP r)))/\Below w.heap.size w w':=by
 have HF:=q8 hF;have HC:=q8 hC;clear hF hC
 go_enter Tryz.func77,Tryz.ntmps77
 go_wp2
 go_loopw [8] (fun i wr=>∃k:Nat,k<=xs.length/\i=Z k/\(∀j (h:j<xs.length),j<k->tkP r xs[j]=false)/\Below w.heap.size w wr) (fun i _=>xs.length - (intOf i).toNat)
 case atStart=>exact⟨0,by omega,rfl,fun j _ h=>by omega,zI _ _⟩
 case round=>
  obtain⟨k,hk,rfl,hV,hb⟩:=hrel;have HV:=q8 hV;have HBw:=q8 hb;clear hV hb
  by_cases hlt:k<xs.length
  rotate_left
  ·go_wp2_with fail
   go_ret
   exact⟨⟨_,rfl,by rw[jw fun j hj=>HV.out j hj bO];rfl⟩,HBw.out⟩
  obtain⟨b,o,q,qc,hp,e0,e1,_,hql,hqs⟩:=Jz HF.out HBw.out hlt;subst hp;have bz:=q9 e0
  go_wp2_with fail
  refine(isPhi_any I C r xs[k] q qc _ bO hqs (HC.out.below HBw.out)).mono ?_;rintro e w3 ⟨rfl,hb3⟩;have HB3:=q8 hb3;have HE:Hid (∃q,q=tkP r xs[k]):=⟨_,rfl⟩;clear hb3;cases hm:tkP r xs[k]
  ·have HM:=q8 hm;clear hm HE
   go_wp2_with fail
   refine⟨⟨k+1,by omega,by go_num,fun j hj hjk=>?_,HBw.out.trans (HB3.out.mono HBw.out.size)⟩,by simp[intOf];omega⟩
   by_cases hj2:j<k
   ·exact HV.out j hj hj2
   obtain rfl:j=k:=(by omega);exact HM.out
  have HM:=q8 hm;clear hm HE
  go_wp2_with fail
  go_ret
  exact⟨⟨_,rfl,by rw[vj hlt HM.out];exact decide_eq_true bO⟩,HBw.out.trans (HB3.out.mono HBw.out.size)⟩
theorem hasP_any (I C:Nat) (r:Int) (xs:List PhiL) (p:Option Addr) (c:Nat) (w:World) (hl:xs.length<=9223372036854775807) (hF:SliceAt w 2 (PhiR w) p xs) (hC:IsAt I C r w) :
  Calls Tryz.prog 49 #[.slice p xs.length c,.func (.func 50) #[] #[.pointer (some (J I 0))]] w fun e w'=>e = .returned (.bool (xs.any (tkP r)))/\Below w.heap.size w w':=by
 have HI:=q8 (YE I C r xs p c w hl hF hC);clear hF hC
 go_enter Tryz.func49,Tryz.ntmps49
 go_wp2_with fail
 refine HI.out.mono ?_;rintro e w1 ⟨⟨m,rfl,hm⟩,hb1⟩;have hm2:=hm.out;clear hm
 go_wp2_with fail
 go_ret
 refine⟨?_,hb1⟩;rw[←hm2];rfl

theorem isBlk_any (I C:Nat) (r:Int) (x:BlkL) (q1 q2 q3:Option Addr) (n2 c1 c2 n3 c3:Nat) (w:World) (hl:x.phis.length<=9223372036854775807) (hF:SliceAt w 2 (PhiR w) q1 x.phis) (hC:IsAt I C r w) :
  Calls Tryz.prog 48 #[.agg #[.slice q1 x.phis.length c1,.slice q2 n2 c2,Z x.fin.kind,.bool x.fin.onr,Z x.fin.onn,.slice q3 n3 c3],.pointer (some (J I 0))] w fun e w'=>e = .returned (.bool (tkB r x))/\Below w.heap.size w w':=by
 have c0:=hC.fn;have cz:=q9 c0;have HF:=q8 hF;have HC:=q8 hC;clear hF hC
 go_enter Tryz.func48,Tryz.ntmps48
 go_wp2_with fail
 refine(KV C r x.fin.onn x.fin.onr _ (HC.out.r.below bZ)).mono ?_;rintro e w1 ⟨rfl,hb1⟩;have HB1:Hid (Below w.heap.size w w1):=yo bZ (hb1.mono bV);have HT:Hid (tkB r x=(isV r (x.fin.onr,x.fin.onn) || x.phis.any (tkP r))):=rfl;have cu:=qg hb1 (k:=w.heap.size) bV (qr (w:=w) rfl);obtain⟨hcu,hfu⟩:=blk cu;have zu:=qd cu;cases hm:isV r (x.fin.onr,x.fin.onn)
 ·rw[hm]at HT;clear hb1 hm;have hc1:w1.cell? (J I 0)=some (.func (.func 44) #[] #[.pointer (some (J C 0))]):=(HB1.out.cell (p:=(J I 0)) cz).trans c0
  go_wp2_with fail
  refine(hasP_any I C r x.phis q1 c1 w1 hl (HF.out.mono HB1.out bO fun _ _ h=>h.below HB1.out) (HC.out.below HB1.out)).mono ?_;rintro e w2 ⟨rfl,hb2⟩
  go_wp2_with fail
  go_ret
  exact⟨by rw[HT.out];rfl,HB1.out.trans (hb2.mono HB1.out.size)⟩
 rw[hm]at HT;clear hb1 hm
 go_wp2_with fail
 go_ret
 exact⟨by rw[HT.out];rfl,HB1.out⟩

theorem YF (I C:Nat) (r:Int) (xs:List BlkL) (p:Option Addr) (c:Nat) (w:World) (hl:xs.length<=9223372036854775807) (hF:SliceAt w 6 (BlkR w) p xs) (hC:IsAt I C r w) :
  Calls Tryz.prog 76 #[.slice p xs.length c,.func (.func 48) #[] #[.pointer (some (J I 0))]] w fun e w'=>(∃m:Int,e = .returned (Z m)/\Hid (decide (0<=m)=xs.any (tkB r)))/\Below w.heap.size w w':=by
 have HF:=q8 hF;have HC:=q8 hC;clear hF hC
 go_enter Tryz.func76,Tryz.ntmps76
 go_wp2
 go_loopw [8] (fun i wr=>∃k:Nat,k<=xs.length/\i=Z k/\(∀j (h:j<xs.length),j<k->tkB r xs[j]=false)/\Below w.heap.size w wr) (fun i _=>xs.length - (intOf i).toNat)
 case atStart=>exact⟨0,by omega,rfl,fun j _ h=>by omega,zI _ _⟩
 case round=>
  obtain⟨k,hk,rfl,hV,hb⟩:=hrel;have HV:=q8 hV;have HBw:=q8 hb;clear hV hb
  by_cases hlt:k<xs.length
  rotate_left
  ·go_wp2_with fail
   go_ret
   exact⟨⟨_,rfl,by rw[jw fun j hj=>HV.out j hj bO];rfl⟩,HBw.out⟩
  obtain⟨b,o,q1,c1,q2,c2,q3,c3,hp,e0,e1,e2,e3,e4,e5,_,_,hl1,_,_,hs1,_,_⟩:=vw HF.out HBw.out hlt;subst hp;have bz:=q9 e0
  go_wp2_with fail
  refine(isBlk_any I C r xs[k] q1 q2 q3 _ c1 c2 _ c3 _ bO hs1 (HC.out.below HBw.out)).mono ?_;rintro e w3 ⟨rfl,hb3⟩;have HB3:=q8 hb3;have HE:Hid (∃q,q=tkB r xs[k]):=⟨_,rfl⟩;clear hb3;cases hm:tkB r xs[k]
  ·have HM:=q8 hm;clear hm HE
   go_wp2_with fail
   refine⟨⟨k+1,by omega,by go_num,fun j hj hjk=>?_,HBw.out.trans (HB3.out.mono HBw.out.size)⟩,by simp[intOf];omega⟩
   by_cases hj2:j<k
   ·exact HV.out j hj hj2
   obtain rfl:j=k:=(by omega);exact HM.out
  have HM:=q8 hm;clear hm HE
  go_wp2_with fail
  go_ret
  exact⟨⟨_,rfl,by rw[vj hlt HM.out];exact decide_eq_true bO⟩,HBw.out.trans (HB3.out.mono HBw.out.size)⟩
theorem hasB_any (I C:Nat) (r:Int) (xs:List BlkL) (p:Option Addr) (c:Nat) (w:World) (hl:xs.length<=9223372036854775807) (hF:SliceAt w 6 (BlkR w) p xs) (hC:IsAt I C r w) :
  Calls Tryz.prog 47 #[.slice p xs.length c,.func (.func 48) #[] #[.pointer (some (J I 0))]] w fun e w'=>e = .returned (.bool (xs.any (tkB r)))/\Below w.heap.size w w':=by
 have HI:=q8 (YF I C r xs p c w hl hF hC);clear hF hC
 go_enter Tryz.func47,Tryz.ntmps47
 go_wp2_with fail
 refine HI.out.mono ?_;rintro e w1 ⟨⟨m,rfl,hm⟩,hb1⟩;have hm2:=hm.out;clear hm
 go_wp2_with fail
 go_ret
 refine⟨?_,hb1⟩;rw[←hm2];rfl
end Go.Proofs.YtgjjhadbjmcnpaaGreatDoor
namespace Go.Proofs.YtgjjhadbjmcnpaaGreatDoor
open Go.RowKit Go.Shelf Go.Sort
attribute [local go_sem] Oper.semAt_some

theorem own_const {B:Nat} {P:Nat->Prop}:OwnFrom B (fun i (_:World)=>P i):=fun _ _ _ _ hs _ _=>hs
theorem own_at1 {B b o:Nat} (hb:b<B) (v:Value):OwnFrom B (fun(_:Nat) W=>W.cell? (J b o)=some v):=fun _ W W' _ hs hg hr=>
 (zN (a:=(J b o)) (hg.block b (q9 hs) (fun e=>by have:=(hr b e.symm).1;omega))).trans hs

theorem takes_any (g n c k:Nat) (r:Int) (xs:List FunL) (w:World) (S:Blks) (hS:SlO 38 4 FunO w (.slice (some (J g 0)) n c) xs S) (hk:k<xs.length) (h0:0<xs[k].blocks.length) :
  Calls Tryz.prog 18 #[.pointer (some (J g (k*4))),Z r] w fun e w'=>e = .returned (.bool (tkF r xs[k]))/\Below w.heap.size w w':=by
 obtain⟨g',c',csf,Tf,hvf,hgz,hgS,het,hFf,hgT,hTS,haL,hcD,⟨curf,hbh⟩,_⟩:=hS.focus qK bO hk;obtain rfl:g=g':=by injection hvf with a;injection a with a;injection a
 obtain⟨f,hf⟩:=nZ (xs[k]);rw[←hf]at hFf h0 ⊢;have hlists:=hFf.lists h0;obtain⟨vb,hcU,hnm,hi1,hi2,hBf⟩:=hFf;obtain⟨bb,cb,hcs2,haJ,hbl,hcX⟩:=hlists
 have hvb:vb = .slice (some (J bb 0)) f.blocks.length cb:=by
  rw[hcU]at hcs2;simpa using hcs2
 subst hvb;subst hcU;have hdJ:=hS.inb bb (hTS bb haJ);have e3:w.cell? (J g (k*4+3))=some (.slice (some (J bb 0)) f.blocks.length cb):=haL 3 bO
 have hsr:SliceAt w 6 (BlkR w) (some (J bb 0)) f.blocks:=by
  obtain⟨p',c',e,_,_,h⟩:=hBf.sl.read (R':=BlkR w) qM bO fun _ _ _ h=>h.read;cases e;exact h
 have HSr:=q8 hsr;have HLs:=q8 hcX;clear hS hf hvf hgS het hgT hTS haL hcD hbh hcs2 haJ hnm hi1 hi2 hBf hsr hcX;refine(callsIn_wide (n:=3)).1 ?_;refine callsIn_of_wp_marks Tryz.func18 rfl trivial ?_ rfl;simp only[Tryz.ntmps18,List.size_toArray,yi,List.length_nil,Nat.reduceAdd,Nat.reduceSub,Array.replicate_succ,Array.replicate_zero,List.push_toArray,List.append_toArray,List.nil_append,List.cons_append];refine wpIn_wide.2 ?_
 go_wp2_with fail
 obtain⟨w0,hw0⟩:=nZ (((w.alloc (.cells #[Z r] 3)).alloc (.cells #[.bool false] 4)).alloc (.cells #[.func (.func 44) #[] #[.pointer (some (J w.heap.size 0))]] 86));rw[←hw0];have hz0:w0.heap.size=w.heap.size+1+1+1:=by rw[hw0];simp
 have hb0:Below w.heap.size w w0:=by rw[hw0];exact bZ
 have hC0:IsAt (w.heap.size+1+1) w.heap.size r w0:=by
  rw[hw0];exact⟨(blk (qh (qh (qB w _)))).1 0,(blk (qr bV)).1 0⟩
 have hR0:w0.heap[w.heap.size+1]?=some (.cells #[.bool false] 4 (0,0)):=by rw[hw0];exact qh (qr bV)
 have HZw:=q8 hz0;clear hw0 hz0;refine(Zf (some (J g (k*4))) w0).mono ?_;rintro e W0 ⟨rfl,hW0⟩;have hb1:Below w0.heap.size w0 W0:=by rw[hW0];exact bZ
 have HZ0:Hid (W0.heap.size=w0.heap.size+1):=q8 (by rw[hW0];simp);have hx0:W0.cell? (J w0.heap.size 0)=some (.pointer (some (J g (k*4)))):=by rw[hW0];exact(blk (qB w0 _)).1 0
 have haI:=q8 (hb0.trans (hb1.mono hb0.size));have HC:=q8 (hC0.below hb1);have HR:=q8 ((hb1.block _ (by have:=HZw.out;omega)).trans hR0)
 have hcY:EachSh w0.heap.size g (k*4) (some (J bb 0)) f.blocks.length cb (lqW w bb) (qq f) (lcW w bb) W0:=by
  refine⟨hx0,?_,fun mm hmm=>⟨bb,0,rfl,?_⟩⟩
  ·exact(haI.out.cell (p:=(J g (k*4+3))) hgz).trans e3
  rw[yx,haI.out.cell (p:=(J bb (mm*6+1))) hdJ];exact(HLs.out mm hmm).1
 have HSH:=q8 hcY;clear hW0 hb0 hb1 hC0 hR0 hx0 hcY
 go_wp2_with fail
 refine(wpIn_wide (n:=3)).1 ?_
 refine jA rfl bO (gf:=74) (lb:=#[.pointer (some (J w0.heap.size 0))]) rfl trivial (enters_of Tryz.func74 bK rfl)
  (XS Fence.wide 2 trivial rfl bO w0.heap.size g (k*4) cb f.blocks.length (some (J bb 0)) (lqW w bb) (lpW w bb) (qq f) (lcW w bb) W0 hbl (fun mm hmm=>(HLs.out mm hmm).2.1) (fun mm hmm h0=>(HLs.out mm hmm).2.2 h0) HSH.out) (fun h k x=>k (h x)) (fun W l o o' _ hl ho _ h=>h.putObj o' hl ho) (zI _ _) (fun i _=>rfl)
  (fun i W=>EachSh w0.heap.size g (k*4) (some (J bb 0)) f.blocks.length cb (lqW w bb) (qq f) (lcW w bb) W/\Kept (fun _=>False) W0 W/\∀m (hm:m<f.blocks.length) j (hj:j<f.blocks[m].list.length),(xx (qq f) m).length+j<i->tkI r f.blocks[m].list[j]=false)
  (fun c i W=>c = .ret/\Kept (fun b=>b=w.heap.size+1) W0 W/\W.cell? (J (w.heap.size+1) 0)=some (.bool true)/\∃m,∃hm:m<f.blocks.length,∃j,∃hj:j<f.blocks[m].list.length,tkI r f.blocks[m].list[j]=true)
  (own_sh.and ((kM (zK _)).and fun _ _ _ _ hs _ _=>hs)) ?own2 ⟨HSH.out,Kept.refl _ _,fun _ _ _ _ h=>by omega⟩
  (fun i=>{ tmps:=#[.pointer (some (J g (k*4))),Z r,undef,.pointer (some (J w.heap.size 0)),.pointer (some (J (w.heap.size+1) 0)),.pointer (some (J (w.heap.size+1+1) 0)),(jP (lpW w bb) (qq f) f.blocks.length i),.func (.func 44) #[] #[.pointer (some (J w.heap.size 0))],.pointer (some (J g (k*4))),.func (.func 74) #[] #[.pointer (some (J w0.heap.size 0))],(jP (lpW w bb) (qq f) f.blocks.length i),undef,undef,undef,undef,undef,undef,undef,undef,undef,undef,undef,undef,undef,undef,undef,undef,undef,undef,undef,undef,undef,undef,undef,undef,undef,undef,undef,undef],defers:=[] }) ?assign ?body ?done ?stop
 case own2=>
  intro cc;exact own_const.and ((kM (zK _)).and ((own_at1 (by have:=HZ0.out;have:=HZw.out;omega) _).and own_const))
 case assign=>
  intro l i W K hi hK;unfold Zw
  gi_wp2
  exact hK
 case body=>
  rintro l i W hl hi ⟨hSh,hKp,hno⟩;obtain⟨m',j,hm',hj,rfl⟩:=kL hi;have hj2:j<f.blocks[m'].list.length:=by rw[←xn hm'];exact hj
  have hbW:Below W0.heap.size W0 W:=hKp.below (zK _) fun _ h=>h.elim;have hbw:Below w.heap.size w W:=haI.out.trans (hbW.mono haI.out.size);obtain⟨b2,o2,q1,c1,q2,c2,q3,c3,hp2,_,e1,_,_,_,_,_,_,_,_,_,_,hls,_⟩:=vw HSr.out hbw hm';obtain⟨rfl,rfl⟩:bb=b2/\o2=0:=by cases hp2;exact⟨rfl,rfl⟩
  have hq2:q2=some (J ((lpW w bb m').1) ((lpW w bb m').2)):=by
   have h1:=(HLs.out m' hm').1;rw[←hbw.cell (p:=(J bb (m'*6+1))) hdJ]at h1;rw[yx]at e1;rw[h1]at e1;have h2:lqW w bb m'=q2:=(by simpa using congrArg (fun v=>match v with|some (Value.slice p _ _)=>p|_=>none) e1);rw[←h2];exact(HLs.out m' hm').2.2 bO
  obtain⟨lb,lo,qa,ca,hp3,y0,y1,y2,y3,y4,y5,y6,y7,i0,i1,i2,i3,i4,hal,has⟩:=Zp hls (zI _ _) hj2
  have hpt:jP (lpW w bb) (qq f) f.blocks.length ((xx (qq f) m').length+j) = .pointer (some (J lb (lo+j*8))):=by
   rw[kl hm' hj];rw[hq2]at hp3;injection hp3 with h2;injection h2 with h3 h4;rw[h3,h4]
  rw[hpt];obtain⟨x,hx⟩:=nZ (f.blocks[m'].list[j]);rw[←hx]at y0 y1 y2 y3 y4 y5 y6 y7 hal has;have lbz:=q9 y0;have hIs:IsAt (w.heap.size+1+1) w.heap.size r W:=HC.out.below hbW;have HI:=q8 hIs;have yI9:∀d os,(grow (redrawn W d) os).cell? (J (w.heap.size+1+1) 0)=some (.func (.func 44) #[] #[.pointer (some (J w.heap.size 0))]):=cell_regrown hIs.fn;have z2:∀d os,(grow (redrawn W d) os).cell? (J lb (lo+j*8+2))=some (.bool x.ar):=cell_regrown y2;have z3:∀d os,(grow (redrawn W d) os).cell? (J lb (lo+j*8+3))=some (Z x.an):=cell_regrown y3;have z4:∀d os,(grow (redrawn W d) os).cell? (J lb (lo+j*8+4))=some (.bool x.br):=cell_regrown y4;have z5:∀d os,(grow (redrawn W d) os).cell? (J lb (lo+j*8+5))=some (Z x.bn):=cell_regrown y5;have z7:∀d os,(grow (redrawn W d) os).cell? (J lb (lo+j*8+7))=some (.slice qa x.args.length ca):=cell_regrown y7;have hcA:∀d os,Calls Tryz.prog 44 #[.agg #[.bool x.ar,Z x.an],.pointer (some (J w.heap.size 0))] (grow (redrawn W d) os) fun e w'=>e = .returned (.bool (isV r (x.ar,x.an)))/\Below (grow (redrawn W d) os).heap.size (grow (redrawn W d) os) w':=fun d os=>KV _ r x.an x.ar _ (HI.out.r.below (below_regrown W d os));have hcB:∀d os,Calls Tryz.prog 44 #[.agg #[.bool x.br,Z x.bn],.pointer (some (J w.heap.size 0))] (grow (redrawn W d) os) fun e w'=>e = .returned (.bool (isV r (x.br,x.bn)))/\Below (grow (redrawn W d) os).heap.size (grow (redrawn W d) os) w':=fun d os=>KV _ r x.bn x.br _ (HI.out.r.below (below_regrown W d os));have hcL:∀d os,Calls Tryz.prog 46 #[.slice qa x.args.length ca,.func (.func 44) #[] #[.pointer (some (J w.heap.size 0))]] (grow (redrawn W d) os) fun e w'=>e = .returned (.bool (x.args.any (isV r)))/\Below (grow (redrawn W d) os).heap.size (grow (redrawn W d) os) w':=fun d os=>KW _ r x.args qa ca _ bO (has.mono (below_regrown W d os) bO fun _ _ h=>h) (HI.out.r.below (below_regrown W d os))
  have haR:tkI r x=false->∀Wq,Below W.heap.size W Wq->jz W0.heap.size (fun W W'=>EachSh w0.heap.size g (k*4) (some (J bb 0)) f.blocks.length cb (lqW w bb) (qq f) (lcW w bb) W->EachSh w0.heap.size g (k*4) (some (J bb 0)) f.blocks.length cb (lqW w bb) (qq f) (lcW w bb) W') (fun i W=>EachSh w0.heap.size g (k*4) (some (J bb 0)) f.blocks.length cb (lqW w bb) (qq f) (lcW w bb) W/\Kept (fun _=>False) W0 W/\∀m (hm:m<f.blocks.length) j (hj:j<f.blocks[m].list.length),(xx (qq f) m).length+j<i->tkI r f.blocks[m].list[j]=false) (fun c i W=>c = .ret/\Kept (fun b=>b=w.heap.size+1) W0 W/\W.cell? (J (w.heap.size+1) 0)=some (.bool true)/\∃m,∃hm:m<f.blocks.length,∃j,∃hj:j<f.blocks[m].list.length,tkI r f.blocks[m].list[j]=true) ((xx (qq f) m').length+j) W .normal Wq:=fun ht Wq hb=>by
   refine⟨⟨hb.size,fun q o _ hq _=>(hb.block q (qd hq)).trans hq⟩,fun h=>h.below hb,hSh.below hb,hKp.trans (Kept.of_below hb) (fun _ _ h=>h),fun m hm jj hjj hlt=>?_⟩;rcases yq ((xx (qq f) m).length+jj) ((xx (qq f) m').length+j)with g1|g1
   ·exact hno m hm jj hjj g1
   have e2:=QR hm (ll:=qq f) (j:=jj) (n:=f.blocks.length) (by rw[xn hm];exact hjj);have e3:=QR hm' hj;rw[show(xx (qq f) m).length+jj=(xx (qq f) m').length+j by omega,e3]at e2;injection e2 with e2;injection e2 with e4 e5;subst e4 e5;rw[←hx];exact ht
  have hbB:=q8 haR;have HKp:=q8 hKp;have HSh:=q8 hSh;have hRW:=(hbW.block _ (qd HR.out)).trans HR.out;have HRW:=q8 hRW;have HHx:=q8 hx;have wzI:=q9 hIs.fn;clear hSh hKp hno haR hRW hx hbw hls has hpt hp2 hp3 hq2 y0 y1 y6 e1 hIs
  have hjg:tkI r x=true->∀Wq,Below W.heap.size W Wq->jz W0.heap.size (fun W W'=>EachSh w0.heap.size g (k*4) (some (J bb 0)) f.blocks.length cb (lqW w bb) (qq f) (lcW w bb) W->EachSh w0.heap.size g (k*4) (some (J bb 0)) f.blocks.length cb (lqW w bb) (qq f) (lcW w bb) W') (fun i W=>EachSh w0.heap.size g (k*4) (some (J bb 0)) f.blocks.length cb (lqW w bb) (qq f) (lcW w bb) W/\Kept (fun _=>False) W0 W/\∀m (hm:m<f.blocks.length) j (hj:j<f.blocks[m].list.length),(xx (qq f) m).length+j<i->tkI r f.blocks[m].list[j]=false) (fun c i W=>c = .ret/\Kept (fun b=>b=w.heap.size+1) W0 W/\W.cell? (J (w.heap.size+1) 0)=some (.bool true)/\∃m,∃hm:m<f.blocks.length,∃j,∃hj:j<f.blocks[m].list.length,tkI r f.blocks[m].list[j]=true) ((xx (qq f) m').length+j) W .ret (Wq.setCell (J (w.heap.size+1) 0) (.bool true)):=fun ht Wq hb=>by
   have hRq:=(hb.block _ (qd HRW.out)).trans HRW.out;have hK1:Kept (fun b=>b=w.heap.size+1) W0 (Wq.setCell (J (w.heap.size+1) 0) (.bool true)):=((HKp.out.trans (Kept.of_below (S:=fun _=>False) hb) (fun _ _ h=>h)).mono (fun _ _ h=>h.elim):Kept (fun b=>b=w.heap.size+1) W0 Wq).setCell (p:=(J (w.heap.size+1) 0)) rfl _;have hK2:Kept (fun b=>b=w.heap.size+1) W (Wq.setCell (J (w.heap.size+1) 0) (.bool true)):=(Kept.of_below (S:=fun b=>b=w.heap.size+1) hb).setCell (p:=(J (w.heap.size+1) 0)) rfl _;refine⟨⟨hK2.size,fun q o hq0 hq _=>(hK2.block q (qd hq) (fun e=>by have:=HZ0.out;have:=HZw.out;have e:q=w.heap.size+1:=e;omega)).trans hq⟩,rfl,hK1,?_,m',hm',j,hj2,by rw[←HHx.out];exact ht⟩;have h2:=qj hRq 0 (.bool true);exact(blk h2).1 0
  have hkL:=q8 hjg;clear hjg;cases hA:isV r (x.ar,x.an)
  ·rw[hA]at hcA;cases hB:isV r (x.br,x.bn)
   ·rw[hB]at hcB;cases hL:x.args.any (isV r)
    ·rw[hL]at hcL
     gi_wp2
     refine qV bK bK (fun⟨_,_,h⟩=>h.2) bK ?_
     repeat go_big_quiet_step (fail)
     go_big_quiet_step (exact Calls.regrown_of (hcA _ _))
     repeat go_big_quiet_step (fail)
     go_big_quiet_step (exact Calls.regrown_of (hcB _ _))
     repeat go_big_quiet_step (fail)
     go_big_quiet_step (exact Calls.regrown_of (hcL _ _))
     repeat go_big_quiet_step (fail)
     refine wpQuiet_nil ?_;intro Wq hWq
     have hbq:Below W.heap.size W Wq:=by
      obtain⟨p,rfl⟩:=hWq;exact below_regrown _ _ _
     clear hWq
     gi_wp2
     exact hbB.out (by unfold tkI;rw[hA,hB,hL];rfl) Wq hbq
    rw[hL]at hcL
    gi_wp2
    refine qV bK bK (fun⟨_,_,h⟩=>h.2) bK ?_
    repeat go_big_quiet_step (fail)
    go_big_quiet_step (exact Calls.regrown_of (hcA _ _))
    repeat go_big_quiet_step (fail)
    go_big_quiet_step (exact Calls.regrown_of (hcB _ _))
    repeat go_big_quiet_step (fail)
    go_big_quiet_step (exact Calls.regrown_of (hcL _ _))
    repeat go_big_quiet_step (fail)
    refine wpQuiet_nil ?_;intro Wq hWq
    have hbq:Below W.heap.size W Wq:=by
     obtain⟨p,rfl⟩:=hWq;exact below_regrown _ _ _
    clear hWq;have hRq:=(hbq.block _ (qd HRW.out)).trans HRW.out;have hfr:=(blk hRq).2;have hr0:Wq.cell? (J (w.heap.size+1) 0)=some (.bool false):=(blk hRq).1 0;have hrz:=qd hRq
    gi_wp2
    refine hkL.out ?_ Wq hbq;unfold tkI;rw[hA,hB,hL];rfl
   rw[hB]at hcB
   gi_wp2
   refine qV bK bK (fun⟨_,_,h⟩=>h.2) bK ?_
   repeat go_big_quiet_step (fail)
   go_big_quiet_step (exact Calls.regrown_of (hcA _ _))
   repeat go_big_quiet_step (fail)
   go_big_quiet_step (exact Calls.regrown_of (hcB _ _))
   repeat go_big_quiet_step (fail)
   refine wpQuiet_nil ?_;intro Wq hWq
   have hbq:Below W.heap.size W Wq:=by
    obtain⟨p,rfl⟩:=hWq;exact below_regrown _ _ _
   clear hWq;have hRq:=(hbq.block _ (qd HRW.out)).trans HRW.out;have hfr:=(blk hRq).2;have hr0:Wq.cell? (J (w.heap.size+1) 0)=some (.bool false):=(blk hRq).1 0;have hrz:=qd hRq
   gi_wp2
   refine hkL.out ?_ Wq hbq;unfold tkI;rw[hA,hB];rfl
  rw[hA]at hcA
  gi_wp2
  refine qV bK bK (fun⟨_,_,h⟩=>h.2) bK ?_
  repeat go_big_quiet_step (fail)
  go_big_quiet_step (exact Calls.regrown_of (hcA _ _))
  repeat go_big_quiet_step (fail)
  refine wpQuiet_nil ?_;intro Wq hWq
  have hbq:Below W.heap.size W Wq:=by
   obtain⟨p,rfl⟩:=hWq;exact below_regrown _ _ _
  clear hWq;have hRq:=(hbq.block _ (qd HRW.out)).trans HRW.out;have hfr:=(blk hRq).2;have hr0:Wq.cell? (J (w.heap.size+1) 0)=some (.bool false):=(blk hRq).1 0;have hrz:=qd hRq
  gi_wp2
  refine hkL.out ?_ Wq hbq;unfold tkI;rw[hA];rfl
 case done=>
  rintro D W hD ⟨hSh,hKp,hno⟩ hDl;have hbW:Below W0.heap.size W0 W:=hKp.below (zK _) fun _ h=>h.elim;have hbw:Below w.heap.size w W:=haI.out.trans (hbW.mono haI.out.size);have hIs:IsAt (w.heap.size+1+1) w.heap.size r W:=HC.out.below hbW;have c3:W.cell? (J g (k*4+3))=some (.slice (some (J bb 0)) f.blocks.length cb):=hSh.fn;have cz:=q9 c3;have hRq:=(hbW.block _ (qd HR.out)).trans HR.out;have hfr:=(blk hRq).2;have hrz:=qd hRq;have hr0:W.cell? (J (w.heap.size+1) 0)=some (.bool false):=(blk hRq).1 0;have hrH:=q8 (hasB_any (w.heap.size+1+1) w.heap.size r f.blocks (some (J bb 0)) cb W (by have:reachBytes=140737488351232:=rfl;omega) (jY HSr.out hbw) hIs)
  have HT:Hid (tkF r f=f.blocks.any (tkB r)):=q8 (by
   unfold tkF;rw[jw (t:=fun b:BlkL=>b.list.any (tkI r)) fun m hm=>jw fun j hj=>hno m hm j hj (XR hm (by rw[xn hm];exact hj))]
   rfl)
  have HRq:=q8 hRq;have HDl:=q8 hDl;have HBw:=q8 hbw;clear hSh hKp hno hDl hbW hIs hRq hbw
  go_wp2_with fail
  refine hrH.out.mono ?_;rintro e w3 ⟨rfl,hb3⟩;have hR3:=(hb3.block _ (qd HRq.out)).trans HRq.out;have huX:=(blk hR3).2;have huY:=qd hR3;have huZ:w3.cell? (J (w.heap.size+1) 0)=some (.bool false):=(blk hR3).1 0;have HR3:=q8 hR3;have HB3:=q8 hb3;clear hb3 hR3 hr0 hfr hrz;rw[←HT.out]
  go_wp2_with fail
  show LeavesInM _ _ _ _ _ _ (X8 [D]) .returning _
  have hD3:(w3.setCell (J (w.heap.size+1) 0) (.bool (tkF r f))).heap[D]?=some (.deferred (some [])):=by
   rw[zJ _ ⟨w.heap.size+1,0,none⟩ _ _ (by show D≠w.heap.size+1;have:=HZ0.out;have:=HZw.out;omega)];exact(HB3.out.block _ (qd HDl.out)).trans HDl.out
  have hB4:Below w.heap.size w (w3.setCell (J (w.heap.size+1) 0) (.bool (tkF r f))):=(HBw.out.trans (HB3.out.mono HBw.out.size)).setCell (by show w.heap.size<=w.heap.size+1;omega) _;have hR4:=qj HR3.out 0 (.bool (tkF r f));refine xK W0.heap.size [D] _ bV (fun E hE=>by obtain rfl:E=D:=(by simpa using hE);exact⟨hD,hD3⟩) (fun w' h1 h2 h3 h4 h5=>?_);have hne:∀b,b<W0.heap.size->b∉[D]:=fun b hb h=>by have:=yI.1 h;omega
  have r1:=(h5 (w.heap.size+1) (hne _ (by have:=HZ0.out;have:=HZw.out;omega))).trans hR4;have q0:w'.cell? (J (w.heap.size+1) 0)=some (.bool (tkF r f)):=(blk r1).1 0;refine⟨.bool (tkF r f),?_,rfl,?_⟩
  ·simp[results,Tryz.results18,go_sem,q0]
  exact⟨h1.trans hB4.os,h2.trans hB4.tape,h3.trans hB4.output,yv hB4.size h4,fun b hb=>(h5 b (hne b (by have:=HZ0.out;have:=HZw.out;omega))).trans (hB4.block b hb)⟩
 case stop=>
  rintro D cc i W hD hi ⟨rfl,hKp,hcell,m,hm,j,hj,hjg⟩ hDl
  have hT:tkF r f=true:=by
   unfold tkF;rw[vj (t:=fun b:BlkL=>b.list.any (tkI r)) hm (vj hj hjg)];rfl
  have hB4:Below w.heap.size w W:=haI.out.trans (hKp.below haI.out.size fun b e=>by omega)
  gi_wp2
  show LeavesInM _ _ _ _ _ _ (X8 [D]) .returning _;refine xK W0.heap.size [D] _ bV (fun E hE=>by obtain rfl:E=D:=(by simpa using hE);exact⟨hD,hDl⟩) (fun w' h1 h2 h3 h4 h5=>?_);have hne:∀b,b<W0.heap.size->b∉[D]:=fun b hb h=>by have:=yI.1 h;omega
  have q0:w'.cell? (J (w.heap.size+1) 0)=some (.bool true):=(zN (a:=(J (w.heap.size+1) 0)) (h5 (w.heap.size+1) (hne _ (by have:=HZ0.out;have:=HZw.out;omega)))).trans hcell;refine⟨.bool true,?_,by rw[hT],?_⟩
  ·simp[results,Tryz.results18,go_sem,q0]
  exact⟨h1.trans hB4.os,h2.trans hB4.tape,h3.trans hB4.output,yv hB4.size h4,fun b hb=>(h5 b (hne b (by have:=HZ0.out;have:=HZw.out;omega))).trans (hB4.block b hb)⟩
end Go.Proofs.YtgjjhadbjmcnpaaGreatDoor
namespace Go.Proofs.YtgjjhadbjmcnpaaGreatDoor
open Go.RowKit Go.Shelf Go.Sort
attribute [local go_sem] Oper.semAt_some

theorem all_len (f:FunL):(f.blocks.flatMap fun b:BlkL=>b.list).length=(xx (qq f) f.blocks.length).length:=by
 have h:=VV f f.blocks.length (zK _)
 rwa [yP]at h
theorem J6 {B b:Nat} {o:Obj} (hb:b<B) {W W':World} {row:Option Nat} (hg:W.grownBy W' row) (hr:∀r,row=some r->B<=r/\∃o,W.heap[r]?=some o/\o.isCells=false) (h:W.heap[b]?=some o):W'.heap[b]?=some o:=
 (hg.block b (qd h) (fun e=>by have:=(hr b e.symm).1;omega)).trans h

theorem YG (U g c k p:Nat) (xs:List FunL) (w:World) (S:Blks) (hU:w.cell? (J U 1)=some (.slice (some (J g 0)) xs.length c)) (hS:SlO 38 4 FunO w (.slice (some (J g 0)) xs.length c) xs S) (hn:xs.length<=140737488355328)
  (h0:∀f∈xs,0<f.blocks.length) (hcall:∀f∈xs,∀b∈f.blocks,∀x∈b.list,x.op=20->x.fn=(k:Int)->p<x.args.length) :
  Calls Tryz.prog 20 #[.pointer (some (J U 0)),Z k,Z p] w fun e w'=>e = .returned (.tuple #[Z ((jy k p xs).getD 0),.bool (jy k p xs).isSome])/\Below w.heap.size w w':=by
 have zU:=q9 hU;have HS:=q8 hS;have hbU:=q8 hcall;have H0:=q8 h0;have HU:=q8 hU;clear hS hcall h0 hU;refine(callsIn_wide (n:=3)).1 ?_;refine callsIn_of_wp_marks Tryz.func20 rfl trivial ?_ rfl;simp only[Tryz.ntmps20,List.size_toArray,yi,List.length_nil,Nat.reduceAdd,Nat.reduceSub,Array.replicate_succ,Array.replicate_zero,List.push_toArray,List.append_toArray,List.nil_append,List.cons_append];refine wpIn_wide.2 ?_;obtain⟨w2,hw2⟩:=nZ ((((((w.alloc (.cells #[Z k] 3)).alloc (.cells #[Z p] 3)).alloc (.cells #[Z 0] 3)).alloc (.cells #[.bool false] 4)).alloc (.cells #[.bool false] 4)).alloc (.cells #[Z 0] 3));have hb2:Below w.heap.size w w2:=by rw[hw2];exact bZ
 have hU2:w2.cell? (J U 1)=some (.slice (some (J g 0)) xs.length c):=(hb2.cell (p:=(J U 1)) zU).trans HU.out;have zU2:=q9 hU2;have hz2:w2.heap.size=w.heap.size+1+1+1+1+1+1:=by rw[hw2];simp
 have hc0:w2.heap[w.heap.size]?=some (.cells #[Z k] 3 (0,0)):=by rw[hw2];exact qh (qh (qh (qh (qh (qB w _)))))
 have hc1:w2.heap[w.heap.size+1]?=some (.cells #[Z p] 3 (0,0)):=by rw[hw2];exact qh (qh (qh (qh (qr bV))))
 have hc2:w2.heap[w.heap.size+1+1]?=some (.cells #[Z 0] 3 (0,0)):=by rw[hw2];exact qh (qh (qh (qr bV)))
 have hc3:w2.heap[w.heap.size+1+1+1]?=some (.cells #[.bool false] 4 (0,0)):=by rw[hw2];exact qh (qh (qr bV))
 have hc4:w2.heap[w.heap.size+1+1+1+1]?=some (.cells #[.bool false] 4 (0,0)):=by rw[hw2];exact qh (qr bV)
 have hc5:w2.heap[w.heap.size+1+1+1+1+1]?=some (.cells #[Z 0] 3 (0,0)):=by rw[hw2];exact qr bV
 have HZ2:=q8 hz2;have HB2:=q8 hb2;have HC0:=q8 hc0;have HC1:=q8 hc1;have HC2:=q8 hc2;have HC3:=q8 hc3;have HC4:=q8 hc4;have HC5:=q8 hc5;rw[hw2]at hU2 zU2;clear hz2 hb2 hc0 hc1 hc2 hc3 hc4 hc5;have HW2:=q8 hw2;clear hw2
 go_wp2_with fail
 rw[←HW2.out]at hU2 zU2 ⊢;have HU2:=q8 hU2;clear hU2 zU2;refine(wpIn_wide (n:=3)).1 ?_;refine wpIn_loop (fun a' w'=>∃(cc:Nat) (Ds:List Nat),(cc<=xs.length/\Ds.Nodup/\(∀D∈Ds,w2.heap.size<=D/\w'.heap[D]?=some (.deferred (some [])))/\(∃h:Option Int,jS k p xs cc 0=some h/\w'.heap[w.heap.size+1+1+1+1]?=some (.cells #[.bool h.isSome] 4 (0,0))/\w'.heap[w.heap.size+1+1+1+1+1]?=some (.cells #[Z (h.getD 0)] 3 (0,0)))/\Kept (fun b=>b=w.heap.size+1+1+1+1\/b=w.heap.size+1+1+1+1+1) w2 w')/\a'.defers=X8 Ds/\a'.tmps.size=65/\a'.tmps.getD 0 undef = .pointer (some (J U 0))/\a'.tmps.getD 4 undef = .pointer (some (J w.heap.size 0))/\a'.tmps.getD 5 undef = .pointer (some (J (w.heap.size+1) 0))/\a'.tmps.getD 6 undef = .pointer (some (J (w.heap.size+1+1) 0))/\a'.tmps.getD 7 undef = .pointer (some (J (w.heap.size+1+1+1) 0))/\a'.tmps.getD 8 undef = .pointer (some (J (w.heap.size+1+1+1+1) 0))/\a'.tmps.getD 9 undef = .pointer (some (J (w.heap.size+1+1+1+1+1) 0))/\a'.tmps.getD 17 undef=Z xs.length/\a'.tmps.getD 18 undef=Z cc) (fun a' _=>xs.length - (intOf (a'.tmps.getD 18 undef)).toNat) ?start ?round
 case start=>
  exact⟨0,[],⟨Nat.zero_le _,List.nodup_nil,fun D h=>(by cases h),⟨none,YA _ _ _,HC4.out,HC5.out⟩,Kept.refl _ _⟩,rfl,rfl,rfl,rfl,rfl,rfl,rfl,rfl,rfl,rfl,rfl⟩
 case round=>
  rintro⟨ts,ds⟩ wk ⟨cc,Ds,⟨hcc,hN,hD,⟨h,hst,hH,hNn⟩,hK⟩,hdf,hfs,hf0,hf4,hf5,hf6,hf7,hf8,hf9,hkM,hkO⟩;simp only at hdf hfs hf0 hf4 hf5 hf6 hf7 hf8 hf9 hkM hkO;subst hdf;obtain⟨us,hus⟩:∃us:Nat->Value,us=fun i=>ts.getD i undef:=⟨_,rfl⟩
  have hts:ts=((.pointer (some (J U 0)))::(us 1)::(us 2)::(us 3)::(.pointer (some (J w.heap.size 0)))::(.pointer (some (J (w.heap.size+1) 0)))::(.pointer (some (J (w.heap.size+1+1) 0)))::(.pointer (some (J (w.heap.size+1+1+1) 0)))::(.pointer (some (J (w.heap.size+1+1+1+1) 0)))::(.pointer (some (J (w.heap.size+1+1+1+1+1) 0)))::(us 10)::(us 11)::(us 12)::(us 13)::(us 14)::(us 15)::(us 16)::(Z xs.length)::(Z cc)::(us 19)::(us 20)::(us 21)::(us 22)::(us 23)::(us 24)::(us 25)::(us 26)::(us 27)::(us 28)::(us 29)::(us 30)::(us 31)::(us 32)::(us 33)::(us 34)::(us 35)::(us 36)::(us 37)::(us 38)::(us 39)::(us 40)::(us 41)::(us 42)::(us 43)::(us 44)::(us 45)::(us 46)::(us 47)::(us 48)::(us 49)::(us 50)::(us 51)::(us 52)::(us 53)::(us 54)::(us 55)::(us 56)::(us 57)::(us 58)::(us 59)::(us 60)::(us 61)::(us 62)::(us 63)::(us 64)::[]).toArray:=by
   have hfr:=js hfs;rw[←hus]at hfr;have h0:us 0 = .pointer (some (J U 0)):=(by rw[hus];exact hf0);have h4:us 4 = .pointer (some (J w.heap.size 0)):=(by rw[hus];exact hf4);have h5:us 5 = .pointer (some (J (w.heap.size+1) 0)):=(by rw[hus];exact hf5);have h6:us 6 = .pointer (some (J (w.heap.size+1+1) 0)):=(by rw[hus];exact hf6);have h7:us 7 = .pointer (some (J (w.heap.size+1+1+1) 0)):=(by rw[hus];exact hf7);have h8:us 8 = .pointer (some (J (w.heap.size+1+1+1+1) 0)):=(by rw[hus];exact hf8);have h9:us 9 = .pointer (some (J (w.heap.size+1+1+1+1+1) 0)):=(by rw[hus];exact hf9);have h17:us 17=Z xs.length:=(by rw[hus];exact hkM);have h18:us 18=Z cc:=(by rw[hus];exact hkO);refine hfr.trans ?_;show((us 0)::(us 1)::(us 2)::(us 3)::(us 4)::(us 5)::(us 6)::(us 7)::(us 8)::(us 9)::(us 10)::(us 11)::(us 12)::(us 13)::(us 14)::(us 15)::(us 16)::(us 17)::(us 18)::(us 19)::(us 20)::(us 21)::(us 22)::(us 23)::(us 24)::(us 25)::(us 26)::(us 27)::(us 28)::(us 29)::(us 30)::(us 31)::(us 32)::(us 33)::(us 34)::(us 35)::(us 36)::(us 37)::(us 38)::(us 39)::(us 40)::(us 41)::(us 42)::(us 43)::(us 44)::(us 45)::(us 46)::(us 47)::(us 48)::(us 49)::(us 50)::(us 51)::(us 52)::(us 53)::(us 54)::(us 55)::(us 56)::(us 57)::(us 58)::(us 59)::(us 60)::(us 61)::(us 62)::(us 63)::(us 64)::[]).toArray=_;rw[h0,h4,h5,h6,h7,h8,h9,h17,h18]
  clear hus hfs hf0 hf4 hf5 hf6 hf7 hf8 hf9 hkM hkO;subst hts;have HN:=q8 hN;have HD:=q8 hD;have HK:=q8 hK;have HSt:=q8 hst;have HHd:=q8 hH;have HNn:=q8 hNn;have hKb:Below w.heap.size w2 wk:=hK.below HB2.out.size fun b h=>h.elim (fun e=>by omega) (fun e=>by omega);have HBk:=q8 (HB2.out.trans hKb);have cU:wk.cell? (J U 1)=some (.slice (some (J g 0)) xs.length c):=(HBk.out.cell (p:=(J U 1)) zU).trans HU.out;have zUk:=q9 cU;have HCk:=q8 ((hK.block _ (qd HC0.out) (fun h=>h.elim (fun e=>by omega) (fun e=>by omega))).trans HC0.out);have HPk:=q8 ((hK.block _ (qd HC1.out) (fun h=>h.elim (fun e=>by omega) (fun e=>by omega))).trans HC1.out);have HR1:=q8 ((hK.block _ (qd HC2.out) (fun h=>h.elim (fun e=>by omega) (fun e=>by omega))).trans HC2.out);have HR2:=q8 ((hK.block _ (qd HC3.out) (fun h=>h.elim (fun e=>by omega) (fun e=>by omega))).trans HC3.out);have hzk:=hK.size;clear hN hD hK hst hH hNn hKb;refine wpIn_wide.2 ?_
  by_cases hlt:cc<xs.length
  rotate_left
  ·obtain rfl:cc=xs.length:=by omega
   have hal:jy k p xs=h:=by
    have e:=HSt.out;rw[alwTo_all]at e;unfold jy;rw[e];rfl
   have HAl:=q8 hal;clear hal
   go_wp2_with fail
   have hSp:(fun W':World=>W'.cell? (J (w.heap.size+1+1+1+1) 0)=some (.bool h.isSome)/\W'.cell? (J (w.heap.size+1+1+1+1+1) 0)=some (Z (h.getD 0))) wk.drew:=⟨(blk HHd.out).1 0,(blk HNn.out).1 0⟩;refine qA (S:=(fun W':World=>W'.cell? (J (w.heap.size+1+1+1+1) 0)=some (.bool h.isSome)/\W'.cell? (J (w.heap.size+1+1+1+1+1) 0)=some (Z (h.getD 0)))) bK 3 ?_;have zH:w.heap.size+1+1+1+1<wk.drew.heap.size:=qd HHd.out;have zN9:w.heap.size+1+1+1+1+1<wk.drew.heap.size:=qd HNn.out;refine qx 0 63 (Z (h.getD 0)) rfl rfl hSp (fun W' hS'=>by obtain⟨h1,h2⟩:=hS';go_simp) ?_;refine qx 1 64 (.bool h.isSome) rfl rfl hSp (fun W' hS'=>by obtain⟨h1,h2⟩:=hS';go_simp) ?_;have r1:=(blk HR1.out).2;have r1c:wk.drew.cell? (J (w.heap.size+1+1) 0)=some (Z 0):=(blk HR1.out).1 0;have r1z:w.heap.size+1+1<wk.drew.heap.size:=qd HR1.out;have hnU:(fun W':World=>W'.cell? (J (w.heap.size+1+1+1+1) 0)=some (.bool h.isSome)/\W'.cell? (J (w.heap.size+1+1+1+1+1) 0)=some (Z (h.getD 0))) (wk.drew.setCell (J (w.heap.size+1+1) 0) (Z (h.getD 0))):=⟨(zN (a:=(J (w.heap.size+1+1+1+1) 0)) (zJ _ _ _ _ (by show w.heap.size+1+1+1+1≠w.heap.size+1+1;omega))).trans hSp.1,(zN (a:=(J (w.heap.size+1+1+1+1+1) 0)) (zJ _ _ _ _ (by show w.heap.size+1+1+1+1+1≠w.heap.size+1+1;omega))).trans hSp.2⟩;refine qm (i:=2) bK (qz (wk.drew.setCell (J (w.heap.size+1+1) 0) (Z (h.getD 0))) rfl rfl rfl (by go_simp) (fun _=>hnU) ?_);have hR3:(wk.drew.setCell (J (w.heap.size+1+1) 0) (Z (h.getD 0))).heap[w.heap.size+1+1+1]?=some (.cells #[.bool false] 4 (0,0)):=(zJ _ _ _ _ (by show w.heap.size+1+1+1≠w.heap.size+1+1;omega)).trans HR2.out;have r3:=(blk hR3).2;have r3c:(wk.drew.setCell (J (w.heap.size+1+1) 0) (Z (h.getD 0))).cell? (J (w.heap.size+1+1+1) 0)=some (.bool false):=(blk hR3).1 0;have r3z:w.heap.size+1+1+1<(wk.drew.setCell (J (w.heap.size+1+1) 0) (Z (h.getD 0))).heap.size:=qd hR3;have hF1:(wk.drew.setCell (J (w.heap.size+1+1) 0) (Z (h.getD 0))).heap[w.heap.size+1+1]?=some (.cells #[Z (h.getD 0)] 3 (0,0)):=qj HR1.out 0 _;obtain⟨wa,hwa⟩:=nZ (wk.drew.setCell (J (w.heap.size+1+1) 0) (Z (h.getD 0)));have hKa:Kept (fun b=>b=w.heap.size+1+1) wk wa:=(by rw[hwa];exact((Kept.refl (fun b=>b=w.heap.size+1+1) wk).drew).setCell (p:=(J (w.heap.size+1+1) 0)) rfl _);rw[←hwa]at hR3 r3 r3c r3z hF1 ⊢;clear hwa;refine qm (i:=3) bK (qz (wa.setCell (J (w.heap.size+1+1+1) 0) (.bool h.isSome)) rfl rfl rfl (by go_simp) (fun h=>absurd rfl h) ?_);have hF2:(wa.setCell (J (w.heap.size+1+1+1) 0) (.bool h.isSome)).heap[w.heap.size+1+1+1]?=some (.cells #[.bool h.isSome] 4 (0,0)):=qj hR3 0 _;have hF3:(wa.setCell (J (w.heap.size+1+1+1) 0) (.bool h.isSome)).heap[w.heap.size+1+1]?=some (.cells #[Z (h.getD 0)] 3 (0,0)):=(zJ _ _ _ _ (by show w.heap.size+1+1≠w.heap.size+1+1+1;omega)).trans hF1;have hKf:Kept (fun b=>b=w.heap.size+1+1\/b=w.heap.size+1+1+1\/b=w.heap.size+1+1+1+1\/b=w.heap.size+1+1+1+1+1) wk (wa.setCell (J (w.heap.size+1+1+1) 0) (.bool h.isSome)):=(hKa.mono (fun _ _ h=>.inl h)).trans ((Kept.refl (fun b=>b=w.heap.size+1+1+1) wa).setCell (p:=(J (w.heap.size+1+1+1) 0)) rfl _) (fun _ _ h=>.inr (.inl h));refine⟨by kernel_rfl,?_⟩;unfold calm;dsimp only [Act.put];obtain⟨wb,hwb⟩:=nZ (wa.setCell (J (w.heap.size+1+1+1) 0) (.bool h.isSome));rw[←hwb]at hF2 hF3 hKf ⊢;have HF2:=q8 hF2;have HF3:=q8 hF3;have HKf:=q8 hKf;clear hSp hnU r1 r1c r1z hR3 r3 r3c r3z hF1 hKa hwb hF2 hF3 hKf zH zN9
   go_wp2_with fail
   show LeavesInM _ _ _ _ _ _ (X8 Ds) .returning _;have hBf:Below w.heap.size w wb:=HBk.out.trans (HKf.out.below HBk.out.size fun b h=>by rcases h with h|h|h|h<;>omega)
   have hnm:∀E,E∈Ds->w2.heap.size<=E/\wb.heap[E]?=some (.deferred (some [])):=fun E hE=>by
    obtain⟨d1,d2⟩:=HD.out E hE;exact⟨d1,(HKf.out.block _ (qd d2) (fun h=>by have:=HZ2.out;rcases h with h|h|h|h<;>omega)).trans d2⟩
   refine xK w2.heap.size Ds wb HN.out hnm (fun w' h1 h2 h3 h4 h5=>?_);have hne:∀b,b<w2.heap.size->b∉Ds:=fun b hb h=>by have:=(hnm b h).1;omega
   have q1:w'.cell? (J (w.heap.size+1+1) 0)=some (Z (h.getD 0)):=(blk ((h5 _ (hne _ (by have:=HZ2.out;omega))).trans HF3.out)).1 0;have q2:w'.cell? (J (w.heap.size+1+1+1) 0)=some (.bool h.isSome):=(blk ((h5 _ (hne _ (by have:=HZ2.out;omega))).trans HF2.out)).1 0;refine⟨.tuple #[Z (h.getD 0),.bool h.isSome],?_,by rw[HAl.out],?_⟩
   ·simp[results,Tryz.results20,go_sem,q1,q2]
   exact⟨h1.trans hBf.os,h2.trans hBf.tape,h3.trans hBf.output,yv hBf.size h4,fun b hb=>(h5 b (hne b (by have:=HZ2.out;omega))).trans (hBf.block b hb)⟩
  have c0:(0:Int)<=(cc:Int):=by omega
  have c1:(cc:Int)<xs.length:=by omega
  obtain⟨g2,c2,csf,Tf,hvf,hgz,hkJ,het,hFf,hkK,hhA,haL,hcD,⟨curf,hbh⟩,_⟩:=HS.out.focus qK bO hlt;obtain rfl:g=g2:=by injection hvf with a;injection a with a;injection a
  obtain⟨f,hf⟩:=nZ (xs[cc]);rw[←hf]at hFf
  have hgood:0<f.blocks.length/\∀b∈f.blocks,∀x∈b.list,x.op=20->x.fn=(k:Int)->p<x.args.length:=by
   rw[hf];exact⟨H0.out _ (zP hlt),hbU.out _ (zP hlt)⟩
  have hlists:=hFf.lists hgood.1;obtain⟨vb,hcU,hnm,hi1,hi2,hBf⟩:=hFf;obtain⟨bb,cb,hcs2,haJ,hbl,hcX⟩:=hlists
  have hvb:vb = .slice (some (J bb 0)) f.blocks.length cb:=by
   rw[hcU]at hcs2;simpa using hcs2
  subst hvb;subst hcU;have hdJ:=HS.out.inb bb (hhA bb haJ);have e3:w.cell? (J g (cc*4+3))=some (.slice (some (J bb 0)) f.blocks.length cb):=haL 3 bO
  have hsr:SliceAt w 6 (BlkR w) (some (J bb 0)) f.blocks:=by
   obtain⟨p',c',e,_,_,h⟩:=hBf.sl.read (R':=BlkR w) qM bO fun _ _ _ h=>h.read;cases e;exact h
  have HSr:=q8 hsr;have HLs:=q8 hcX;have HF:=q8 hf;have hey:=q8 hgood.2;clear hvf hkJ het hkK hhA haL hcD hbh hcs2 haJ hnm hi1 hi2 hBf hcX hsr hf hgood
  go_wp2_with fail
  refine(Zf (some (J g (cc*4))) wk).mono ?_;rintro e W0 ⟨rfl,hW0⟩;have hb1:Below wk.heap.size wk W0:=by rw[hW0];exact bZ
  have HZ0:Hid (W0.heap.size=wk.heap.size+1):=q8 (by rw[hW0];simp);have hx0:W0.cell? (J wk.heap.size 0)=some (.pointer (some (J g (cc*4)))):=by rw[hW0];exact(blk (qB wk _)).1 0
  have HBW:=q8 (HBk.out.trans (hb1.mono HBk.out.size))
  have hcY:EachSh wk.heap.size g (cc*4) (some (J bb 0)) f.blocks.length cb (lqW w bb) (qq f) (lcW w bb) W0:=by
   refine⟨hx0,?_,fun mm hmm=>⟨bb,0,rfl,?_⟩⟩
   ·exact(HBW.out.cell (p:=(J g (cc*4+3))) hgz).trans e3
   rw[yx,HBW.out.cell (p:=(J bb (mm*6+1))) hdJ];exact(HLs.out mm hmm).1
  have HSH:=q8 hcY;have HB1:=q8 hb1;clear hb1 hx0 hcY hW0
  go_wp2_with fail
  refine(wpIn_wide (n:=3)).1 ?_
  refine jA rfl bO (gf:=74) (lb:=#[.pointer (some (J wk.heap.size 0))]) rfl trivial (enters_of Tryz.func74 bK rfl)
   (XS Fence.wide 2 trivial rfl bO wk.heap.size g (cc*4) cb f.blocks.length (some (J bb 0)) (lqW w bb) (lpW w bb) (qq f) (lcW w bb) W0 hbl (fun mm hmm=>(HLs.out mm hmm).2.1) (fun mm hmm h0=>(HLs.out mm hmm).2.2 h0) HSH.out) (fun h k x=>k (h x)) (fun W l o o' _ hl ho _ h=>h.putObj o' hl ho) (zI _ _) (fun i _=>rfl)
   (fun i W=>(∃h:Option Int,jS k p xs cc i=some h/\W.heap[w.heap.size+1+1+1+1]?=some (.cells #[.bool h.isSome] 4 (0,0))/\W.heap[w.heap.size+1+1+1+1+1]?=some (.cells #[Z (h.getD 0)] 3 (0,0)))/\EachSh wk.heap.size g (cc*4) (some (J bb 0)) f.blocks.length cb (lqW w bb) (qq f) (lcW w bb) W/\Kept (fun b=>b=w.heap.size+1+1+1+1\/b=w.heap.size+1+1+1+1+1) W0 W) (fun ct i W=>ct = .ret/\jS k p xs cc (i+1)=none/\W.heap[w.heap.size+1+1]?=some (.cells #[Z 0] 3 (0,0))/\W.heap[w.heap.size+1+1+1]?=some (.cells #[.bool false] 4 (0,0))/\Kept (fun b=>b=w.heap.size+1+1\/b=w.heap.size+1+1+1\/b=w.heap.size+1+1+1+1\/b=w.heap.size+1+1+1+1+1) W0 W)
   (fun s W W' row ⟨⟨h,a1,a2,a3⟩,hsh,hk⟩ hg hr=>⟨⟨h,a1,J6 (by have:=HZ0.out;have:=HZ2.out;omega) hg hr a2,J6 (by have:=HZ0.out;have:=HZ2.out;omega) hg hr a3⟩,own_sh s W W' row hsh hg hr,kM (zK _) s W W' row hk hg hr⟩)
   (fun ct s W W' row ⟨a1,a2,a3,a4,hk⟩ hg hr=>⟨a1,a2,J6 (by have:=HZ0.out;have:=HZ2.out;omega) hg hr a3,J6 (by have:=HZ0.out;have:=HZ2.out;omega) hg hr a4,kM (zK _) s W W' row hk hg hr⟩)
   ⟨⟨h,HSt.out,(HB1.out.block _ (qd HHd.out)).trans HHd.out,(HB1.out.block _ (qd HNn.out)).trans HNn.out⟩,HSH.out,Kept.refl _ _⟩
   (fun i=>{ tmps:=((.pointer (some (J U 0)))::(us 1)::(us 2)::(us 3)::(.pointer (some (J w.heap.size 0)))::(.pointer (some (J (w.heap.size+1) 0)))::(.pointer (some (J (w.heap.size+1+1) 0)))::(.pointer (some (J (w.heap.size+1+1+1) 0)))::(.pointer (some (J (w.heap.size+1+1+1+1) 0)))::(.pointer (some (J (w.heap.size+1+1+1+1+1) 0)))::(Z cc)::((jP (lpW w bb) (qq f) f.blocks.length i))::(us 12)::(us 13)::(us 14)::(us 15)::(us 16)::(Z xs.length)::(Z cc)::(.bool true)::(Z cc)::(.pointer (some (J U 0)))::(.pointer (some (J U 0)))::(.pointer (some (J U 1)))::(.slice (some (J g 0)) xs.length c)::(Z cc)::(.pointer (some (J g (cc*4))))::(.func (.func 74) #[] #[.pointer (some (J wk.heap.size 0))])::((jP (lpW w bb) (qq f) f.blocks.length i))::(us 29)::(us 30)::(us 31)::(us 32)::(us 33)::(us 34)::(us 35)::(us 36)::(us 37)::(us 38)::(us 39)::(us 40)::(us 41)::(us 42)::(us 43)::(us 44)::(us 45)::(us 46)::(us 47)::(us 48)::(us 49)::(us 50)::(us 51)::(us 52)::(us 53)::(us 54)::(us 55)::(us 56)::(us 57)::(us 58)::(us 59)::(us 60)::(us 61)::(us 62)::(us 63)::(us 64)::[]).toArray,defers:=[] }) ?assign ?body ?done ?stop
  case assign=>
   intro l i W K hi hK;unfold Zw
   gi_wp2
   exact hK
  case body=>
   rintro l i W hl hi ⟨⟨h,hst,hHd,hNn⟩,hSh,hKp⟩;obtain⟨m',j,hm',hj,rfl⟩:=kL hi;have hj2:j<f.blocks[m'].list.length:=(by rw[←xn hm'];exact hj);have hKw:Kept (fun b=>b=w.heap.size+1+1+1+1\/b=w.heap.size+1+1+1+1+1) wk W:=(Kept.of_below HB1.out).trans hKp fun _ _ h=>h;have hbw:Below w.heap.size w W:=HBk.out.trans (hKw.below HBk.out.size fun b h=>by rcases h with h|h<;>omega);obtain⟨b2,o2,q1,e1,q2,e2,q3,e3',hp2,_,b1,_,_,_,_,_,_,_,_,_,_,hls,_⟩:=vw HSr.out hbw hm';obtain⟨rfl,rfl⟩:bb=b2/\o2=0:=by cases hp2;exact⟨rfl,rfl⟩
   have hq2:q2=some (J ((lpW w bb m').1) ((lpW w bb m').2)):=by
    have h1:=(HLs.out m' hm').1;rw[←hbw.cell (p:=(J bb (m'*6+1))) hdJ]at h1;rw[yx]at b1;rw[h1]at b1;have h2:lqW w bb m'=q2:=(by simpa using congrArg (fun v=>match v with|some (Value.slice p _ _)=>p|_=>none) b1);rw[←h2];exact(HLs.out m' hm').2.2 bO
   obtain⟨lb,lo,qa,ca,hp3,y0,y1,y2,y3,y4,y5,y6,y7,i0,i1,i2,i3,i4,hal,has⟩:=Zp hls (zI _ _) hj2
   have hpt:jP (lpW w bb) (qq f) f.blocks.length ((xx (qq f) m').length+j) = .pointer (some (J lb (lo+j*8))):=by
    rw[kl hm' hj];rw[hq2]at hp3;injection hp3 with h2;injection h2 with h3 h4;rw[h3,h4]
   rw[hpt];obtain⟨x,hx⟩:=nZ (f.blocks[m'].list[j]);rw[←hx]at y0 y1 y2 y3 y4 y5 y6 y7 hal has
   have hnext:jS k p xs cc ((xx (qq f) m').length+j+1)=JL k p (some h) x:=by
    have hm2:m'<xs[cc].blocks.length:=(by rw[←HF.out];exact hm');have hj3:j<(xs[cc].blocks[m']'hm2).list.length:=(by simp only[←HF.out];exact hj2);have e:=YB (k:=k) (p:=p) hlt hm2 hj3;simp only[←HF.out]at e;rw[e,hst,hx]
   have hlen:x.op=20->x.fn=(k:Int)->p<x.args.length:=hey.out _ (zP hm') x (by rw[hx];exact zP hj2);have hCc:=(hKw.block _ (qd HCk.out) (fun h=>by rcases h with h|h<;>omega)).trans HCk.out;have hPc:=(hKw.block _ (qd HPk.out) (fun h=>by rcases h with h|h<;>omega)).trans HPk.out;have hR1:=(hKw.block _ (qd HR1.out) (fun h=>by rcases h with h|h<;>omega)).trans HR1.out;have hR2:=(hKw.block _ (qd HR2.out) (fun h=>by rcases h with h|h<;>omega)).trans HR2.out;have lbz:=q9 y0;have yK9:W.cell? (J w.heap.size 0)=some (Z k):=(blk hCc).1 0;have zK9:=qd hCc;have z0:∀d os,(grow (redrawn W d) os).cell? (J lb (lo+j*8))=some (Z x.op):=cell_regrown y0;have z6:∀d os,(grow (redrawn W d) os).cell? (J lb (lo+j*8+6))=some (Z x.fn):=cell_regrown y6;have zk9:∀d os,(grow (redrawn W d) os).cell? (J w.heap.size 0)=some (Z k):=cell_regrown yK9
   have haR:JL k p (some h) x=some h->∀Wq,Below W.heap.size W Wq->jz W0.heap.size (fun W W'=>EachSh wk.heap.size g (cc*4) (some (J bb 0)) f.blocks.length cb (lqW w bb) (qq f) (lcW w bb) W->EachSh wk.heap.size g (cc*4) (some (J bb 0)) f.blocks.length cb (lqW w bb) (qq f) (lcW w bb) W') (fun i W=>(∃h:Option Int,jS k p xs cc i=some h/\W.heap[w.heap.size+1+1+1+1]?=some (.cells #[.bool h.isSome] 4 (0,0))/\W.heap[w.heap.size+1+1+1+1+1]?=some (.cells #[Z (h.getD 0)] 3 (0,0)))/\EachSh wk.heap.size g (cc*4) (some (J bb 0)) f.blocks.length cb (lqW w bb) (qq f) (lcW w bb) W/\Kept (fun b=>b=w.heap.size+1+1+1+1\/b=w.heap.size+1+1+1+1+1) W0 W) (fun ct i W=>ct = .ret/\jS k p xs cc (i+1)=none/\W.heap[w.heap.size+1+1]?=some (.cells #[Z 0] 3 (0,0))/\W.heap[w.heap.size+1+1+1]?=some (.cells #[.bool false] 4 (0,0))/\Kept (fun b=>b=w.heap.size+1+1\/b=w.heap.size+1+1+1\/b=w.heap.size+1+1+1+1\/b=w.heap.size+1+1+1+1+1) W0 W) ((xx (qq f) m').length+j) W .normal Wq:=fun h1 Wq hb=>by
    refine⟨⟨hb.size,fun q o _ hq _=>(hb.block q (qd hq)).trans hq⟩,fun h=>h.below hb,⟨h,hnext.trans h1,(hb.block _ (qd hHd)).trans hHd,(hb.block _ (qd hNn)).trans hNn⟩,hSh.below hb,hKp.trans (Kept.of_below hb) (fun _ _ h=>h)⟩
   have hbB:=q8 haR;have hhD:=q8 hnext;have HSh:=q8 hSh;have HKp:=q8 hKp;have hkP:=q8 hHd;have hnV:=q8 hNn;have HPc:=q8 hPc;have hnW:=q8 hR1;have hnX:=q8 hR2;have HAs:=q8 has;have hbW0:W0.heap.size<=W.heap.size:=hKp.size;clear hst hHd hNn hSh hKp hKw hbw hp2 hq2 hp3 hpt hx hnext hCc hPc hR1 hR2 has hls haR b1 y1 y2 y3 y4 y5
   by_cases hop:x.op=20
   rotate_left
   ·have q20:(x.op != 20)=true:=by simp[hop]
    have hid:JL k p (some h) x=some h:=by
     show(if x.op=20/\x.fn=(k:Int)then _ else some h)=_;rw[zQ fun h=>hop h.1]
    clear hlen hop
    gi_wp2
    refine qV bK bK (fun⟨_,_,h⟩=>h.2) bK ?_
    repeat go_big_quiet_step (fail)
    refine wpQuiet_nil ?_;intro Wq hWq
    have hbq:Below W.heap.size W Wq:=by
     obtain⟨p,rfl⟩:=hWq;exact below_regrown _ _ _
    clear hWq
    gi_wp2
    exact hbB.out hid Wq hbq
   have q20:(x.op != 20)=false:=by simp[hop]
   by_cases hfn:x.fn=(k:Int)
   rotate_left
   ·have qk:(x.fn != (k:Int))=true:=by simp[hfn]
    have hid:JL k p (some h) x=some h:=by
     show(if x.op=20/\x.fn=(k:Int)then _ else some h)=_;rw[zQ fun h=>hfn h.2]
    clear hlen hop hfn
    gi_wp2
    refine qV bK bK (fun⟨_,_,h⟩=>h.2) bK ?_
    repeat go_big_quiet_step (fail)
    refine wpQuiet_nil ?_;intro Wq hWq
    have hbq:Below W.heap.size W Wq:=by
     obtain⟨p,rfl⟩:=hWq;exact below_regrown _ _ _
    clear hWq
    gi_wp2
    exact hbB.out hid Wq hbq
   have qk:(x.fn != (k:Int))=false:=(by simp[hfn]);have hpl:=hlen hop hfn;have HOp:=q8 (zh hop hfn);clear hlen hop hfn
   gi_wp2
   refine qV bK bK (fun⟨_,_,h⟩=>h.2) bK ?_
   repeat go_big_quiet_step (fail)
   refine wpQuiet_nil ?_;intro Wq hWq
   have hbq:Below W.heap.size W Wq:=by
    obtain⟨p,rfl⟩:=hWq;exact below_regrown _ _ _
   clear hWq;have y7q:=(hbq.cell (p:=(J lb (lo+j*8+7))) lbz).trans y7;have yP9:Wq.cell? (J (w.heap.size+1) 0)=some (Z p):=(blk ((hbq.block _ (qd HPc.out)).trans HPc.out)).1 0;obtain⟨la,ao,hqa,v0,v1,hv64⟩:=Z1 HAs.out hbq hpl;obtain⟨vr,hvr⟩:=nZ (x.args[p].1);obtain⟨vn,hvn⟩:=nZ (x.args[p].2);have hgd:x.args.getD p (false,0)=(vr,vn):=(by rw[hvr,hvn];simp[List.getD,hpl]);rw[←hvr]at v0;rw[←hvn]at v1;rw[hqa]at y7q
   have hres:JL k p (some h) x=(if vr=true\/(h.isSome=true/\h≠some vn)then none else some (some vn)):=by
    show(if x.op=20/\x.fn=(k:Int)then _ else some h)=_;rw[zZ HOp.out];simp only[hgd]
   have hjv:=q8 hres;have hlx:p<x.args.length:=hpl;have zla:=q9 v0;have zlb:=q9 y7q;have zP9:=q9 yP9;clear hres hgd hvr hvn hqa
   gi_wp2
   refine zi (S:=(fun W':World=>W'.cell? (J lb (lo+j*8+7))=some (.slice (some (J la ao)) x.args.length ca)/\W'.cell? (J (w.heap.size+1) 0)=some (Z p)/\W'.cell? (J la (ao+p*2))=some (.bool vr)/\W'.cell? (J la (ao+p*2+1))=some (Z vn))) bK (fun⟨_,_,h⟩=>h.2) bK 8 ?_;have hSp:(fun W':World=>W'.cell? (J lb (lo+j*8+7))=some (.slice (some (J la ao)) x.args.length ca)/\W'.cell? (J (w.heap.size+1) 0)=some (Z p)/\W'.cell? (J la (ao+p*2))=some (.bool vr)/\W'.cell? (J la (ao+p*2+1))=some (Z vn)) Wq.drew:=⟨y7q,yP9,v0,v1⟩;refine qx 0 42 (.pointer (some (J lb (lo+j*8)))) rfl rfl hSp (fun W' hS'=>by obtain⟨h1,h2,h3,h4⟩:=hS';go_simp) ?_;refine qx 1 43 (.pointer (some (J lb (lo+j*8)))) rfl rfl hSp (fun W' hS'=>by obtain⟨h1,h2,h3,h4⟩:=hS';go_simp) ?_;refine qx 2 44 (.pointer (some (J lb (lo+j*8+7)))) rfl rfl hSp (fun W' hS'=>by obtain⟨h1,h2,h3,h4⟩:=hS';go_simp) ?_;refine qx 3 45 (.slice (some (J la ao)) x.args.length ca) rfl rfl hSp (fun W' hS'=>by obtain⟨h1,h2,h3,h4⟩:=hS';go_simp) ?_;refine qx 4 46 (Z p) rfl rfl hSp (fun W' hS'=>by obtain⟨h1,h2,h3,h4⟩:=hS';go_simp) ?_;refine qx 5 47 (.pointer (some (J la (ao+p*2)))) rfl rfl hSp (fun W' hS'=>by obtain⟨h1,h2,h3,h4⟩:=hS';go_simp) ?_;refine qx 6 48 (.agg #[.bool vr,Z vn]) rfl rfl hSp (fun W' hS'=>by obtain⟨h1,h2,h3,h4⟩:=hS';go_simp) ?_
   have hSa:(fun W':World=>W'.cell? (J lb (lo+j*8+7))=some (.slice (some (J la ao)) x.args.length ca)/\W'.cell? (J (w.heap.size+1) 0)=some (Z p)/\W'.cell? (J la (ao+p*2))=some (.bool vr)/\W'.cell? (J la (ao+p*2+1))=some (Z vn)) (Wq.drew.alloc (.cells #[.bool false,Z 0] 44)):=by
    obtain⟨h1,h2,h3,h4⟩:=hSp;have hb:Below Wq.drew.heap.size Wq.drew (Wq.drew.alloc (.cells #[.bool false,Z 0] 44)):=(by exact bZ);exact⟨(hb.cell (q9 h1)).trans h1,(hb.cell (q9 h2)).trans h2,(hb.cell (q9 h3)).trans h3,(hb.cell (q9 h4)).trans h4⟩
   refine qm (i:=7) bK (qC 12 (.pointer (some (J Wq.drew.heap.size 0))) (Wq.drew.alloc (.cells #[.bool false,Z 0] 44)) rfl rfl rfl (by go_simp) hSa ?_);have hE:=qB Wq.drew (.cells #[.bool false,Z 0] 44)
   have hba:Below Wq.heap.size Wq (Wq.drew.alloc (.cells #[.bool false,Z 0] 44)):=by
    have:Below Wq.drew.heap.size Wq.drew (Wq.drew.alloc (.cells #[.bool false,Z 0] 44)):=(by exact bZ);exact⟨this.os,this.tape,this.output,this.size,this.block⟩
   have hze:Wq.drew.heap.size=Wq.heap.size:=rfl;rw[hze]at hE ⊢;obtain⟨wa,hwa⟩:=nZ (Wq.drew.alloc (.cells #[.bool false,Z 0] 44));rw[←hwa]at hE hba ⊢;clear hwa hSa hSp;obtain⟨ka,fa⟩:=blk hE;have k0:=ka 0;have k1:=ka 1;have zE9:=qd hE;clear ka;refine qm (i:=8) bK (qz ((wa.setCell (J Wq.heap.size 0) (.bool vr)).setCell (J Wq.heap.size 1) (Z vn)) rfl rfl rfl (by go_simp) (fun h=>absurd rfl h) ?_);have hV:((wa.setCell (J Wq.heap.size 0) (.bool vr)).setCell (J Wq.heap.size 1) (Z vn)).heap[Wq.heap.size]?=some (.cells #[.bool vr,Z vn] 44 (0,0)):=qj (qj hE 0 _) 1 _;have hbv:Below Wq.heap.size Wq ((wa.setCell (J Wq.heap.size 0) (.bool vr)).setCell (J Wq.heap.size 1) (Z vn)):=(hba.setCell (p:=(J Wq.heap.size 0)) (zK _) _).setCell (p:=(J Wq.heap.size 1)) (zK _) _;refine⟨by kernel_rfl,?_⟩;obtain⟨wv,hwv⟩:=nZ ((wa.setCell (J Wq.heap.size 0) (.bool vr)).setCell (J Wq.heap.size 1) (Z vn));rw[←hwv]at hV hbv ⊢;clear hwv hE hba k0 k1 zE9 fa;have hbz:Below W.heap.size W wv:=hbq.trans (hbv.mono hbq.size);have hHv:=(hbz.block _ (qd hkP.out)).trans hkP.out;have hNv:=(hbz.block _ (qd hnV.out)).trans hnV.out;have hhE:=(hbz.block _ (qd hnW.out)).trans hnW.out;have hhF:=(hbz.block _ (qd hnX.out)).trans hnX.out;have hKv:Kept (fun b=>b=w.heap.size+1+1+1+1\/b=w.heap.size+1+1+1+1+1) W0 wv:=HKp.out.trans (Kept.of_below hbz) (fun _ _ h=>h);have hnY:=HSh.out.below hbz;have HKv:=q8 hKv;have HHv:=q8 hHv;have HNv:=q8 hNv;have hrI:=q8 hhE;have hrJ:=q8 hhF;have hrK:=q8 hnY;have HBz:=q8 hbz;have e0:wv.cell? (J Wq.heap.size 0)=some (.bool vr):=(blk hV).1 0;have e1:wv.cell? (J Wq.heap.size 1)=some (Z vn):=(blk hV).1 1;have eH:wv.cell? (J (w.heap.size+1+1+1+1) 0)=some (.bool h.isSome):=(blk hHv).1 0;have eN:wv.cell? (J (w.heap.size+1+1+1+1+1) 0)=some (Z (h.getD 0)):=(blk hNv).1 0;have eR1:wv.cell? (J (w.heap.size+1+1) 0)=some (Z 0):=(blk hhE).1 0;have eR2:wv.cell? (J (w.heap.size+1+1+1) 0)=some (.bool false):=(blk hhF).1 0;have zH:=qd hHv;have zN9:=qd hNv;have zR1:=qd hhE;have zR2:=qd hhF;have fH:=(blk hHv).2;have fN:=(blk hNv).2;have fR1:=(blk hhE).2;have fR2:=(blk hhF).2;have zV:=qd hV;clear hHv hNv hhE hhF hnY hKv hbz hV hbv;have hnb:∀b:Nat,b<w.heap.size->b≠w.heap.size+1+1+1+1/\b≠w.heap.size+1+1+1+1+1:=fun b h=>⟨by omega,by omega⟩
   have hhG:JL k p (some h) x=none->jz W0.heap.size (fun W W'=>EachSh wk.heap.size g (cc*4) (some (J bb 0)) f.blocks.length cb (lqW w bb) (qq f) (lcW w bb) W->EachSh wk.heap.size g (cc*4) (some (J bb 0)) f.blocks.length cb (lqW w bb) (qq f) (lcW w bb) W') (fun i W=>(∃h:Option Int,jS k p xs cc i=some h/\W.heap[w.heap.size+1+1+1+1]?=some (.cells #[.bool h.isSome] 4 (0,0))/\W.heap[w.heap.size+1+1+1+1+1]?=some (.cells #[Z (h.getD 0)] 3 (0,0)))/\EachSh wk.heap.size g (cc*4) (some (J bb 0)) f.blocks.length cb (lqW w bb) (qq f) (lcW w bb) W/\Kept (fun b=>b=w.heap.size+1+1+1+1\/b=w.heap.size+1+1+1+1+1) W0 W) (fun ct i W=>ct = .ret/\jS k p xs cc (i+1)=none/\W.heap[w.heap.size+1+1]?=some (.cells #[Z 0] 3 (0,0))/\W.heap[w.heap.size+1+1+1]?=some (.cells #[.bool false] 4 (0,0))/\Kept (fun b=>b=w.heap.size+1+1\/b=w.heap.size+1+1+1\/b=w.heap.size+1+1+1+1\/b=w.heap.size+1+1+1+1+1) W0 W) ((xx (qq f) m').length+j) W .ret ((wv.setCell (J (w.heap.size+1+1) 0) (Z 0)).setCell (J (w.heap.size+1+1+1) 0) (.bool false)):=fun h1=>by
    have hK1:Kept (fun b=>b=w.heap.size+1+1\/b=w.heap.size+1+1+1\/b=w.heap.size+1+1+1+1\/b=w.heap.size+1+1+1+1+1) W0 ((wv.setCell (J (w.heap.size+1+1) 0) (Z 0)).setCell (J (w.heap.size+1+1+1) 0) (.bool false)):=((HKv.out.mono fun _ _ h=>.inr (.inr h)).setCell (p:=(J (w.heap.size+1+1) 0)) (.inl rfl) _).setCell (p:=(J (w.heap.size+1+1+1) 0)) (.inr (.inl rfl)) _;have hK2:Kept (fun b=>b=w.heap.size+1+1\/b=w.heap.size+1+1+1\/b=w.heap.size+1+1+1+1\/b=w.heap.size+1+1+1+1+1) W ((wv.setCell (J (w.heap.size+1+1) 0) (Z 0)).setCell (J (w.heap.size+1+1+1) 0) (.bool false)):=((Kept.of_below HBz.out).setCell (p:=(J (w.heap.size+1+1) 0)) (.inl rfl) _).setCell (p:=(J (w.heap.size+1+1+1) 0)) (.inr (.inl rfl)) _;refine⟨⟨hK2.size,fun q o hq0 hq _=>(hK2.block q (qd hq) (fun e=>by have:=HZ0.out;have:=HZ2.out;rcases e with e|e|e|e<;>omega)).trans hq⟩,rfl,hhD.out.trans h1,?_,?_,hK1⟩
    ·exact(zJ _ _ _ _ (by show w.heap.size+1+1≠w.heap.size+1+1+1;omega)).trans (qj hrI.out 0 (Z 0))
    exact qj ((zJ _ _ _ _ (by show w.heap.size+1+1+1≠w.heap.size+1+1;omega)).trans hrJ.out) 0 (.bool false)
   have hset:JL k p (some h) x=some (some vn)->jz W0.heap.size (fun W W'=>EachSh wk.heap.size g (cc*4) (some (J bb 0)) f.blocks.length cb (lqW w bb) (qq f) (lcW w bb) W->EachSh wk.heap.size g (cc*4) (some (J bb 0)) f.blocks.length cb (lqW w bb) (qq f) (lcW w bb) W') (fun i W=>(∃h:Option Int,jS k p xs cc i=some h/\W.heap[w.heap.size+1+1+1+1]?=some (.cells #[.bool h.isSome] 4 (0,0))/\W.heap[w.heap.size+1+1+1+1+1]?=some (.cells #[Z (h.getD 0)] 3 (0,0)))/\EachSh wk.heap.size g (cc*4) (some (J bb 0)) f.blocks.length cb (lqW w bb) (qq f) (lcW w bb) W/\Kept (fun b=>b=w.heap.size+1+1+1+1\/b=w.heap.size+1+1+1+1+1) W0 W) (fun ct i W=>ct = .ret/\jS k p xs cc (i+1)=none/\W.heap[w.heap.size+1+1]?=some (.cells #[Z 0] 3 (0,0))/\W.heap[w.heap.size+1+1+1]?=some (.cells #[.bool false] 4 (0,0))/\Kept (fun b=>b=w.heap.size+1+1\/b=w.heap.size+1+1+1\/b=w.heap.size+1+1+1+1\/b=w.heap.size+1+1+1+1+1) W0 W) ((xx (qq f) m').length+j) W .normal ((wv.drew.setCell (J (w.heap.size+1+1+1+1) 0) (.bool true)).setCell (J (w.heap.size+1+1+1+1+1) 0) (Z vn)):=fun h1=>by
    have hK1:Kept (fun b=>b=w.heap.size+1+1+1+1\/b=w.heap.size+1+1+1+1+1) W0 ((wv.drew.setCell (J (w.heap.size+1+1+1+1) 0) (.bool true)).setCell (J (w.heap.size+1+1+1+1+1) 0) (Z vn)):=(HKv.out.drew.setCell (p:=(J (w.heap.size+1+1+1+1) 0)) (.inl rfl) _).setCell (p:=(J (w.heap.size+1+1+1+1+1) 0)) (.inr rfl) _;have hK2:Kept (fun b=>b=w.heap.size+1+1+1+1\/b=w.heap.size+1+1+1+1+1) W ((wv.drew.setCell (J (w.heap.size+1+1+1+1) 0) (.bool true)).setCell (J (w.heap.size+1+1+1+1+1) 0) (Z vn)):=((Kept.of_below HBz.out).drew.setCell (p:=(J (w.heap.size+1+1+1+1) 0)) (.inl rfl) _).setCell (p:=(J (w.heap.size+1+1+1+1+1) 0)) (.inr rfl) _;have hKq:Kept (fun b=>b=w.heap.size+1+1+1+1\/b=w.heap.size+1+1+1+1+1) wv ((wv.drew.setCell (J (w.heap.size+1+1+1+1) 0) (.bool true)).setCell (J (w.heap.size+1+1+1+1+1) 0) (Z vn)):=((Kept.refl _ _).drew.setCell (p:=(J (w.heap.size+1+1+1+1) 0)) (.inl rfl) _).setCell (p:=(J (w.heap.size+1+1+1+1+1) 0)) (.inr rfl) _
    have hsh:∀W',Kept (fun b=>b=w.heap.size+1+1+1+1\/b=w.heap.size+1+1+1+1+1) W' ((wv.drew.setCell (J (w.heap.size+1+1+1+1) 0) (.bool true)).setCell (J (w.heap.size+1+1+1+1+1) 0) (Z vn))->EachSh wk.heap.size g (cc*4) (some (J bb 0)) f.blocks.length cb (lqW w bb) (qq f) (lcW w bb) W'->EachSh wk.heap.size g (cc*4) (some (J bb 0)) f.blocks.length cb (lqW w bb) (qq f) (lcW w bb) ((wv.drew.setCell (J (w.heap.size+1+1+1+1) 0) (.bool true)).setCell (J (w.heap.size+1+1+1+1+1) 0) (Z vn)):=fun W' hk hs=>hs.other fun b o v hc hb=>(zN (a:=(J b o)) (hk.block b (q9 hc) (fun e=>by
     have:=HZ2.out;rcases hb with rfl|rfl|⟨o,ho⟩
     ·rcases e with e|e<;>omega
     ·rcases e with e|e<;>omega
     injection ho with ho;injection ho with ho
     rcases e with e|e<;>omega))).trans hc
    refine⟨⟨hK2.size,fun q o hq0 hq _=>(hK2.block q (qd hq) (fun e=>by have:=HZ0.out;have:=HZ2.out;rcases e with e|e<;>omega)).trans hq⟩,hsh W hK2,⟨some vn,hhD.out.trans h1,?_,?_⟩,hsh wv hKq hrK.out,hK1⟩
    ·exact(zJ _ _ _ _ (by show w.heap.size+1+1+1+1≠w.heap.size+1+1+1+1+1;omega)).trans (qj HHv.out 0 (.bool true))
    exact qj ((zJ _ _ _ _ (by show w.heap.size+1+1+1+1+1≠w.heap.size+1+1+1+1;omega)).trans HNv.out) 0 (Z vn)
   have hhH:=q8 hhG;have hdZ:=q8 hset;have HE1:Hid ((wv.drew.setCell (J (w.heap.size+1+1+1+1) 0) (.bool true)).cell? (J Wq.heap.size 1)=some (Z vn)):=q8 ((zN (a:=(J Wq.heap.size 1)) (zJ _ _ _ _ (by show Wq.heap.size≠w.heap.size+1+1+1+1;have:=qd hkP.out;have:=hbq.size;omega))).trans e1);have HEN:Hid ((wv.drew.setCell (J (w.heap.size+1+1+1+1) 0) (.bool true)).cell? (J (w.heap.size+1+1+1+1+1) 0)=some (Z (h.getD 0))):=q8 ((zN (a:=(J (w.heap.size+1+1+1+1+1) 0)) (zJ _ _ _ _ (by show w.heap.size+1+1+1+1+1≠w.heap.size+1+1+1+1;omega))).trans eN);have HFN:=q8 (blk ((zJ wv.drew ⟨w.heap.size+1+1+1+1,0,none⟩ (.bool true) _ (by show w.heap.size+1+1+1+1+1≠w.heap.size+1+1+1+1;omega)).trans HNv.out)).2;clear hhG hset hnb;cases vr with
   | true=>
    gi_wp2
    exact hhH.out (by rw[hjv.out];simp)
   | false=>
    cases h with
    | none=>
     have hq:=q8 (hjv.out.trans (by simp:_=some (some vn)))
     gi_wp2
     have hSp:(fun W':World=>W'.cell? (J Wq.heap.size 1)=some (Z vn)) wv.drew:=e1;refine zi (S:=(fun W':World=>W'.cell? (J Wq.heap.size 1)=some (Z vn))) bK (fun⟨_,_,h⟩=>h.2) bK 3 ?_;refine qx 0 60 (.pointer (some (J Wq.heap.size 1))) rfl rfl hSp (fun W' hS'=>by go_simp) ?_;refine qx 1 61 (Z vn) rfl rfl hSp (fun W' hS'=>by go_simp) ?_;have eHd:wv.drew.cell? (J (w.heap.size+1+1+1+1) 0)=_:=eH;have zHd:w.heap.size+1+1+1+1<wv.drew.heap.size:=zH;refine qm (i:=2) bK (qz (wv.drew.setCell (J (w.heap.size+1+1+1+1) 0) (.bool true)) rfl rfl rfl (by go_simp) (fun _=>HE1.out) ?_);obtain⟨wx,hwx⟩:=nZ (wv.drew.setCell (J (w.heap.size+1+1+1+1) 0) (.bool true));have eNx:wx.cell? (J (w.heap.size+1+1+1+1+1) 0)=some (Z 0):=(by rw[hwx];exact HEN.out);have zNx:=q9 eNx;have fNx:_:=HFN.out;rw[←hwx]at fNx ⊢;refine qm (i:=3) bK (qz (wx.setCell (J (w.heap.size+1+1+1+1+1) 0) (Z vn)) rfl rfl rfl (by go_simp) (fun h=>absurd rfl h) ?_);refine⟨by kernel_rfl,?_⟩;rw[hwx]
     gi_wp2
     exact hdZ.out hq.out
    | some n=>
     by_cases hne:vn=n
     rotate_left
     ·have qn:(vn != n)=true:=by simp[hne]
      gi_wp2
      exact hhH.out (by rw[hjv.out,zZ];exact .inr ⟨rfl,fun e=>hne (by injection e with e;exact e.symm)⟩)
     subst hne;have qn:(vn != vn)=false:=(by simp);have hq:=q8 (hjv.out.trans (by simp:_=some (some vn)))
     gi_wp2
     have hSp:(fun W':World=>W'.cell? (J Wq.heap.size 1)=some (Z vn)) wv.drew:=e1;refine zi (S:=(fun W':World=>W'.cell? (J Wq.heap.size 1)=some (Z vn))) bK (fun⟨_,_,h⟩=>h.2) bK 3 ?_;refine qx 0 60 (.pointer (some (J Wq.heap.size 1))) rfl rfl hSp (fun W' hS'=>by go_simp) ?_;refine qx 1 61 (Z vn) rfl rfl hSp (fun W' hS'=>by go_simp) ?_;have eHd:wv.drew.cell? (J (w.heap.size+1+1+1+1) 0)=_:=eH;have zHd:w.heap.size+1+1+1+1<wv.drew.heap.size:=zH;refine qm (i:=2) bK (qz (wv.drew.setCell (J (w.heap.size+1+1+1+1) 0) (.bool true)) rfl rfl rfl (by go_simp) (fun _=>HE1.out) ?_);obtain⟨wx,hwx⟩:=nZ (wv.drew.setCell (J (w.heap.size+1+1+1+1) 0) (.bool true));have eNx:wx.cell? (J (w.heap.size+1+1+1+1+1) 0)=some (Z vn):=(by rw[hwx];exact HEN.out);have zNx:=q9 eNx;have fNx:_:=HFN.out;rw[←hwx]at fNx ⊢;refine qm (i:=3) bK (qz (wx.setCell (J (w.heap.size+1+1+1+1+1) 0) (Z vn)) rfl rfl rfl (by go_simp) (fun h=>absurd rfl h) ?_);refine⟨by kernel_rfl,?_⟩;rw[hwx]
     gi_wp2
     exact hdZ.out hq.out
  case done=>
   rintro D W hD ⟨⟨h,hst,hHd,hNn⟩,hSh,hKp⟩ hDl
   have hjQ:jS k p xs (cc+1) 0=some h:=by
    rw[alwTo_fn hlt (i:=(xx (qq f) f.blocks.length).length) (by rw[←HF.out,all_len];exact zK _)];exact hst
   have hKw:Kept (fun b=>b=w.heap.size+1+1+1+1\/b=w.heap.size+1+1+1+1+1) wk W:=(Kept.of_below HB1.out).trans hKp fun _ _ h=>h;have hfP:=q8 hjQ;have hrL:=q8 hHd;have hrM:=q8 hNn;have hhB:=q8 hKw;have HDl:=q8 hDl;clear hst hHd hNn hSh hKp hjQ hKw hDl
   go_wp2_with fail
   refine⟨⟨cc+1,D::Ds,⟨by omega,List.nodup_cons.2 ⟨fun h=>?_,HN.out⟩,fun E hE=>?_,⟨h,hfP.out,hrL.out,hrM.out⟩,HK.out.trans hhB.out fun _ _ h=>h⟩,rfl,?_⟩,?_⟩
   ·have:=(HD.out D h).2;have:=qd this;have:=HZ0.out;omega
   ·rcases yC.1 hE with rfl|hE
    ·exact⟨by have:=HZ0.out;omega,HDl.out⟩
    obtain⟨d1,d2⟩:=HD.out E hE;exact⟨d1,(hhB.out.block _ (qd d2) (fun h=>by have:=HZ2.out;exact h.elim (fun e=>by omega) (fun e=>by omega))).trans d2⟩
   ·exact⟨rfl,rfl,rfl,rfl,rfl,rfl,rfl,rfl,rfl,by show Z _=_;go_num⟩
   simp[intOf];omega
  case stop=>
   rintro D ct i W hD hi ⟨rfl,hst,hR1,hR2,hKp⟩ hDl;have hal:jy k p xs=none:=YC hlt hst;have hKw:Kept (fun b=>b=w.heap.size+1+1\/b=w.heap.size+1+1+1\/b=w.heap.size+1+1+1+1\/b=w.heap.size+1+1+1+1+1) wk W:=(Kept.of_below HB1.out).trans hKp fun _ _ h=>h;have hBf:Below w.heap.size w W:=HBk.out.trans (hKw.below HBk.out.size fun b h=>by rcases h with h|h|h|h<;>omega)
   gi_wp2
   show LeavesInM _ _ _ _ _ _ (X8 (D::Ds)) .returning _
   have hnm:∀E,E∈D::Ds->w2.heap.size<=E/\W.heap[E]?=some (.deferred (some [])):=fun E hE=>by
    rcases yC.1 hE with rfl|hE
    ·exact⟨by have:=HZ0.out;omega,hDl⟩
    obtain⟨d1,d2⟩:=HD.out E hE;exact⟨d1,(hKw.block _ (qd d2) (fun h=>by have:=HZ2.out;rcases h with h|h|h|h<;>omega)).trans d2⟩
   refine xK w2.heap.size (D::Ds) W (List.nodup_cons.2 ⟨fun h=>by have:=qd (HD.out D h).2;have:=HZ0.out;omega,HN.out⟩) hnm (fun w' h1 h2 h3 h4 h5=>?_);have hne:∀b,b<w2.heap.size->b∉D::Ds:=fun b hb h=>by have:=(hnm b h).1;omega
   have q1:w'.cell? (J (w.heap.size+1+1) 0)=some (Z 0):=(blk ((h5 _ (hne _ (by have:=HZ2.out;omega))).trans hR1)).1 0;have q2:w'.cell? (J (w.heap.size+1+1+1) 0)=some (.bool false):=(blk ((h5 _ (hne _ (by have:=HZ2.out;omega))).trans hR2)).1 0;refine⟨.tuple #[Z 0,.bool false],?_,by rw[hal];rfl,?_⟩
   ·simp[results,Tryz.results20,go_sem,q1,q2]
   exact⟨h1.trans hBf.os,h2.trans hBf.tape,h3.trans hBf.output,yv hBf.size h4,fun b hb=>(h5 b (hne b (by have:=HZ2.out;omega))).trans (hBf.block b hb)⟩
end Go.Proofs.YtgjjhadbjmcnpaaGreatDoor
namespace Go.Proofs.YtgjjhadbjmcnpaaGreatDoor
open Go.RowKit

def xS (f:FunL):Bool:=decide (40<f.blocks.length) || (decide (300<xu f) || decide (100<f.regs))
def xD (xs:List FunL):Int×Int:=match xs.findIdx? xS with
 | none=>(0,0)
 | some k=>(10,k)
theorem J7 {xs:List FunL} {k:Nat} (hk:k<xs.length) (h:xS xs[k]=true) (hb:∀j (hj:j<xs.length),j<k->xS xs[j]=false):xD xs=(10,(k:Int)):=by
 unfold xD;rw[List.findIdx?_eq_some_iff_getElem.2 ⟨hk,h,fun j hj=>by simp[hb j bO hj]⟩]
theorem Xq {xs:List FunL} (hb:∀j (hj:j<xs.length),xS xs[j]=false):xD xs=(0,0):=by
 unfold xD;rw[List.findIdx?_eq_none_iff.2 fun x hx=>?_];obtain⟨i,hi,rfl⟩:=yp.1 hx;exact hb i hi

theorem J8 (f:FunL) (bp:Option Addr) (bc:Nat) (w:World) (h40:f.blocks.length<=40) (hb:SliceAt w 6 (BlkR w) bp f.blocks) :
  Calls Tryz.prog 55 #[.agg #[.string f.name,Z f.params,Z f.regs,.slice bp f.blocks.length bc]] w fun e w'=>e = .returned (Z (xu f))/\Below w.heap.size w w':=by
 have HB:=q8 hb;clear hb
 go_enter Tryz.func55,Tryz.ntmps55
 go_wp2
 go_loopw [3,9] (fun m i wr=>∃(k:Nat) (x:Int),k<=f.blocks.length/\i=Z k/\m=Z x/\(x=jZ f k/\jZ f k<=k*10000000000000)/\Below (w.heap.size+1) (w.alloc (.cells #[.string f.name,Z f.params,Z f.regs,.slice bp f.blocks.length bc] 38)) wr) (fun _ i _=>f.blocks.length - (intOf i).toNat)
 case atStart=>exact⟨0,0,by omega,rfl,rfl,by simp[jZ],zI _ _⟩
 case round=>
  obtain⟨k,x,hk,rfl,rfl,hV,hb⟩:=hrel;have HV:=q8 hV;have HBw:=q8 hb;have HBx:Hid (Below w.heap.size w wr):=((zI _ _).alloc (zK _) _).trans (hb.mono bO);have hz:w.heap.size<wr.heap.size:=by have:=hb.size;simp at this;omega
  obtain⟨hcc,hcf⟩:=blk (qg hb bO (qB w _));clear hV hb
  by_cases hlt:k<f.blocks.length
  ·obtain⟨b2,o2,q1,c1,q2,c2,q3,c3,hp,e0,e1,e2,e3,e4,e5,_,_,hl1,hl2,_,_,_,_⟩:=vw HB.out HBx.out hlt;subst hp
   go_wp2
   refine⟨⟨k+1,_,by omega,by go_num,rfl,?_,?_⟩,by simp[intOf];omega⟩
   ·obtain⟨h1,h2⟩:=HV.out;rw[Qa f k hlt];refine⟨?_,by omega⟩;rw[IntWalk.wrap64_in _ ⟨by omega,by omega⟩,h1];omega
   exact HBw.out.alloc bO _
  have HM:Hid (x=xu f):=by
   show _=_;have:=HV.out.1;rw[show k=f.blocks.length by omega,QN]at this;exact this
  go_wp2
  go_ret
  refine⟨?_,HBx.out⟩;rw[HM.out];rfl

theorem fits_any (xs:List FunL) (q1 fp:Option Addr) (n1 c1 fc:Nat) (w:World) (hn:xs.length<=140737488355328) (hF:SliceAt w 4 (FunR w) fp xs) :
  Calls Tryz.prog 22 #[.agg #[.slice q1 n1 c1,.slice fp xs.length fc]] w fun e w'=>e = .returned (.agg #[Z (xD xs).1,Z (xD xs).2])/\Below w.heap.size w w':=by
 have HF:=q8 hF;clear hF
 go_enter Tryz.func22,Tryz.ntmps22
 go_wp2
 go_loopw [8] (fun i wr=>∃k:Nat,k<=xs.length/\i=Z k/\(∀j (h:j<xs.length),j<k->xS xs[j]=false)/\Below (w.heap.size+1+1) ((w.alloc (.cells #[.slice q1 n1 c1,.slice fp xs.length fc] 25)).alloc (.cells #[Z 0,Z 0] 27)) wr) (fun i _=>xs.length - (intOf i).toNat)
 case atStart=>exact⟨0,by omega,rfl,fun j _ h=>by omega,zI _ _⟩
 case round=>
  obtain⟨k,hk,rfl,hV,hb⟩:=hrel;have HV:=q8 hV;have HBw:=q8 hb;have hz:w.heap.size+1<wr.heap.size:=by have:=hb.size;simp at this;omega
  have hbw:Below w.heap.size w wr:=(((zI _ _).alloc (zK _) _).alloc bV _).trans (hb.mono bO);have HBx:=q8 hbw;obtain⟨hcc,hcf⟩:=blk (qg hb bO (qh (qB _ _)));have hrr:=qg hb (k:=w.heap.size+1) bO (qr bV);obtain⟨hrc,hrf⟩:=blk hrr;clear hV hb hbw
  by_cases hlt:k<xs.length
  rotate_left
  ·have HE:Hid (xD xs=(0,0)):=Xq fun j hj=>HV.out j hj bO
   go_wp2_with fail
   refine zk (v:=.agg #[Z 0,Z 0]) ?_ rfl ⟨by rw[HE.out],?_⟩
   ·have hR:=qj (qj hrr 0 (Z 0)) 1 (Z 0);obtain⟨hh,_⟩:=blk hR;have h0:=hh 0;have h1:=hh 1;simp[results,Tryz.results22,go_sem,h0,h1]
   exact(HBx.out.setCell (p:=(J (w.heap.size+1) 0)) (Nat.le_succ _) _).setCell (p:=(J (w.heap.size+1) 1)) (Nat.le_succ _) _
  obtain⟨b2,o2,q,c,hp,e0,e1,e2,e3,_,i1,i2,hbl,hbs⟩:=Q1 HF.out HBx.out hlt;subst hp;have HS:=q8 hbs;clear hbs;have HRr:=q8 hrr;clear hrr
  by_cases h1:40<xs[k].blocks.length
  ·have hm:xS xs[k]=true:=(by simp[xS,h1]);have HE:Hid (xD xs=(10,(k:Int))):=J7 hlt hm fun j hj hjk=>HV.out j hj hjk;clear hm
   go_wp2_with fail
   refine zk (v:=.agg #[Z 10,Z k]) ?_ rfl ⟨by rw[HE.out],?_⟩
   ·have hR:=qj (qj HRr.out 0 (Z 10)) 1 (Z k);obtain⟨hh,_⟩:=blk (qh hR (o:=.cells #[.string xs[k].name,Z xs[k].params,Z xs[k].regs,.slice q xs[k].blocks.length c] 38));have h0:=hh 0;have h1:=hh 1;simp[results,Tryz.results22,go_sem,h0,h1]
   exact((HBx.out.setCell (p:=(J (w.heap.size+1) 0)) (Nat.le_succ _) _).setCell (p:=(J (w.heap.size+1) 1)) (Nat.le_succ _) _).alloc bW _
  have hS1:SliceAt (wr.alloc (.cells #[.string xs[k].name,Z xs[k].params,Z xs[k].regs,.slice q xs[k].blocks.length c] 38)) 6 (BlkR (wr.alloc (.cells #[.string xs[k].name,Z xs[k].params,Z xs[k].regs,.slice q xs[k].blocks.length c] 38))) q xs[k].blocks:=HS.out.mono ((zI _ _).alloc (zK _) _) bO fun _ _ h=>h.below ((zI _ _).alloc (zK _) _);have HS1:=q8 hS1;clear hS1
  by_cases h2:300<xu xs[k]
  ·have hm:xS xs[k]=true:=(by simp[xS,h2]);have HE:Hid (xD xs=(10,(k:Int))):=J7 hlt hm fun j hj hjk=>HV.out j hj hjk;clear hm
   go_wp2_with (go_at_call 55;refine(J8 xs[k] _ _ _ bO HS1.out).mono ?_;rintro e w1 ⟨rfl,hb1⟩;have hRw:=qg hb1 (k:=w.heap.size+1) bW (qh HRr.out);obtain⟨hnZ,ho4⟩:=blk hRw;have zr1:=qd hRw;have hFw:=qg hb1 (k:=wr.heap.size) bV (qB _ _);obtain⟨hfc,hff⟩:=blk hFw;have zf:=qd hFw;have HB1:=q8 hb1;have HRw:=q8 hRw;clear hb1 hRw hFw)
   refine zk (v:=.agg #[Z 10,Z k]) ?_ rfl ⟨by rw[HE.out],?_⟩
   ·obtain⟨hh,_⟩:=blk (qj (qj HRw.out 0 (Z 10)) 1 (Z k));have h0:=hh 0;have h1:=hh 1;simp[results,Tryz.results22,go_sem,h0,h1]
   have hbz:Below w.heap.size w w1:=(HBx.out.alloc bO (.cells #[.string xs[k].name,Z xs[k].params,Z xs[k].regs,.slice q xs[k].blocks.length c] 38)).trans (HB1.out.mono bW);exact(hbz.setCell (p:=(J (w.heap.size+1) 0)) (Nat.le_succ _) _).setCell (p:=(J (w.heap.size+1) 1)) (Nat.le_succ _) _
  by_cases h3:100<xs[k].regs
  ·have hm:xS xs[k]=true:=(by simp[xS,h3]);have HE:Hid (xD xs=(10,(k:Int))):=J7 hlt hm fun j hj hjk=>HV.out j hj hjk;clear hm
   go_wp2_with (go_at_call 55;refine(J8 xs[k] _ _ _ bO HS1.out).mono ?_;rintro e w1 ⟨rfl,hb1⟩;have hRw:=qg hb1 (k:=w.heap.size+1) bW (qh HRr.out);obtain⟨hnZ,ho4⟩:=blk hRw;have zr1:=qd hRw;have hFw:=qg hb1 (k:=wr.heap.size) bV (qB _ _);obtain⟨hfc,hff⟩:=blk hFw;have zf:=qd hFw;have HB1:=q8 hb1;have HRw:=q8 hRw;clear hb1 hRw hFw)
   refine zk (v:=.agg #[Z 10,Z k]) ?_ rfl ⟨by rw[HE.out],?_⟩
   ·obtain⟨hh,_⟩:=blk (qj (qj HRw.out 0 (Z 10)) 1 (Z k));have h0:=hh 0;have h1:=hh 1;simp[results,Tryz.results22,go_sem,h0,h1]
   have hbz:Below w.heap.size w w1:=(HBx.out.alloc bO (.cells #[.string xs[k].name,Z xs[k].params,Z xs[k].regs,.slice q xs[k].blocks.length c] 38)).trans (HB1.out.mono bW);exact(hbz.setCell (p:=(J (w.heap.size+1) 0)) (Nat.le_succ _) _).setCell (p:=(J (w.heap.size+1) 1)) (Nat.le_succ _) _
  have hm:xS xs[k]=false:=by simp[xS];omega
  have HM:=q8 hm;clear hm
  go_wp2_with (go_at_call 55;refine(J8 xs[k] _ _ _ bO HS1.out).mono ?_;rintro e w1 ⟨rfl,hb1⟩;have hRw:=qg hb1 (k:=w.heap.size+1) bW (qh HRr.out);obtain⟨hnZ,ho4⟩:=blk hRw;have zr1:=qd hRw;have hFw:=qg hb1 (k:=wr.heap.size) bV (qB _ _);obtain⟨hfc,hff⟩:=blk hFw;have zf:=qd hFw;have HB1:=q8 hb1;have HRw:=q8 hRw;clear hb1 hRw hFw)
  refine⟨⟨k+1,by omega,by go_num,fun j hj hjk=>?_,(HBw.out.alloc bO (.cells #[.string xs[k].name,Z xs[k].params,Z xs[k].regs,.slice q xs[k].blocks.length c] 38)).trans (HB1.out.mono bW)⟩,by simp[intOf];omega⟩
  by_cases hj2:j<k
  ·exact HV.out j hj hj2
  obtain rfl:j=k:=by omega
  exact HM.out
end Go.Proofs.YtgjjhadbjmcnpaaGreatDoor
