/-
  Plain: dom.TreeOf: rounds until nothing changes.
-/
import Derived.Test.YtbnnhmcloecijaaGreatDoorJDomH
import Derived.Shelf.Slices.Reverse
set_option maxRecDepth 100000
set_option maxHeartbeats 16000000
namespace Go.Proofs.YtbnnhmcloecijaaGreatDoor

def Beh (tos:Nat→List Int) (P:Nat→Prop):List Nat→Prop
 | []=>True
 | x::l=>(P x∨∃p∈l,(x:Int)∈tos p)∧Beh tos P l
theorem Beh.append {tos:Nat→List Int} {P:Nat→Prop}:∀{l m:List Nat},Beh tos P l→Beh tos P m→Beh tos P (l++m)
 | [],_,_,h=>h
 | _::_,_,h,k=>⟨h.1.imp id fun ⟨p,hp,e⟩=>⟨p,yE _ hp,e⟩,h.2.append k⟩
theorem Beh.mono {tos:Nat→List Int} {P Q:Nat→Prop} (hq:∀x,P x→Q x):∀{l:List Nat},Beh tos P l→Beh tos Q l
 | [],_=>trivial
 | _::_,h=>⟨h.1.imp (hq _) id,h.2.mono hq⟩
theorem Beh.snoc {tos:Nat→List Int} {b:Nat}:∀{l:List Nat},Beh tos (fun x=>(x:Int)∈tos b) l→Beh tos (fun x=>x=b) (l++[b])
 | [],_=>⟨.inl rfl,trivial⟩
 | _::l,h=>⟨.inr (h.1.elim (fun e=>⟨b,by simp,e⟩) fun ⟨p,hp,e⟩=>⟨p,yE _ hp,e⟩),h.2.snoc⟩

structure VisP (n:Nat) (tos:Nat→List Int) (P:Nat→Prop) (s s':PostS) (l:List Nat):Prop where
 left:s'.2=s.2++l.map fun (x:Nat)=>(x:Int)
 seen:∀j,s'.1 j=true↔s.1 j=true∨j∈l
 fresh:∀j∈l,s.1 j=false∧j<n
 once:l.Nodup
 beh:Beh tos P l
theorem VisP.refl {n:Nat} {tos:Nat→List Int} {P:Nat→Prop} (s:PostS):VisP n tos P s s []:=⟨by simp,by simp,by simp,List.nodup_nil,trivial⟩
theorem VisP.trans {n:Nat} {tos:Nat→List Int} {P:Nat→Prop} {a b c:PostS} {l m:List Nat} (h:VisP n tos P a b l) (k:VisP n tos P b c m):VisP n tos P a c (l++m) where
 left:=by rw [k.left,h.left,yW,yF]
 seen:=fun j=>by rw [k.seen,h.seen,yH,or_assoc]
 fresh:=fun j hj=>by
  rcases yH.1 hj with g|g
  ·exact h.fresh j g
  obtain ⟨h1,h2⟩:=k.fresh j g
  refine ⟨?_,h2⟩
  cases e:a.1 j with
  | false=>rfl
  | true=>rw [(h.seen j).2 (.inl e)] at h1;cases h1
 once:=List.nodup_append.2 ⟨h.once,k.once,fun x hx y hy e=>by
  subst e
  have h1:=(k.fresh x hy).1
  rw [(h.seen x).2 (.inr hx)] at h1
  cases h1⟩
 beh:=h.beh.append k.beh
theorem VisP.mono {n:Nat} {tos:Nat→List Int} {P Q:Nat→Prop} {a b:PostS} {l:List Nat} (h:VisP n tos P a b l) (hq:∀x,P x→Q x):VisP n tos Q a b l:=⟨h.left,h.seen,h.fresh,h.once,h.beh.mono hq⟩
theorem VisP.up {n:Nat} {tos:Nat→List Int} {P:Nat→Prop} {a b:PostS} {l:List Nat} (h:VisP n tos P a b l):j4 n b.1≤j4 n a.1:=QW fun j e=>(h.seen j).2 (.inl e)

theorem visTo_p {n:Nat} {tos:Nat→List Int} {rec:Nat→PostS→PostS} {xs:List Int} (hx:∀x∈xs,0≤x∧x<(n:Int)) {s:PostS}
  (h:∀b s',b<n→s'.1 b=false→j4 n s'.1≤j4 n s.1→∃l,VisP n tos (fun x=>x=b) s' (rec b s') l):∀i,i≤xs.length→∃l,VisP n tos (fun x=>(x:Int)∈xs) s (xL rec xs s i) l
 | 0,_=>⟨[],VisP.refl s⟩
 | i+1,hi=>by
  obtain ⟨l,ih⟩:=visTo_p hx h i (by omega)
  show ∃l,VisP n tos _ s (xD rec (xL rec xs s i) (xs.getD (xs.length - 1 - i) 0)) l
  have hk:xs.length - 1 - i<xs.length:=by omega
  have hm:=hx _ (zP hk)
  have hg:xs.getD (xs.length - 1 - i) 0=xs[xs.length - 1 - i]:=by
   rw [yO,zj hk];rfl
  rw [hg]
  unfold xD
  cases e:(xL rec xs s i).1 (xs[xs.length - 1 - i]).toNat
  ·obtain ⟨m,h2⟩:=h (xs[xs.length - 1 - i]).toNat _ (by omega) e ih.up
   refine ⟨l++m,ih.trans (h2.mono fun x hxe=>?_)⟩
   have:(x:Int)=xs[xs.length - 1 - i]:=by omega
   rw [this]
   exact zP hk
  exact ⟨l,ih⟩
theorem Yb {n:Nat} {tos:Nat→List Int} (hT:∀b,b<n→∀x∈tos b,0≤x∧x<(n:Int)):∀(c b:Nat) (s:PostS),j4 n s.1<c→b<n→s.1 b=false→∃l,VisP n tos (fun x=>x=b) s (vQ tos c b s) (l++[b])
 | 0,_,_,h,_,_=>by omega
 | c+1,b,s,hc,hb,hs=>by
  have h1:=vK (n:=n) hb hs
  obtain ⟨l,h2⟩:=visTo_p (n:=n) (tos:=tos) (rec:=vQ tos c) (xs:=tos b) (hT b hb) (s:=xZ b s) (fun b' s' hb' h' hle=>by
   obtain ⟨l,h⟩:=Yb hT c b' s' (by omega) hb' h'
   exact ⟨_,h⟩) (tos b).length (zK _)
  have hfr:∀j∈l,j≠b∧s.1 j=false∧j<n:=fun j hj=>by
   obtain ⟨h3,h4⟩:=h2.fresh j hj
   have h5:(if j=b then true else s.1 j)=false:=h3
   by_cases e:j=b
   ·rw [zZ e] at h5;cases h5
   rw [zQ e] at h5
   exact ⟨e,h5,h4⟩
  refine ⟨l,?_,fun j=>?_,fun j hj=>?_,?_,h2.beh.snoc⟩
  ·show (xL (vQ tos c) (tos b) (xZ b s) (tos b).length).2++[(b:Int)]=_
   rw [h2.left,yW,←yF]
   rfl
  ·show (xL (vQ tos c) (tos b) (xZ b s) (tos b).length).1 j=true↔_
   rw [h2.seen]
   show (if j=b then true else s.1 j)=true∨j∈l↔_
   by_cases e:j=b
   ·simp [e]
   simp [e]
  ·rcases yH.1 hj with g|g
   ·exact (hfr j g).2
   rw [yI] at g
   subst g
   exact ⟨hs,hb⟩
  refine List.nodup_append.2 ⟨h2.once,by simp,fun x hx y hy e=>?_⟩
  rw [yI] at hy
  exact (hfr x hx).1 (e.trans hy)

theorem postL_is {bs:List BlkL} (h0:0<bs.length) (hT:∀b,b<bs.length→∀x∈tosB bs b,0≤x∧x<(bs.length:Int)) :
  ∃l:List Nat,vv bs=(l++[0]).map (fun (x:Nat)=>(x:Int))∧(l++[0]).Nodup∧(∀x∈l++[0],x<bs.length)∧Beh (tosB bs) (fun x=>x=0) (l++[0]):=by
 obtain ⟨l,h⟩:=Yb (n:=bs.length) hT (bs.length+1) 0 (fun _=>false,[]) (Nat.lt_succ_of_le (k5 _ _)) h0 rfl
 refine ⟨l,?_,h.once,fun x hx=>(h.fresh x hx).2,h.beh⟩
 have:=h.left
 unfold vv
 simpa using this
end Go.Proofs.YtbnnhmcloecijaaGreatDoor
namespace Go.Proofs
open Go.Shelf Go.Sort Go.RowKit Go.Lib
def Tryz.lays112_ren:Go.Shelf.Ren:=⟨fun|112=>115|n=>n,fun|28=>41|3=>3|0=>0|4=>4|n=>n,fun|n=>n⟩
theorem Tryz.lays112:Go.Proofs.Lays.n112 Tryz.prog Tryz.lays112_ren:={
 mixed:=by kernel_rfl
 f112:=Tryz.func115.trans (congrArg some (by kernel_rfl))
 t0:=Tryz.underlying0
 a0:=Tryz.isAgg0
 z0:=Tryz.sizeOf0
 v0:=Tryz.zeroValue0
 t3:=Tryz.underlying3
 a3:=Tryz.isAgg3
 z3:=Tryz.sizeOf3
 v3:=Tryz.zeroValue3
 t4:=Tryz.underlying4
 a4:=Tryz.isAgg4
 z4:=Tryz.sizeOf4
 v4:=Tryz.zeroValue4
 t28:=Tryz.underlying41
 a28:=Tryz.isAgg41
 z28:=Tryz.sizeOf41
 v28:=Tryz.zeroValue41 }
end Go.Proofs
namespace Go.Proofs.YtbnnhmcloecijaaGreatDoor
open Go.RowKit Go.Shelf Go.Lib Go.Sort

theorem Kq (B:Nat) (p:Option Addr) (c:Nat) (zs:List Int) (n:Nat) (w:World) (h:w.ownsRow B 3 1 (.slice p n c) n (zs.map (.int .i64))) (hn:n≤1000000) :
  Calls Tryz.prog 115 #[.slice p n c] w fun e w'=>e = .returned (.tuple #[])∧w'.ownsRow B 3 1 (.slice p n c) n (zs.reverse.map (.int .i64))∧w.grownBy w' (Value.slice p n c).ownBlock:=by
 by_cases hv:(Value.slice p n c) = .slice none 0 0
 ·cases hv
  have hz:zs=[]:=by have:=h.1;simpa using this
  subst hz
  refine (Any.slices_Reverse_int_empty Tryz.lays112 none 0 w).mono ?_
  rintro e w' ⟨rfl,rfl⟩
  exact ⟨rfl,(by simpa using h),⟨rfl,rfl,rfl,zK _,fun _ _ _=>rfl⟩⟩
 obtain ⟨g,cap,hg,hb,hlt,hc,hm,hl,hH⟩:=holds_of_ownsRow h hv
 cases hg
 subst hl
 refine (Any.slices_Reverse_int Tryz.lays112 g 0 c zs w hH (by omega)).mono ?_
 rintro e w' ⟨rfl,q,rfl⟩
 have h1:=ownsRow_putRow (ys:=zs.reverse) (q:=q) (k:=zs.length) h (by simp) (zK _)
 have e1:zs.reverse.take zs.length=zs.reverse:=List.take_of_length_le (by simp)
 rw [e1] at h1
 exact ⟨rfl,h1,Zj⟩

def jG (bs:List BlkL):List Int:=(vv bs).reverse

theorem Qm (f:FunL) (fp:Option Addr) (fc:Nat) (w:World) (hn:0<f.blocks.length) (hl:f.blocks.length≤100000) (h2:∀k (h:k<f.blocks.length),f.blocks[k].fin.to.length≤2) (hT:∀b,b<f.blocks.length→∀x∈tosB f.blocks b,0≤x∧x<(f.blocks.length:Int)) (hF:SliceAt w 6 (BlkR w) fp f.blocks) (hpl:(vv f.blocks).length≤1000000) :
  Calls Tryz.prog 65 #[.agg #[.string f.name,.int .i64 f.params,.int .i64 f.regs,.slice fp f.blocks.length fc]] w fun e w'=>∃v,e = .returned v∧w'.ownsRow w.heap.size 3 1 v (jG f.blocks).length ((jG f.blocks).map (.int .i64))∧Below w.heap.size w w':=by
 have HF:=q7 hF
 have H2:=q7 h2
 have HT:=q7 hT
 clear hF h2 hT
 go_enter Tryz.func65,Tryz.ntmps65
 go_wp2_with fail
 refine (Jq f fp fc _ hn hl H2.out HT.out (jN HF.out bZ)).mono ?_
 rintro e w2 ⟨v,rfl,hO,hb⟩
 obtain ⟨m,d,hv⟩:=xW hO
 subst hv
 have HB:=q7 (show Below w.heap.size w w2 from yo bZ (hb.mono (by simp)))
 have hO:=kt hO (B:=w.heap.size) (by simp)
 have HLo:=q7 (fun k (e:(Value.slice m (vv f.blocks).length d).ownBlock=some k)=>(hO.lt k e).1)
 have hzz:=HB.out.size
 have HO:=q7 hO
 clear hO hb
 go_wp2_with fail
 refine (Kq _ _ _ _ _ _ HO.out hpl).mono ?_
 rintro e w3 ⟨rfl,hO3,hg3⟩
 have HO3:=q7 hO3
 have HB3:=q7 (HB.out.grown hg3 (by omega) fun k e=>HLo.out k e)
 clear hO3 hg3
 go_wp2
 refine zk (results_tmp (t:=2) rfl _ _ _) rfl ⟨_,rfl,?_,HB3.out⟩
 unfold jG
 rw [List.length_reverse]
 exact HO3.out
end Go.Proofs.YtbnnhmcloecijaaGreatDoor
namespace Go.Proofs.YtbnnhmcloecijaaGreatDoor

inductive Ch (up:Nat→Nat):Nat→Nat→Prop where
 | refl (c):Ch up c c
 | step {c x}:c≠0→Ch up (up c) x→Ch up c x

structure DomI (R:Nat→Prop) (pl:Nat→Nat) (mk:Nat→Prop) (up:Nat→Nat):Prop where
 one:∀a b,R a→R b→pl a=pl b→a=b
 root:R 0
 rootAt:pl 0=0
 mk0:mk 0
 up0:up 0=0
 reach:∀c,mk c→R c
 mkUp:∀c,mk c→mk (up c)
 less:∀c,mk c→c≠0→pl (up c)<pl c

section
variable {R : Nat → Prop} {pl : Nat → Nat} {mk : Nat → Prop} {up : Nat → Nat}

theorem DomI.pos (h:DomI R pl mk up) {c:Nat} (hc:R c) (h0:c≠0):0<pl c:=by
 rcases Nat.eq_zero_or_pos (pl c) with e|e
 ·exact absurd (h.one _ _ hc h.root (by rw [e,h.rootAt])) h0
 exact e
theorem Ch.trans {a b c:Nat} (h:Ch up a b) (h2:Ch up b c):Ch up a c:=by
 induction h with
 | refl=>exact h2
 | step h0 _ ih=>exact .step h0 (ih h2)
theorem DomI.ch (h:DomI R pl mk up) {c x:Nat} (hx:Ch up c x):mk c→mk x∧pl x≤pl c:=by
 induction hx with
 | refl=>intro hc;exact ⟨hc,zK _⟩
 | step h0 _ ih=>
  intro hc
  have h1:=ih (h.mkUp _ hc)
  have h2:=h.less _ hc h0
  exact ⟨h1.1,by omega⟩
theorem DomI.chLess (h:DomI R pl mk up) {c x:Nat} (hc:mk c) (hx:Ch up c x) (hne:x≠c):pl x<pl c:=by
 cases hx with
 | refl=>exact absurd rfl hne
 | step h0 h1=>
  have h2:=h.less _ hc h0
  have h3:=(h.ch h1 (h.mkUp _ hc)).2
  omega
theorem DomI.line (h:DomI R pl mk up) {c x y:Nat} (hx:Ch up c x):mk c→Ch up c y→pl y≤pl x→Ch up x y:=by
 induction hx with
 | refl=>intro _ hy _;exact hy
 | step h0 h1 ih=>
  intro hc hy hl
  cases hy with
  | refl=>
   have h2:=h.less _ hc h0
   have h3:=(h.ch h1 (h.mkUp _ hc)).2
   omega
  | step _ hy=>exact ih (h.mkUp _ hc) hy hl
structure Meets (up:Nat→Nat) (a b m:Nat):Prop where
 left:Ch up a m
 right:Ch up b m
 all:∀x,Ch up a x→Ch up b x→Ch up m x

def Q3 (up pl:Nat→Nat):Nat→Nat→Nat→Nat
 | 0,a,_=>a
 | k+1,a,b=>if a=b then a else if pl a<pl b then Q3 up pl k (up b) a else Q3 up pl k (up a) b

theorem DomI.meet (h:DomI R pl mk up):∀(k a b:Nat),pl a+pl b<k→mk a→mk b→Meets up a b (Q3 up pl k a b)
 | 0,_,_,hk,_,_=>by omega
 | k+1,a,b,hk,ha,hb=>by
  unfold Q3
  by_cases e:a=b
  ·subst e
   rw [zZ rfl]
   exact ⟨.refl _,.refl _,fun x hx _=>hx⟩
  have hne:pl a≠pl b:=fun e2=>e (h.one _ _ (h.reach _ ha) (h.reach _ hb) e2)
  rw [zQ e]
  by_cases hl:pl a<pl b
  ·have hb0:b≠0:=fun e0=>by
    rw [e0,h.rootAt] at hl;omega
   have h2:=h.less _ hb hb0
   rw [zZ hl]
   have ih:=h.meet k (up b) a (by omega) (h.mkUp _ hb) ha
   refine ⟨ih.right,.step hb0 ih.left,fun x hx hy=>ih.all x ?_ hx⟩
   cases hy with
   | refl=>have:=(h.ch hx ha).2;omega
   | step _ hy=>exact hy
  have ha0:a≠0:=fun e0=>by
   rw [e0,h.rootAt] at hl hne;omega
  have h2:=h.less _ ha ha0
  rw [zQ hl]
  have ih:=h.meet k (up a) b (by omega) (h.mkUp _ ha) hb
  refine ⟨.step ha0 ih.left,ih.right,fun x hx hy=>ih.all x ?_ hy⟩
  cases hx with
  | refl=>have:=(h.ch hy hb).2;omega
  | step _ hx=>exact hx

def Xx (up:Nat→Nat) (c m:Nat) (a:Nat):Nat:=if a=c then m else up a
theorem vL {c m:Nat}:Xx up c m c=m:=by simp [Xx]
theorem j0 {c m a:Nat} (h:a≠c):Xx up c m a=up a:=by simp [Xx,h]

structure DomJ (R:Nat→Prop) (pl:Nat→Nat) (ins:Nat→List Nat) (par:Nat→Nat) (j:Nat) (mk:Nat→Prop) (up:Nat→Nat):Prop extends DomI R pl mk up where
 parIn:∀c,R c→c≠0→par c∈ins c∧R (par c)∧pl (par c)<pl c
 down:∀c d,mk c→R d→pl d≤pl c→mk d
 past:∀d,R d→pl d<j→mk d
 two:∀c,mk c→c≠0→∀x,(∀p∈ins c,mk p→Ch up p x)→pl x≤pl (up c)
 calm:∀c,mk c→c≠0→(j≤pl (up c)∨pl c<j)→Ch up (par c) (up c)
 busy:∀c,mk c→c≠0→pl (up c)<j→j≤pl c→∀x,Ch up (par c) x→pl x≤pl (up c)→Ch up (up c) x

structure BestOf (ins:Nat→List Nat) (mk:Nat→Prop) (up:Nat→Nat) (c m:Nat):Prop where
 on:∀p∈ins c,mk p→Ch up p m
 all:∀x,(∀p∈ins c,mk p→Ch up p x)→Ch up m x

variable {ins : Nat → List Nat} {par : Nat → Nat} {j : Nat}

theorem DomJ.rise (h:DomJ R pl ins par j mk up) {c m:Nat} (hj:pl c=j) (h0:c≠0) (hb:BestOf ins mk up c m) (hc:mk c):Ch up (up c) m:=by
 have hl:=h.less _ hc h0
 obtain ⟨h1,h2,h3⟩:=h.parIn c (h.reach _ hc) h0
 have hp:mk (par c):=h.past _ h2 (by omega)
 exact h.busy c hc h0 (by omega) (by omega) m (hb.on _ h1 hp) (h.two c hc h0 m hb.on)

theorem DomJ.turn (h:DomJ R pl ins par j mk up) {c m:Nat} (hR:R c) (hj:pl c=j) (h0:c≠0) (hb:BestOf ins mk up c m) :
  DomJ R pl ins par (j+1) (fun a=>a=c∨mk a) (Xx up c m):=by
 obtain ⟨q1,q2,q3⟩:=h.parIn c hR h0
 have hp:mk (par c):=h.past _ q2 (by omega)
 have hm:=h.ch (hb.on _ q1 hp) hp
 -- ways up only shrink
 have shrink:∀a x,Ch (Xx up c m) a x→mk a→Ch up a x:=by
  intro a x hx
  induction hx with
  | refl=>intro _;exact .refl _
  | @step a x ha0 _ ih=>
   intro ha
   by_cases e:a=c
   ·subst e
    rw [vL] at ih
    exact .step ha0 ((h.rise hj h0 hb ha).trans (ih hm.1))
   rw [j0 e] at ih
   exact .step ha0 (ih (h.mkUp _ ha))
 have keep:∀a x,Ch up a x→mk a→(pl c≤pl x∨pl a<pl c)→Ch (Xx up c m) a x:=by
  intro a x hx
  induction hx with
  | refl=>intro _ _;exact .refl _
  | @step a x ha0 hx ih=>
   intro ha hor
   have h1:=h.less _ ha ha0
   have h2:=(h.ch hx (h.mkUp _ ha)).2
   have e:a≠c:=fun e=>by subst e;omega
   refine .step ha0 ?_
   rw [j0 e]
   exact ih (h.mkUp _ ha) (by omega)
 have base:DomI R pl (fun a=>a=c∨mk a) (Xx up c m):={
  one:=h.one,root:=h.root,rootAt:=h.rootAt,mk0:=.inr h.mk0
  up0:=by rw [j0 (Ne.symm h0)];exact h.up0
  reach:=fun a ha=>by
   rcases ha with e|ha
   ·rw [e];exact hR
   exact h.reach _ ha
  mkUp:=fun a ha=>by
   by_cases e:a=c
   ·rw [e,vL];exact .inr hm.1
   rw [j0 e]
   exact .inr (h.mkUp _ (ha.resolve_left e))
  less:=fun a ha ha0=>by
   by_cases e:a=c
   ·rw [e,vL];omega
   rw [j0 e]
   exact h.less _ (ha.resolve_left e) ha0 }
 refine { base with parIn:=h.parIn,down:=?_,past:=?_,two:=?_,calm:=?_,busy:=?_ }
 ·intro a d ha hd hl
  rcases ha with e|ha
  ·subst e
   by_cases e:d=a
   ·exact .inl e
   have:pl d≠pl a:=fun e2=>e (h.one _ _ hd hR e2)
   exact .inr (h.past _ hd (by omega))
  exact .inr (h.down _ _ ha hd hl)
 ·intro d hd hl
  by_cases e:d=c
  ·exact .inl e
  have:pl d≠pl c:=fun e2=>e (h.one _ _ hd hR e2)
  exact .inr (h.past _ hd (by omega))
 ·intro a ha ha0 x hx
  have hx2:∀p∈ins a,mk p→Ch up p x:=fun p hp hmp=>shrink _ _ (hx p hp (.inr hmp)) hmp
  by_cases e:a=c
  ·subst e
   rw [vL]
   exact (h.ch (hb.all x hx2) hm.1).2
  rw [j0 e]
  exact h.two a (ha.resolve_left e) ha0 x hx2
 ·intro a ha ha0 hor
  by_cases e:a=c
  ·subst e
   rw [vL]
   exact keep _ _ (hb.on _ q1 hp) hp (.inr q3)
  have ha:=ha.resolve_left e
  rw [j0 e] at hor ⊢
  have hne:pl a≠pl c:=fun e2=>e (h.one _ _ (h.reach _ ha) hR e2)
  obtain ⟨r1,r2,r3⟩:=h.parIn a (h.reach _ ha) ha0
  have hmp:mk (par a):=h.down _ _ ha r2 (by omega)
  exact keep _ _ (h.calm a ha ha0 (by omega)) hmp (by omega)
 intro a ha ha0 h1 h2 x hx hl
 by_cases e:a=c
 ·subst e;omega
 have ha:=ha.resolve_left e
 rw [j0 e] at h1 hl ⊢
 obtain ⟨r1,r2,r3⟩:=h.parIn a (h.reach _ ha) ha0
 have hmp:mk (par a):=h.down _ _ ha r2 (by omega)
 have hmu:=h.mkUp _ ha
 by_cases hv:pl (up a)<j
 ·exact keep _ _ (h.busy a ha ha0 hv (by omega) x (shrink _ _ hx hmp) hl) hmu (by omega)
 exact base.line (keep _ _ (h.calm a ha ha0 (by omega)) hmp (by omega)) (.inr hmp) hx hl

theorem DomJ.wrap {n:Nat} (h:DomJ R pl ins par n mk up) (hn:∀c,R c→pl c<n):DomJ R pl ins par 1 mk up:=by
 refine { h with past:=fun d hd _=>h.past _ hd (hn _ hd),calm:=?_,busy:=?_ }
 ·intro c hc h0 _
  exact h.calm c hc h0 (.inr (hn _ (h.reach _ hc)))
 intro c hc h0 h1 _ x hx hl
 obtain ⟨r1,r2,r3⟩:=h.parIn c (h.reach _ hc) h0
 have hmp:mk (par c):=h.down _ _ hc r2 (by omega)
 have hmx:=(h.ch hx hmp).1
 have e1:up c=x:=h.one _ _ (h.reach _ (h.mkUp _ hc)) (h.reach _ hmx) (by omega)
 rw [e1];exact .refl _

theorem DomJ.start (one:∀a b,R a→R b→pl a=pl b→a=b) (root:R 0) (rootAt:pl 0=0) (hba:∀c,R c→c≠0→par c∈ins c∧R (par c)∧pl (par c)<pl c) (hu:up 0=0) :
  DomJ R pl ins par 1 (fun a=>a=0) up where
 one:=one
 root:=root
 rootAt:=rootAt
 mk0:=rfl
 up0:=hu
 reach:=fun c hc=>by rw [hc];exact root
 mkUp:=fun c hc=>by rw [hc];exact hu
 less:=fun c hc h0=>absurd hc h0
 parIn:=hba
 down:=fun c d hc hd hl=>one _ _ hd root (by rw [hc] at hl;omega)
 past:=fun d hd hl=>one _ _ hd root (by omega)
 two:=fun c hc h0=>absurd hc h0
 calm:=fun c hc h0=>absurd hc h0
 busy:=fun c hc h0=>absurd hc h0
end

def upN (u:Nat→Int) (c:Nat):Nat:=(u c).toNat
def mkN (u:Nat→Int) (c:Nat):Prop:=0≤u c
def km (u:Nat→Int) (c:Nat) (m:Int) (a:Nat):Int:=if a=c then m else u a
def jq (u:Nat→Int) (pl:Nat→Nat) (b:Int) (p:Nat):Int:=
 if u p<0 then b else if b<0 then (p:Int) else (Q3 (upN u) pl (pl b.toNat+pl p+1) b.toNat p:Nat)
def vm (u:Nat→Int) (pl:Nat→Nat) (l:List Nat):Int:=l.foldl (jq u pl) (-1)

section
variable {R : Nat → Prop} {pl : Nat → Nat} {u : Nat → Int}

structure BestTo (u:Nat→Int) (b:Int) (l:List Nat) (r:Int):Prop where
 made:0≤r∧mkN u r.toNat
 had:0≤b→Ch (upN u) b.toNat r.toNat
 on:∀p∈l,mkN u p→Ch (upN u) p r.toNat
 all:∀x,(0≤b→Ch (upN u) b.toNat x)→(∀p∈l,mkN u p→Ch (upN u) p x)→Ch (upN u) r.toNat x

theorem DomI.bests (h:DomI R pl (mkN u) (upN u)):∀(l:List Nat) (b:Int),(0≤b→mkN u b.toNat)→(0≤b∨∃p∈l,mkN u p)→BestTo u b l (l.foldl (jq u pl) b)
 | [],b,hb,hor=>by
  have h0:0≤b:=hor.resolve_right (by simp)
  exact ⟨⟨h0,hb h0⟩,fun _=>.refl _,(by simp),fun x hx _=>hx h0⟩
 | p::l,b,hb,hor=>by
  show BestTo u b (p::l) (l.foldl (jq u pl) (jq u pl b p))
  by_cases hp:u p<0
  ·have e:jq u pl b p=b:=by unfold jq;rw [zZ hp]
   have np:¬ mkN u p:=fun hm=>by unfold mkN at hm;omega
   rw [e]
   have ih:=h.bests l b hb (by
    rcases hor with h0|⟨q,hq,hm⟩
    ·exact .inl h0
    rcases yC.1 hq with e|hq
    ·subst e;exact absurd hm np
    exact .inr ⟨q,hq,hm⟩)
   refine ⟨ih.made,ih.had,fun q hq hm=>?_,fun x h1 h2=>ih.all x h1 fun q hq=>h2 q (yc _ hq)⟩
   rcases yC.1 hq with e|hq
   ·subst e;exact absurd hm np
   exact ih.on q hq hm
  have hm:mkN u p:=by unfold mkN;omega
  by_cases h0:b<0
  ·have e:jq u pl b p=(p:Int):=by unfold jq;rw [zQ hp,zZ h0]
   rw [e]
   have ih:=h.bests l (p:Int) (fun _=>hm) (.inl (by omega))
   refine ⟨ih.made,fun hb0=>by omega,fun q hq hmq=>?_,fun x _ h2=>ih.all x (fun _=>h2 p yg hm) fun q hq=>h2 q (yc _ hq)⟩
   rcases yC.1 hq with e|hq
   ·subst e;exact ih.had (by omega)
   exact ih.on q hq hmq
  have hb0:0≤b:=by omega
  have hmb:=hb hb0
  have haV:=h.meet (pl b.toNat+pl p+1) b.toNat p (by omega) hmb hm
  have e:jq u pl b p=((Q3 (upN u) pl (pl b.toNat+pl p+1) b.toNat p:Nat):Int):=by unfold jq;rw [zQ hp,zQ h0]
  rw [e]
  generalize Q3 (upN u) pl (pl b.toNat+pl p+1) b.toNat p=m at haV
  have hmm:=(h.ch haV.right hm).1
  have ih:=h.bests l (m:Int) (fun _=>hmm) (.inl (by omega))
  have hh:Ch (upN u) m (l.foldl (jq u pl) (m:Int)).toNat:=ih.had (by omega)
  refine ⟨ih.made,fun _=>haV.left.trans hh,fun q hq hmq=>?_,fun x h1 h2=>ih.all x (fun _=>haV.all x (h1 hb0) (h2 p yg hm)) fun q hq=>h2 q (yc _ hq)⟩
  rcases yC.1 hq with e|hq
  ·subst e;exact haV.right.trans hh
  exact ih.on q hq hmq

variable {ins : Nat → List Nat} {par : Nat → Nat} {j : Nat}
theorem DomJ.best (h:DomJ R pl ins par j (mkN u) (upN u)) {c:Nat} (hR:R c) (hj:pl c=j) (h0:c≠0) :
  ∃m:Nat,vm u pl (ins c)=(m:Int)∧BestOf ins (mkN u) (upN u) c m∧mkN u m∧pl m<pl c:=by
 obtain ⟨q1,q2,q3⟩:=h.parIn c hR h0
 have hp:mkN u (par c):=h.past _ q2 (by omega)
 have hb:=h.bests (ins c) (-1) (fun hn=>by omega) (.inr ⟨_,q1,hp⟩)
 refine ⟨(vm u pl (ins c)).toNat,?_,⟨hb.on,fun x hx=>hb.all x (fun hn=>by omega) hx⟩,hb.made.2,?_⟩
 ·have:=hb.made.1
  unfold vm
  omega
 have:=(h.ch (hb.on _ q1 hp) hp).2
 unfold vm
 omega

def Jr (pl:Nat→Nat) (n:Nat) (u:Nat→Int) (c:Nat):Nat:=if u c<0 then n else pl (u c).toNat
def kj (pl:Nat→Nat) (n:Nat) (l:List Nat) (u:Nat→Int):Nat:=(l.map (Jr pl n u)).sum

theorem Qe {n c a:Nat} {m:Int} (h:a≠c):Jr pl n (km u c m) a=Jr pl n u a:=by
 unfold Jr km;simp [h]
theorem QD {n c:Nat} {m:Nat}:Jr pl n (km u c (m:Int)) c=pl m:=by
 unfold Jr km
 rw [zZ rfl,zQ (by omega)]
 rfl
theorem Yc {n c m:Nat} (hle:pl m≤Jr pl n u c):∀l:List Nat,kj pl n l (km u c (m:Int))≤kj pl n l u
 | []=>zK _
 | a::l=>by
  have ih:=Yc hle l
  unfold kj at ih ⊢
  simp only [yS,List.sum_cons]
  by_cases e:a=c
  ·subst e;rw [QD];omega
  rw [Qe e];omega
theorem Yd {n c m:Nat} (hle:pl m<Jr pl n u c):∀l:List Nat,c∈l→kj pl n l (km u c (m:Int))<kj pl n l u
 | [],hc=>by cases hc
 | a::l,hc=>by
  have ih0:=Yc (Nat.le_of_lt hle) l
  have ih:c∈l→_:=Yd hle l
  unfold kj at ih ih0 ⊢
  simp only [yS,List.sum_cons]
  by_cases e:a=c
  ·subst e;rw [QD];omega
  rw [Qe e]
  have:=ih ((yC.1 hc).resolve_left (fun h=>e h.symm))
  omega

theorem DomJ.falls {n:Nat} (h:DomJ R pl ins par j (mkN u) (upN u)) (hn:∀c,R c→pl c<n) {c m:Nat} (hR:R c) (hj:pl c=j) (h0:c≠0) (hb:BestOf ins (mkN u) (upN u) c m) (hlt:pl m<pl c) (hne:u c≠(m:Int)) (l:List Nat) (hc:c∈l) :
  kj pl n l (km u c (m:Int))<kj pl n l u:=by
 refine Yd ?_ l hc
 unfold Jr
 by_cases hu:u c<0
 ·rw [zZ hu]
  have:=hn c hR
  omega
 rw [zQ hu]
 have hm:mkN u c:=by unfold mkN;omega
 refine h.chLess (h.mkUp _ hm) (h.rise hj h0 hb hm) fun e=>hne ?_
 unfold upN at e
 omega

theorem mkN_put {c:Nat} {m:Nat}:mkN (km u c (m:Int))=fun a=>a=c∨mkN u a:=by
 funext a
 unfold mkN km
 by_cases e:a=c
 ·simp [e]
 simp [e]
theorem upN_put {c:Nat} {m:Nat}:upN (km u c (m:Int))=Xx (upN u) c m:=by
 funext a
 unfold upN km Xx
 by_cases e:a=c<;>simp [e]
theorem DomJ.turnI (h:DomJ R pl ins par j (mkN u) (upN u)) {c m:Nat} (hR:R c) (hj:pl c=j) (h0:c≠0) (hb:BestOf ins (mkN u) (upN u) c m) :
  DomJ R pl ins par (j+1) (mkN (km u c (m:Int))) (upN (km u c (m:Int))):=by
 rw [mkN_put,upN_put]
 exact h.turn hR hj h0 hb
theorem X0 {c:Nat}:km u c (u c)=u:=by
 funext a
 unfold km
 by_cases e:a=c<;>simp [e]
end

theorem Beh.at {tos:Nat→List Int} {P:Nat→Prop}:∀{l:List Nat},Beh tos P l→∀i (h:i<l.length),P l[i]∨∃j,∃h2:j<l.length,i<j∧(l[i]:Int)∈tos l[j]
 | [],_,i,h=>by simp at h
 | x::l,hB,0,h=>by
  rcases hB.1 with g|⟨p,hp,e⟩
  ·exact .inl g
  obtain ⟨k,hk,rfl⟩:=yX hp
  exact .inr ⟨k+1,by simp;omega,by omega,by simpa using e⟩
 | x::l,hB,i+1,h=>by
  rcases hB.2.at i (by simpa using h) with g|⟨j,hj,hl,e⟩
  ·exact .inl (by simpa using g)
  exact .inr ⟨j+1,by simp;omega,by omega,by simpa using e⟩

def plN (o:List Nat) (b:Nat):Nat:=if b∈o then o.idxOf b else 0
theorem v7 {o:List Nat} (ho:o.Nodup) {i:Nat} (h:i<o.length):plN o o[i]=i:=by
 unfold plN
 rw [zZ (zP h)]
 exact ho.idxOf_getElem i h

structure OrdOk (bs:List BlkL) (o:List Nat):Prop where
 ints:jG bs=o.map fun (x:Nat)=>(x:Int)
 once:o.Nodup
 root:∃l,o=0::l
 inb:∀x∈o,x<bs.length
 par:∀i (h:i<o.length),o[i]≠0→∃j,∃h2:j<o.length,j<i∧(o[i]:Int)∈tosB bs o[j]

theorem orderB_ok {bs:List BlkL} (h0:0<bs.length) (hT:∀b,b<bs.length→∀x∈tosB bs b,0≤x∧x<(bs.length:Int)):∃o,OrdOk bs o:=by
 obtain ⟨l,h1,h2,h3,h4⟩:=postL_is h0 hT
 refine ⟨(l++[0]).reverse,by unfold jG;rw [h1,List.map_reverse],by unfold List.Nodup;exact List.pairwise_reverse.2 (h2.imp fun h=>Ne.symm h),⟨l.reverse,by simp⟩,fun x hx=>h3 x (List.mem_reverse.1 hx),fun i h hne=>?_⟩
 rw [List.length_reverse] at h
 have e:∀k (hk:k<(l++[0]).length) (hk2:k<(l++[0]).reverse.length),(l++[0]).reverse[k]=(l++[0])[(l++[0]).length - 1 - k]:=fun k hk hk2=>List.getElem_reverse _
 rw [e i h] at hne
 rcases h4.at ((l++[0]).length - 1 - i) (by omega) with g|⟨j,hj,hl,g⟩
 ·exact absurd g hne
 refine ⟨(l++[0]).length - 1 - j,by rw [List.length_reverse];omega,by omega,?_⟩
 rw [e i h,e _ (by omega)]
 have e2:(l++[0]).length - 1 - ((l++[0]).length - 1 - j)=j:=by omega
 simp only [e2]
 exact g

theorem OrdOk.start {bs:List BlkL} {o:List Nat} (h:OrdOk bs o) (ins:Nat→List Nat) (hins:∀(b c:Nat),b<bs.length→(c:Int)∈tosB bs b→b∈ins c) {up:Nat→Nat} (hu:up 0=0) :
  ∃par,DomJ (fun b=>b∈o) (plN o) ins par 1 (fun a=>a=0) up:=by
 obtain ⟨l,hl⟩:=h.root
 have h0:0∈o:=by rw [hl];simp
 have hba:∀c,∃p,c∈o→c≠0→p∈ins c∧p∈o∧plN o p<plN o c:=fun c=>by
  by_cases hc:c∈o
  ·obtain ⟨i,hi,rfl⟩:=yX hc
   by_cases hne:o[i]=0
   ·exact ⟨0,fun _ g=>absurd hne g⟩
   obtain ⟨j,hj,hlt,e⟩:=h.par i hi hne
   exact ⟨o[j],fun _ _=>⟨hins _ _ (h.inb _ (zP hj)) e,zP hj,by rw [v7 h.once hi,v7 h.once hj];exact hlt⟩⟩
  exact ⟨0,fun g=>absurd g hc⟩
 refine ⟨fun c=>(hba c).choose,DomJ.start (fun a b ha hb e=>?_) h0 ?_ (fun c hc hne=>(hba c).choose_spec hc hne) hu⟩
 ·obtain ⟨i,hi,rfl⟩:=yX ha
  obtain ⟨j,hj,rfl⟩:=yX hb
  rw [v7 h.once hi,v7 h.once hj] at e
  subst e;rfl
 have:=v7 h.once (i:=0) (by rw [hl];simp)
 simpa [hl] using this

def mj (pl:Nat→Nat) (ins:Nat→List Nat) (u:Nat→Int) (c:Nat):Nat→Int:=km u c (vm u pl (ins c))
def z7 (pl:Nat→Nat) (ins:Nat→List Nat) (o:List Nat) (u:Nat→Int):Nat→Nat→Int
 | 0=>u
 | 1=>u
 | i+2=>mj pl ins (z7 pl ins o u (i+1)) (o.getD (i+1) 0)

variable {bs : List BlkL} {o : List Nat} {ins : Nat → List Nat} {par : Nat → Nat} {u : Nat → Int}
theorem OrdOk.round (h:OrdOk bs o) (hJ:DomJ (fun b=>b∈o) (plN o) ins par 1 (mkN u) (upN u)):∀i,i+1≤o.length→
  DomJ (fun b=>b∈o) (plN o) ins par (i+1) (mkN (z7 (plN o) ins o u (i+1))) (upN (z7 (plN o) ins o u (i+1)))∧
   (z7 (plN o) ins o u (i+1)=u∨kj (plN o) o.length o (z7 (plN o) ins o u (i+1))<kj (plN o) o.length o u)
 | 0,_=>⟨hJ,.inl rfl⟩
 | i+1,hi=>by
  obtain ⟨h1,h2⟩:=h.round hJ i (by omega)
  have hlt:i+1<o.length:=by omega
  have hg:o.getD (i+1) 0=o[i+1]:=by
   rw [yO,zj hlt];rfl
  have hc:o[i+1]∈o:=zP hlt
  have hp:=v7 h.once hlt
  have h0:o[i+1]≠0:=fun e=>by
   obtain ⟨l,hl⟩:=h.root
   have hz:=v7 h.once (i:=0) (by omega)
   have e0:o[0]'(by omega)=0:=by simp [hl]
   rw [e0] at hz
   rw [e] at hp
   omega
  show DomJ _ _ _ _ (i+1+1) (mkN (mj (plN o) ins (z7 (plN o) ins o u (i+1)) (o.getD (i+1) 0))) (upN (mj (plN o) ins (z7 (plN o) ins o u (i+1)) (o.getD (i+1) 0)))∧
   (mj (plN o) ins (z7 (plN o) ins o u (i+1)) (o.getD (i+1) 0)=u∨kj (plN o) o.length o (mj (plN o) ins (z7 (plN o) ins o u (i+1)) (o.getD (i+1) 0))<kj (plN o) o.length o u)
  rw [hg]
  unfold mj
  generalize z7 (plN o) ins o u (i+1)=v at *
  obtain ⟨m,hm,hb,_,hml⟩:=h1.best hc hp h0
  rw [hm]
  refine ⟨h1.turnI hc hp h0 hb,?_⟩
  by_cases e:v o[i+1]=(m:Int)
  ·rw [←e,X0]
   exact h2
  have h3:=h1.falls (n:=o.length) (fun c hc'=>by
   obtain ⟨k,hk,rfl⟩:=yX hc'
   rw [v7 h.once hk];exact hk) hc hp h0 hb hml e o hc
  rcases h2 with h2|h2
  ·rw [h2] at h3 ⊢;exact .inr h3
  exact .inr (Nat.lt_trans h3 h2)

def kx (pl:Nat→Nat) (ins:Nat→List Nat) (o:List Nat) (u:Nat→Int):Nat→Bool
 | 0=>false
 | 1=>false
 | i+2=>kx pl ins o u (i+1) || (z7 pl ins o u (i+1) (o.getD (i+1) 0) != vm (z7 pl ins o u (i+1)) pl (ins (o.getD (i+1) 0)))
theorem kR (pl:Nat→Nat) (ins:Nat→List Nat) (o:List Nat) (u:Nat→Int) (i:Nat):kx pl ins o u (i+2)=(kx pl ins o u (i+1) || (z7 pl ins o u (i+1) (o.getD (i+1) 0) != vm (z7 pl ins o u (i+1)) pl (ins (o.getD (i+1) 0)))):=rfl
theorem k6 (pl:Nat→Nat) (ins:Nat→List Nat) (o:List Nat) (u:Nat→Int) (i:Nat):z7 pl ins o u (i+2)=km (z7 pl ins o u (i+1)) (o.getD (i+1) 0) (vm (z7 pl ins o u (i+1)) pl (ins (o.getD (i+1) 0))):=rfl

variable {bs : List BlkL} {o : List Nat} {ins : Nat → List Nat} {par : Nat → Nat} {u : Nat → Int}
theorem OrdOk.getD (h:OrdOk bs o) {i:Nat} (hi:i+1<o.length):o.getD (i+1) 0=o[i+1]∧o[i+1]∈o∧plN o o[i+1]=i+1∧o[i+1]≠0∧o[i+1]<bs.length:=by
 have hc:o[i+1]∈o:=zP hi
 have hp:=v7 h.once hi
 refine ⟨by rw [yO,zj hi];rfl,hc,hp,fun e=>?_,h.inb _ hc⟩
 obtain ⟨l,hl⟩:=h.root
 have hz:=v7 h.once (i:=0) (by omega)
 have e0:o[0]'(by omega)=0:=by simp [hl]
 rw [e0] at hz
 rw [e] at hp
 omega
theorem OrdOk.pos (h:OrdOk bs o):0<o.length:=by
 obtain ⟨l,hl⟩:=h.root
 rw [hl];simp
theorem OrdOk.lt (h:OrdOk bs o) {c:Nat} (hc:c∈o):plN o c<o.length:=by
 obtain ⟨k,hk,rfl⟩:=yX hc
 rw [v7 h.once hk];exact hk

theorem OrdOk.round2 (h:OrdOk bs o) (hJ:DomJ (fun b=>b∈o) (plN o) ins par 1 (mkN u) (upN u)):∀i,i+1≤o.length→
  (kx (plN o) ins o u (i+1)=false∧z7 (plN o) ins o u (i+1)=u)∨(kx (plN o) ins o u (i+1)=true∧kj (plN o) o.length o (z7 (plN o) ins o u (i+1))<kj (plN o) o.length o u)
 | 0,_=>.inl ⟨rfl,rfl⟩
 | i+1,hi=>by
  have h1:=(h.round hJ i (by omega)).1
  have h2:=h.round2 hJ i (by omega)
  obtain ⟨hg,hc,hp,h0,_⟩:=h.getD (i:=i) (by omega)
  rw [kR,k6,hg]
  generalize z7 (plN o) ins o u (i+1)=v at *
  obtain ⟨m,hm,hb,_,hml⟩:=h1.best hc hp h0
  rw [hm]
  by_cases e:v o[i+1]=(m:Int)
  ·rw [←e,X0]
   simpa using h2
  have h3:=h1.falls (n:=o.length) (fun c hc'=>h.lt hc') hc hp h0 hb hml e o hc
  right
  refine ⟨by simp [e],?_⟩
  rcases h2 with ⟨_,h2⟩|⟨_,h2⟩
  ·rw [h2] at h3 ⊢;exact h3
  exact Nat.lt_trans h3 h2
theorem OrdOk.least (h:OrdOk bs o) (hJ:DomJ (fun b=>b∈o) (plN o) ins par 1 (mkN u) (upN u)) (hu:∀c,-1≤u c∧u c<bs.length):∀i,i+1≤o.length→∀c,-1≤z7 (plN o) ins o u (i+1) c∧z7 (plN o) ins o u (i+1) c<bs.length
 | 0,_=>hu
 | i+1,hi=>by
  have h1:=(h.round hJ i (by omega)).1
  have h2:=h.least hJ hu i (by omega)
  obtain ⟨hg,hc,hp,h0,_⟩:=h.getD (i:=i) (by omega)
  rw [k6,hg]
  generalize z7 (plN o) ins o u (i+1)=v at *
  obtain ⟨m,hm,hb,hmk,hml⟩:=h1.best hc hp h0
  rw [hm]
  have:=h.inb _ (h1.reach _ hmk)
  intro c
  unfold km
  split
  ·omega
  exact h2 c

def treeN (pl:Nat→Nat) (ins:Nat→List Nat) (o:List Nat):Nat→(Nat→Int)→Nat→Int
 | 0,u=>u
 | k+1,u=>if kx pl ins o u o.length=true then treeN pl ins o k (z7 pl ins o u o.length) else z7 pl ins o u o.length
def Zs (c:Nat):Int:=if c=0 then 0 else -1
def zq (bs:List BlkL):List Nat:=(jG bs).map Int.toNat
theorem OrdOk.nats (h:OrdOk bs o):zq bs=o:=by
 unfold zq
 rw [h.ints,yy]
 exact (ya (g:=id) fun x _=>by simp).trans (by simp)
def Zt (ins:Nat→List Nat) (o:List Nat):Nat→Int:=treeN (plN o) ins o (kj (plN o) o.length o Zs+1) Zs

structure TreeL (bs:List BlkL) (o:List Nat) (ins:Nat→List Nat) (u:Nat→Int) (k:Nat):Prop where
 inv:∃par,DomJ (fun b=>b∈o) (plN o) ins par 1 (mkN u) (upN u)
 bd:∀c,-1≤u c∧u c<bs.length
 fuel:kj (plN o) o.length o u<k
 same:treeN (plN o) ins o k u=Zt ins o
theorem Ye:mkN Zs=fun a=>a=0:=by
 funext a
 unfold mkN Zs
 split
 ·next e=>simp [e]
 next e=>simp [e]
theorem TreeL.start (h:OrdOk bs o) (hins:∀(b c:Nat),b<bs.length→(c:Int)∈tosB bs b→b∈ins c) (hb:0<bs.length):TreeL bs o ins Zs (kj (plN o) o.length o Zs+1):=by
 refine ⟨?_,fun c=>by unfold Zs;split<;>omega,by omega,rfl⟩
 rw [Ye]
 exact h.start ins hins (by simp [upN,Zs])
theorem TreeL.wrap {k:Nat} (h:OrdOk bs o) (hL:TreeL bs o ins u k):(∃par,DomJ (fun b=>b∈o) (plN o) ins par 1 (mkN (z7 (plN o) ins o u o.length)) (upN (z7 (plN o) ins o u o.length)))∧∀c,-1≤z7 (plN o) ins o u o.length c∧z7 (plN o) ins o u o.length c<bs.length:=by
 obtain ⟨par,hJ⟩:=hL.inv
 have hp:=h.pos
 obtain ⟨m,hm⟩:∃m,o.length=m+1:=⟨o.length - 1,by omega⟩
 have h1:=(h.round hJ m (by omega)).1
 have h2:=h.least hJ hL.bd m (by omega)
 rw [hm]
 exact ⟨⟨par,h1.wrap fun c hc=>by rw [←hm];exact h.lt hc⟩,h2⟩
theorem TreeL.next {k:Nat} (h:OrdOk bs o) (hL:TreeL bs o ins u (k+1)) (hm:kx (plN o) ins o u o.length=true):TreeL bs o ins (z7 (plN o) ins o u o.length) k:=by
 obtain ⟨h1,h2⟩:=hL.wrap h
 refine ⟨h1,h2,?_,?_⟩
 ·obtain ⟨par,hJ⟩:=hL.inv
  have hp:=h.pos
  obtain ⟨m,hm2⟩:∃m,o.length=m+1:=⟨o.length - 1,by omega⟩
  have h3:=h.round2 hJ m (by omega)
  rw [←hm2] at h3
  rcases h3 with ⟨h3,_⟩|⟨_,h3⟩
  ·rw [h3] at hm;cases hm
  have:=hL.fuel;omega
 have e:=hL.same
 unfold treeN at e
 rw [zZ hm] at e
 exact e
structure TreeE (bs:List BlkL) (o:List Nat) (ins:Nat→List Nat) (u:Nat→Int):Prop where
 inv:∃par,DomJ (fun b=>b∈o) (plN o) ins par 1 (mkN u) (upN u)
 bd:∀c,-1≤u c∧u c<bs.length
 calm:kx (plN o) ins o u o.length=false
theorem TreeL.last {k:Nat} (h:OrdOk bs o) (hL:TreeL bs o ins u (k+1)) (hm:kx (plN o) ins o u o.length=false):z7 (plN o) ins o u o.length=u∧u=Zt ins o∧TreeE bs o ins u:=by
 obtain ⟨par,hJ⟩:=hL.inv
 have hp:=h.pos
 obtain ⟨m,hm2⟩:∃m,o.length=m+1:=⟨o.length - 1,by omega⟩
 have h3:=h.round2 hJ m (by omega)
 rw [←hm2] at h3
 have h4:z7 (plN o) ins o u o.length=u:=by
  rcases h3 with ⟨_,h3⟩|⟨h3,_⟩
  ·exact h3
  rw [h3] at hm;cases hm
 have e:=hL.same
 unfold treeN at e
 rw [zQ (by simp [hm]),h4] at e
 exact ⟨h4,e,hL.inv,hL.bd,hm⟩
end Go.Proofs.YtbnnhmcloecijaaGreatDoor
