/-
  Plain: the place at which calls.Cut takes a phi's value away.
-/
import Derived.Test.YtbnnhmcloecijaaGreatDoorJTidR
namespace Go.Proofs.YtbnnhmcloecijaaGreatDoor
open Go.RowKit

structure Spn where
 lo:Int
 hi:Int
 has:Bool
theorem Spn.ext' {a b:Spn} (h1:a.lo=b.lo) (h2:a.hi=b.hi) (h3:a.has=b.has):a=b:=by
 cases a;cases b;simp at h1 h2 h3;subst h1 h2 h3;rfl
def vz:Int:=-9223372036854775808
def vi:Int:=9223372036854775807
def vc:Spn:=⟨0,0,false⟩
def jW:Spn:=⟨vz,vi,true⟩
def ofS (l h:Int):Spn:=⟨l,h,true⟩
def eqS (a b:Spn):Bool:=a.lo == b.lo&&a.hi == b.hi&&a.has == b.has
theorem eqS_iff {a b:Spn}:eqS a b=true↔a=b:=by
 unfold eqS
 constructor
 ·intro h
  simp only [Bool.and_eq_true,beq_iff_eq] at h
  exact Spn.ext' h.1.1 h.1.2 h.2
 rintro rfl;simp
def zR (a b:Spn):Spn:=if a.has=false then b else if b.has=false then a else ofS (min a.lo b.lo) (max a.hi b.hi)
def Ys (a:Spn):Bool:=a.has&&a.lo == a.hi
def Qg (n:Int):Bool:=decide (vz≤n∧n≤vi)
def jo:List Int→Spn→Spn
 | [],s=>s
 | n::l,s=>if Qg n=true then jo l (zR s (ofS n n)) else jW
def x8 (yes no:Bool):Spn:=if yes=true then ofS 1 1 else if no=true then ofS 0 0 else ofS 0 1
def Q5 (n:Int):Nat:=if n≤0 then 0 else n.toNat.log2+1
def Qo (n:Int):Int:=2 ^ Q5 n - 1
def Yt (op:Int) (x y:Spn):Spn:=
 if y.lo<1 then jW
 else if op=5∧y.lo=y.hi then ofS (x.lo.tdiv y.lo) (x.hi.tdiv y.lo)
 else if op=5 then ofS (min x.lo 0) (max x.hi 0)
 else if 0≤x.lo then ofS 0 (min x.hi (y.hi - 1))
 else if x.hi≤0 then ofS (max x.lo (1 - y.hi)) 0
 else ofS (max x.lo (1 - y.hi)) (min x.hi (y.hi - 1))
def Xt (op:Int) (x y:Spn):Spn:=
 if op=7 then
  if 0≤x.lo∧0≤y.lo then ofS 0 (min x.hi y.hi) else if 0≤x.lo then ofS 0 x.hi else if 0≤y.lo then ofS 0 y.hi else jW
 else if x.lo<0∨y.lo<0 then jW
 else if op=8 then ofS (max x.lo y.lo) (Qo (max x.hi y.hi))
 else ofS 0 (Qo (max x.hi y.hi))
def K2 (op:Int) (x y:Spn):Spn:=
 if op=10 then (if x.lo=x.hi∧y.lo=y.hi then ofS (twoL 10 x.lo y.lo).1 (twoL 10 x.lo y.lo).1 else jW)
 else if y.lo=y.hi then ofS (twoL 11 x.lo y.lo).1 (twoL 11 x.hi y.lo).1
 else ofS (min x.lo 0) (max x.hi (-1))
def xw (x y:Spn):Bool:=decide (x.hi<y.lo∨y.hi<x.lo)
def xx (x y:Spn):Bool:=decide (x.lo=x.hi∧y.lo=y.hi∧x.lo=y.lo)
def jz (op:Int) (x y:Spn):Spn:=
 if op=12 then x8 (xx x y) (xw x y)
 else if op=13 then x8 (xw x y) (xx x y)
 else if op=14 then x8 (decide (x.hi<y.lo)) (decide (y.hi≤x.lo))
 else x8 (decide (x.hi≤y.lo)) (decide (y.hi<x.lo))
def Xu (op:Int) (x y:Spn):Spn:=
 if 17<op then jW
 else if x.has=false∨(2≤op∧op≤15)∧y.has=false then vc
 else if op=1 then x
 else if op=2 then jo [x.lo+y.lo,x.hi+y.hi] vc
 else if op=3 then jo [x.lo - y.hi,x.hi - y.lo] vc
 else if op=4 then jo [x.lo*y.lo,x.lo*y.hi,x.hi*y.lo,x.hi*y.hi] vc
 else if op=5∨op=6 then Yt op x y
 else if op=7∨op=8∨op=9 then Xt op x y
 else if op=10∨op=11 then K2 op x y
 else if op=16 then (if x.lo=vz then jW else ofS (-x.hi) (-x.lo))
 else if op=17 then ofS (-1 - x.hi) (-1 - x.lo)
 else jz op x y

structure SpOk (s:Spn):Prop where
 lo:I64 s.lo
 hi:I64 s.hi
 le:s.has=true→s.lo≤s.hi
 no:s.has=false→s=vc
theorem SpOk.none:SpOk vc:=⟨by unfold I64 vc;simp,by unfold I64 vc;simp,by simp [vc],fun _=>rfl⟩
theorem SpOk.all:SpOk jW:=⟨by unfold I64 jW vz;simp,by unfold I64 jW vi;simp,by simp [jW,vz,vi],by simp [jW]⟩
theorem SpOk.of {l h:Int} (h1:-9223372036854775808≤l) (h2:l≤h) (h3:h≤9223372036854775807):SpOk (ofS l h):=
 ⟨by unfold I64;show _≤l∧l≤_;omega,by unfold I64;show _≤h∧h≤_;omega,fun _=>h2,by simp [ofS]⟩
theorem VB {a b:Spn} (h1:a.has=true) (h2:b.has=true):zR a b=ofS (min a.lo b.lo) (max a.hi b.hi):=by
 unfold zR;simp [h1,h2]
theorem Z5 {a b:Spn} (h1:a.has=false):zR a b=b:=by unfold zR;simp [h1]
theorem Xe {a b:Spn} (h1:a.has=true) (h2:b.has=false):zR a b=a:=by unfold zR;simp [h1,h2]
theorem SpOk.join {a b:Spn} (ha:SpOk a) (hb:SpOk b):SpOk (zR a b):=by
 cases h1:a.has
 ·rw [Z5 h1];exact hb
 cases h2:b.has
 ·rw [Xe h1 h2];exact ha
 rw [VB h1 h2]
 have:=ha.le h1
 have:=hb.le h2
 have:=ha.lo
 have:=hb.lo
 have:=ha.hi
 have:=hb.hi
 unfold I64 at *
 exact .of (by omega) (by omega) (by omega)
theorem XY {a b:Spn} (_ha:SpOk a) (h:a.has=true):(zR a b).has=true∧(zR a b).lo≤a.lo∧a.hi≤(zR a b).hi:=by
 cases h2:b.has
 ·rw [Xe h h2];exact ⟨h,Int.le_refl _,Int.le_refl _⟩
 rw [VB h h2]
 exact ⟨rfl,by show min _ _≤_;omega,by show _≤max _ _;omega⟩

def Yu (turn:Nat) (old s:Spn):Spn:=
 if 2<turn∧old.has=true then ⟨if s.lo<old.lo then vz else s.lo,if old.hi<s.hi then vi else s.hi,s.has⟩ else s
def Kz (l:Nat→Spn) (d:Nat) (s:Spn):Bool:=!eqS (zR (l d) s) (l d)
def newS (turn:Nat) (old s:Spn):Spn:=if eqS (zR old s) old=true then old else Yu turn old (zR old s)
def VC (l:Nat→Spn) (d:Nat) (s:Spn):Nat→Spn:=fun r=>if r=d then s else l r
theorem QJ {l:Nat→Spn} {d:Nat} {s:Spn}:VC l d s d=s:=by unfold VC;simp
theorem XZ {l:Nat→Spn} {d r:Nat} {s:Spn} (h:r≠d):VC l d s r=l r:=by unfold VC;simp [h]
theorem VD {l:Nat→Spn} {d:Nat}:VC l d (l d)=l:=by
 funext r;unfold VC;split
 ·next h=>rw [h]
 rfl
def kG (turn:Nat) (l:Nat→Spn) (d:Nat) (s:Spn):Nat→Spn:=VC l d (newS turn (l d) s)

theorem SpOk.wid {turn:Nat} {a b:Spn} (ha:SpOk a) (hb:SpOk b):SpOk (Yu turn a (zR a b)):=by
 have hj:=ha.join hb
 unfold Yu
 split
 ·next h=>
  have hw:=XY (b:=b) ha h.2
  have:=hj.le hw.1
  have:=hj.lo
  have:=hj.hi
  unfold I64 at *
  refine ⟨?_,?_,fun _=>?_,fun hn=>?_⟩
  ·show I64 (if _ then _ else _)
   unfold I64 vz;split<;>omega
  ·show I64 (if _ then _ else _)
   unfold I64 vi;split<;>omega
  ·show (if _ then _ else _)≤(if _ then _ else _)
   unfold vz vi;split<;>split<;>omega
  rw [show _=(zR a b).has from rfl,hw.1] at hn
  cases hn
 exact hj
theorem SpOk.new {turn:Nat} {a b:Spn} (ha:SpOk a) (hb:SpOk b):SpOk (newS turn a b):=by
 unfold newS
 split
 ·exact ha
 exact ha.wid hb
theorem putSp_ok {turn:Nat} {l:Nat→Spn} {d:Nat} {s:Spn} (h:∀r,SpOk (l r)) (hs:SpOk s):∀r,SpOk (kG turn l d s r):=by
 intro r
 unfold kG VC
 split
 ·exact (h d).new hs
 exact h r

def rkS (s:Spn):Nat:=if s.has=false then 3 else (if s.lo=vz then 0 else 1)+(if s.hi=vi then 0 else 1)
theorem rkS_le (s:Spn):rkS s≤3:=by
 unfold rkS;split
 ·omega
 split<;>split<;>omega
theorem Yv {turn:Nat} {a b:Spn} (h2:2<turn) (ha:SpOk a) (hb:SpOk b) (hne:eqS (zR a b) a=false):rkS (newS turn a b)<rkS a:=by
 unfold newS
 rw [zQ (by simp [hne])]
 have hn:zR a b≠a:=fun e=>by rw [eqS_iff.2 e] at hne;cases hne
 cases h1:a.has
 ·have hbh:b.has=true:=by
   cases h:b.has
   ·exact absurd (by rw [Z5 h1,ha.no h1,hb.no h]) hn
   rfl
  unfold Yu
  rw [zQ (by simp [h1]),Z5 h1]
  unfold rkS
  rw [zQ (by simp [hbh]),zZ h1]
  split<;>split<;>omega
 obtain ⟨w1,w2,w3⟩:=XY (b:=b) ha h1
 have hlo:=ha.lo
 have hhi:=ha.hi
 have hjl:=(ha.join hb).lo
 have hjh:=(ha.join hb).hi
 unfold Yu
 rw [zZ ⟨h2,h1⟩]
 unfold rkS
 simp only [h1,w1,if_false,Bool.true_eq_false]
 unfold I64 at *
 have hor:(zR a b).lo<a.lo∨a.hi<(zR a b).hi:=by
  rcases Int.lt_or_le (zR a b).lo a.lo with h|h
  ·exact .inl h
  rcases Int.lt_or_le a.hi (zR a b).hi with g|g
  ·exact .inr g
  exact absurd (Spn.ext' (by omega) (by omega) (by rw [w1,h1])) hn
 unfold vz vi
 by_cases c1:(zR a b).lo<a.lo<;>by_cases c2:a.hi<(zR a b).hi<;>simp only [c1,c2,if_true,if_false]
 ·rw [zQ (by omega),zQ (by omega)];omega
 ·rw [zQ (show ¬ a.lo = -9223372036854775808 by omega)]
  have:(zR a b).hi=a.hi:=by omega
  rw [this];split<;>omega
 ·rw [zQ (show ¬ a.hi=9223372036854775807 by omega)]
  have:(zR a b).lo=a.lo:=by omega
  rw [this];split<;>omega
 omega
def JA (n:Nat) (l:Nat→Spn):Nat:=((List.range n).map fun r=>rkS (l r)).sum
theorem Xf (n:Nat) (l:Nat→Spn):JA (n+1) l=JA n l+rkS (l n):=by
 unfold JA;rw [yt];simp
theorem rksS_le (n:Nat) (l:Nat→Spn):JA n l≤3*n:=by
 induction n with
 | zero=>simp [JA]
 | succ n ih=>rw [Xf];have:=rkS_le (l n);omega
theorem JB {l:Nat→Spn} {d:Nat} {s:Spn} (hs:rkS s≤rkS (l d)):∀n,JA n (VC l d s)≤JA n l∧(d<n→rkS s<rkS (l d)→JA n (VC l d s)<JA n l)
 | 0=>⟨by simp [JA],fun h=>by omega⟩
 | n+1=>by
  obtain ⟨h1,h2⟩:=JB hs n
  rw [Xf,Xf]
  by_cases e:n=d
  ·subst e
   rw [QJ]
   exact ⟨by omega,fun _ h=>by omega⟩
  rw [XZ e]
  exact ⟨by omega,fun h g=>by have:=h2 (by omega) g;omega⟩

inductive ItS where
 | phi (p:PhiL)
 | ins (i:InsL)
def vlS (l:Nat→Spn) (v:Bool×Int):Spn:=if v.1=true then l v.2.toNat else ofS v.2 v.2
def phS (l:Nat→Spn) (src:List (Bool×Int)):Spn:=src.foldl (fun s v=>zR s (vlS l v)) vc
def ItS.dst:ItS→Int
 | .phi p=>p.dst
 | .ins i=>i.dst
def ItS.made (l:Nat→Spn):ItS→Spn
 | .phi p=>phS l p.src
 | .ins i=>Xu i.op (vlS l (i.ar,i.an)) (vlS l (i.br,i.bn))
def itS (turn:Nat) (s:(Nat→Spn)×Bool) (x:ItS):(Nat→Spn)×Bool:=
 if x.dst<0 then s else (kG turn s.1 x.dst.toNat (x.made s.1),s.2 || Kz s.1 x.dst.toNat (x.made s.1))
def itsB (b:BlkL):List ItS:=b.phis.map .phi++b.list.map .ins
def itsF (f:FunL):List ItS:=f.blocks.flatMap itsB
def KA (f:FunL) (turn:Nat) (l:Nat→Spn):(Nat→Spn)×Bool:=(itsF f).foldl (itS turn) (l,false)
def spnN (f:FunL):Nat→Nat→(Nat→Spn)→Nat→Spn
 | 0,_,l=>l
 | k+1,t,l=>if (KA f t l).2=true then spnN f k (t+1) (KA f t l).1 else (KA f t l).1
def Q6 (f:FunL) (r:Nat):Spn:=if (r:Int)<f.params then jW else vc
def msS (n t:Nat) (l:Nat→Spn):Nat:=(3 - t)*(3*n+2)+JA n l+1
def qN (f:FunL):Nat→Spn:=spnN f (msS f.regs.toNat 0 (Q6 f)+1) 0 (Q6 f)

def ItOk (n:Nat):ItS→Prop
 | .phi p=>p.dst<n∧∀v∈p.src,I64 v.2∧(v.1=true→0≤v.2∧v.2<n)
 | .ins i=>i.dst<n∧1≤i.op∧i.op≤22∧I64 i.an∧I64 i.bn∧(i.ar=true→0≤i.an∧i.an<n)∧(i.br=true→0≤i.bn∧i.bn<n)
theorem ItOk.dst {n:Nat}:∀{x:ItS},ItOk n x→x.dst<n
 | .phi _,h=>h.1
 | .ins _,h=>h.1

theorem Z6 {a b m:Int} (hb:1≤b) (hm:0≤m) (h1:-m - 1≤a) (h2:a≤m):-m - 1≤a.tdiv b∧a.tdiv b≤m:=by
 rcases Int.lt_or_le a 0 with h|h
 ·have e:a.tdiv b = -((-a).tdiv b):=by rw [Int.neg_tdiv];omega
  have h3:0≤(-a).tdiv b:=Int.tdiv_nonneg (by omega) (by omega)
  have h4:(-a).tdiv b≤-a:=by
   rw [Int.tdiv_eq_ediv_of_nonneg (by omega)]
   exact Int.ediv_le_self _ (by omega)
  omega
 have h3:0≤a.tdiv b:=Int.tdiv_nonneg h (by omega)
 have h4:a.tdiv b≤a:=by
  rw [Int.tdiv_eq_ediv_of_nonneg h]
  exact Int.ediv_le_self _ h
 omega
theorem tdiv_mono {a b c:Int} (hc:1≤c) (h:a≤b):a.tdiv c≤b.tdiv c:=by
 rcases Int.lt_or_le a 0 with h1|h1
 ·have ea:a.tdiv c = -((-a).tdiv c):=by rw [Int.neg_tdiv];omega
  rcases Int.lt_or_le b 0 with h2|h2
  ·have eb:b.tdiv c = -((-b).tdiv c):=by rw [Int.neg_tdiv];omega
   have:(-b).tdiv c≤(-a).tdiv c:=by
    rw [Int.tdiv_eq_ediv_of_nonneg (by omega),Int.tdiv_eq_ediv_of_nonneg (by omega)]
    exact Int.ediv_le_ediv (by omega) (by omega)
   omega
  have h3:0≤(-a).tdiv c:=Int.tdiv_nonneg (by omega) (by omega)
  have h4:0≤b.tdiv c:=Int.tdiv_nonneg h2 (by omega)
  omega
 rw [Int.tdiv_eq_ediv_of_nonneg h1,Int.tdiv_eq_ediv_of_nonneg (by omega)]
 exact Int.ediv_le_ediv (by omega) h
theorem maskS_bd {n:Int} (h0:0≤n) (h1:n≤vi):n≤Qo n∧Qo n≤vi:=by
 unfold Qo Q5
 split
 ·have:n=0:=by omega
  subst this;unfold vi;simp
 have hn:n.toNat≠0:=by omega
 have h2:n.toNat<2 ^ (n.toNat.log2+1):=Nat.lt_log2_self
 have h3:n.toNat.log2<63:=(Nat.log2_lt hn).2 (by unfold vi at h1;omega)
 have h4:2 ^ (n.toNat.log2+1)≤2 ^ 63:=Nat.pow_le_pow_right (by omega) (by omega)
 have h5:((2:Int) ^ (n.toNat.log2+1))=((2 ^ (n.toNat.log2+1):Nat):Int):=by simp
 rw [h5]
 generalize 2 ^ (n.toNat.log2+1)=m at *
 unfold vi
 omega
theorem SpOk.over:∀(l:List Int) {s:Spn},SpOk s→SpOk (jo l s)
 | [],_,h=>h
 | n::l,s,h=>by
  unfold jo
  split
  ·next g=>
   have g:vz≤n∧n≤vi:=by simpa [Qg] using g
   unfold vz vi at g
   exact SpOk.over l (h.join (.of (by omega) (by omega) (by omega)))
  exact .all
theorem SpOk.sure (a b:Bool):SpOk (x8 a b):=by
 unfold x8
 split
 ·exact .of (by omega) (by omega) (by omega)
 split<;>exact .of (by omega) (by omega) (by omega)
theorem sh_11 (a b:Int):(twoL 11 a b).1=a / 2 ^ (b % 64).toNat:=rfl
theorem sh_bd {a:Int} (k:Nat) (h1:-9223372036854775808≤a) (h2:a≤9223372036854775807):-9223372036854775808≤a / 2 ^ k∧a / 2 ^ k≤9223372036854775807:=by
 have hp:(0:Int)<2 ^ k:=by
  have:(0:Nat)<2 ^ k:=Nat.pow_pos (by omega)
  have e:((2:Int) ^ k)=((2 ^ k:Nat):Int):=by simp
  rw [e];omega
 constructor
 ·rw [Int.le_ediv_iff_mul_le hp]
  generalize (2:Int) ^ k=p at *
  omega
 have h3:a / 2 ^ k≤9223372036854775807 / 2 ^ k:=Int.ediv_le_ediv hp h2
 have h4:(9223372036854775807:Int) / 2 ^ k≤9223372036854775807:=Int.ediv_le_self _ (by omega)
 omega
theorem sh_mono {a b:Int} (k:Nat) (h:a≤b):a / 2 ^ k≤b / 2 ^ k:=by
 have hp:(0:Int)<2 ^ k:=by
  have:(0:Nat)<2 ^ k:=Nat.pow_pos (by omega)
  have e:((2:Int) ^ k)=((2 ^ k:Nat):Int):=by simp
  rw [e];omega
 exact Int.ediv_le_ediv hp h
theorem SpOk.mak {op:Int} {x y:Spn} (hx:SpOk x) (hy:SpOk y) (h1:1≤op):SpOk (Xu op x y):=by
 unfold Xu
 by_cases h17:17<op
 ·rw [zZ h17];exact .all
 rw [zQ h17]
 by_cases hn:x.has=false∨(2≤op∧op≤15)∧y.has=false
 ·rw [zZ hn];exact .none
 rw [zQ hn]
 have hxh:x.has=true:=by
  cases h:x.has
  ·exact absurd (.inl h) hn
  rfl
 have xle:=hx.le hxh
 obtain ⟨x1,x2⟩:=hx.lo
 obtain ⟨x3,x4⟩:=hx.hi
 have hyh:2≤op∧op≤15→y.lo≤y.hi:=fun h=>hy.le (by
  cases g:y.has
  ·exact absurd (.inr ⟨h,g⟩) hn
  rfl)
 obtain ⟨y1,y2⟩:=hy.lo
 obtain ⟨y3,y4⟩:=hy.hi
 split
 ·exact hx
 split
 ·exact .over _ .none
 split
 ·exact .over _ .none
 split
 ·exact .over _ .none
 split
 ·have yle:=hyh (by omega)
  unfold Yt
  split
  ·exact .all
  split
  ·have a1:=Z6 (a:=x.lo) (b:=y.lo) (m:=9223372036854775807) (by omega) (by omega) (by omega) (by omega)
   have a2:=Z6 (a:=x.hi) (b:=y.lo) (m:=9223372036854775807) (by omega) (by omega) (by omega) (by omega)
   exact .of (by omega) (tdiv_mono (by omega) xle) (by omega)
  split
  ·exact .of (by omega) (by omega) (by omega)
  split
  ·exact .of (by omega) (by omega) (by omega)
  split
  ·exact .of (by omega) (by omega) (by omega)
  exact .of (by omega) (by omega) (by omega)
 split
 ·have yle:=hyh (by omega)
  unfold Xt
  split
  ·split
   ·exact .of (by omega) (by omega) (by omega)
   split
   ·exact .of (by omega) (by omega) (by omega)
   split
   ·exact .of (by omega) (by omega) (by omega)
   exact .all
  split
  ·exact .all
  have hm:=maskS_bd (n:=max x.hi y.hi) (by omega) (by unfold vi;omega)
  unfold vi at hm
  split
  ·exact .of (by omega) (by omega) (by omega)
  exact .of (by omega) (by omega) (by omega)
 split
 ·unfold K2
  split
  ·split
   ·have:I64 (twoL 10 x.lo y.lo).1:=by
     show I64 (wrap64 _)
     unfold I64 wrap64;omega
    unfold I64 at this
    exact .of (by omega) (by omega) (by omega)
   exact .all
  split
  ·rw [sh_11,sh_11]
   have a1:=sh_bd (y.lo % 64).toNat x1 x2
   have a2:=sh_bd (y.lo % 64).toNat x3 x4
   exact .of (by omega) (sh_mono _ xle) (by omega)
  exact .of (by omega) (by omega) (by omega)
 split
 ·split
  ·exact .all
  unfold vz at *
  exact .of (by omega) (by omega) (by omega)
 split
 ·exact .of (by omega) (by omega) (by omega)
 unfold jz
 split
 ·exact .sure _ _
 split
 ·exact .sure _ _
 split
 ·exact .sure _ _
 exact .sure _ _

def xp (l:Nat→Spn) (x:InsL):InsL:=
 if x.op≤17∧¬((x.op=5∨x.op=6)∧(x.br=true∨x.bn=0))∧Ys (l x.dst.toNat)=true then ⟨1,x.dst,false,(l x.dst.toNat).lo,false,0,0,[]⟩ else x
def insT (l:Nat→Spn) (f:FunL):FunL:={ f with blocks:=f.blocks.map fun b=>{ b with list:=b.list.map (xp l) } }
def jr (l:Nat→Spn) (x:EndL):Option Nat:=
 if x.kind=3 then
  let s:=vlS l (x.onr,x.onn)
  if s.has=true∧s.lo=0∧s.hi=0 then some (x.to.getD 0 0).toNat
  else if s.has=true∧(0<s.lo∨s.hi<0) then some (x.to.getD 1 0).toNat
  else none
 else none
def kg (l:Nat→Spn) (f:FunL) (b:Nat):FunL:=match jr l (atF f b).fin with|some g=>jV f b g|none=>f
def xU (f:FunL):FunL:=(List.range f.blocks.length).foldl (kg (qN f)) (insT (qN f) f)

theorem jS (l:Nat→Spn) (f:FunL):(insT l f).blocks.length=f.blocks.length:=by simp [insT]
theorem JC {l:Nat→Spn} {f:FunL} {b:Nat} (h:b<(insT l f).blocks.length):(insT l f).blocks[b]={ (f.blocks[b]'(by rw [←jS l f];exact h)) with list:=(f.blocks[b]'(by rw [←jS l f];exact h)).list.map (xp l) }:=by simp [insT]
theorem Yw (l:Nat→Spn) (f:FunL) (c:Nat):insN (insT l f) c=insN f c:=by
 have e:Qh (insT l f)=Qh f:=by
  unfold Qh insT
  rw [yy]
  rfl
 unfold insN xV
 rw [e,jS]
theorem sureI_ok {regs:Int} {nf:Nat} {P:Nat→Int} {x:InsL} (l:Nat→Spn) (h:InsC regs nf P x):InsC regs nf P (xp l x):=by
 unfold xp
 split
 ·rename_i hc
  have hd:shD x.op=true:=by
   unfold shD
   rw [yY]
   have:=h.op
   omega
  have hr:=h.d1 hd (by omega)
  refine ⟨by show (1:Int)≤1∧(1:Int)≤22;omega,fun e=>absurd e (by show ¬ shD 1=false;decide),fun e=>absurd e (by show ¬ shA 1=false;decide),fun _=>⟨rfl,rfl⟩,fun _=>⟨rfl,rfl⟩,fun _ _=>hr,fun e=>?_,fun e=>?_,fun e=>?_⟩
  ·have e:false=true:=e
   cases e
  ·have e:false=true:=e
   cases e
  have e:(1:Int)=20:=e
  omega
 exact h
theorem FunC.insT {nf:Nat} {P:Nat→Int} {f:FunL} (l:Nat→Spn) (h:FunC nf P f):FunC nf P (Go.Proofs.YtbnnhmcloecijaaGreatDoor.insT l f):=by
 have hl:=jS l f
 have many:j6 (Go.Proofs.YtbnnhmcloecijaaGreatDoor.insT l f)=j6 f:=by
  unfold j6 Go.Proofs.YtbnnhmcloecijaaGreatDoor.insT
  rw [yy]
  congr 1
  exact ya fun b _=>by simp
 refine ⟨by rw [hl];exact h.n1,by rw [hl];exact h.n40,h.par,h.reg,by rw [many];exact h.many,fun b hb=>?_,fun b hb p hp=>?_,fun b hb x hx=>?_⟩
 ·have hb':b<f.blocks.length:=by rw [←hl];exact hb
  have ho:=h.fin b hb'
  rw [JC hb]
  exact ⟨ho.kind,ho.len,fun t ht=>by have:=ho.to t ht;omega,ho.two,ho.jump,ho.on⟩
 ·have hb':b<f.blocks.length:=by rw [←hl];exact hb
  rw [JC hb] at hp
  rw [Yw]
  exact h.phi b hb' p hp
 have hb':b<f.blocks.length:=by rw [←hl];exact hb
 rw [JC hb] at hx
 obtain ⟨y,hy,rfl⟩:=yD.1 hx
 exact insC_iff.2 (sureI_ok l (insC_iff.1 (h.ins b hb' y hy)))

theorem vu {nf:Nat} {P:Nat→Int} {f:FunL} (h:FunC nf P f) {l:Nat→Spn} {b g:Nat} (hb:b<f.blocks.length) (hg:jr l (atF f b).fin=some g):MayC f b g:=by
 unfold jr at hg
 rw [qC hb] at hg
 split at hg
 ·rename_i hk
  have he:=h.fin b hb
  have hl:=he.len
  obtain ⟨x,y,hxy⟩:∃x y,f.blocks[b].fin.to=[x,y]:=by
   rcases e:f.blocks[b].fin.to with _|⟨x,_|⟨y,_|⟨z,l⟩⟩⟩
   ·simp [e] at hl;omega
   ·simp [e] at hl;omega
   ·exact ⟨x,y,rfl⟩
   simp [e] at hl;omega
  have hx:=he.to x (by rw [hxy];simp)
  have hy:=he.to y (by rw [hxy];simp)
  have key:∀z,z=x∨z=y→z.toNat=g→MayC f b g:=fun z hz e=>by
   refine ⟨hb,?_,hk,?_⟩
   ·rcases hz with rfl|rfl<;>omega
   rw [qM hb,hxy]
   rcases hz with rfl|rfl
   ·have:(g:Int)=z:=by omega
    rw [this];simp
   have:(g:Int)=z:=by omega
   rw [this];simp
  dsimp only at hg
  rw [hxy] at hg
  split at hg
  ·injection hg with hg
   exact key x (.inl rfl) hg
  split at hg
  ·injection hg with hg
   exact key y (.inr rfl) hg
  cases hg
 cases hg
theorem KB {nf:Nat} {P:Nat→Int} {f:FunL} (h:FunC nf P f) {l:Nat→Spn} {b:Nat} (hb:b<f.blocks.length):FunC nf P (kg l f b)∧(kg l f b).blocks.length=f.blocks.length:=by
 unfold kg
 cases e:jr l (atF f b).fin with
 | none=>exact ⟨h,rfl⟩
 | some g=>exact ⟨h.cut (vu h hb e),qS f b g⟩
theorem FunC.span {nf:Nat} {P:Nat→Int} {f:FunL} (h:FunC nf P f):FunC nf P (xU f)∧(xU f).blocks.length=f.blocks.length:=by
 unfold xU
 have key:∀(L:List Nat) (g:FunL),(∀b∈L,b<f.blocks.length)→FunC nf P g→g.blocks.length=f.blocks.length→FunC nf P (L.foldl (kg (qN f)) g)∧(L.foldl (kg (qN f)) g).blocks.length=f.blocks.length:=by
  intro L
  induction L with
  | nil=>intro g _ h hn;exact ⟨h,hn⟩
  | cons b L ih=>
   intro g hl hg hn
   obtain ⟨h1,h2⟩:=KB (l:=qN f) hg (b:=b) (by rw [hn];exact hl b (.head _))
   exact ih _ (fun x hx=>hl x (.tail _ hx)) h1 (h2.trans hn)
 exact key _ _ (fun b hb=>yR.1 hb) (h.insT _) (jS _ _)

theorem cut_fin {f:FunL} {b g i:Nat} (hi:i<f.blocks.length):(atF (jV f b g) i).fin=if i=b then ⟨2,false,0,(atF f b).fin.to.filter fun t=>decide (t≠(g:Int))⟩ else (atF f i).fin:=by
 have h:i<(jV f b g).blocks.length:=by rw [qS];exact hi
 rw [qC h,Zn h]
 by_cases e:i=b
 ·subst e
  simp only [if_true]
  rw [qC hi]
 simp only [zQ e]
 rw [qC hi]
def NumT (x:EndL):Prop:=x.kind=3∧x.onr=false
theorem cutS_fin {l:Nat→Spn} {f:FunL} {b i:Nat} (hi:i<f.blocks.length) (hb:b<f.blocks.length):¬ NumT (atF (kg l f b) i).fin∨(i≠b∧(atF (kg l f b) i).fin=(atF f i).fin):=by
 unfold kg
 by_cases e:i=b
 rotate_left
 ·right
  refine ⟨e,?_⟩
  cases hg:jr l (atF f b).fin with
  | some g=>
   show (atF (jV f b g) i).fin=_
   rw [cut_fin hi,zQ e]
  | none=>rfl
 subst e
 left
 cases hg:jr l (atF f i).fin with
 | some g=>
  show ¬ NumT (atF (jV f i g) i).fin
  rw [cut_fin hi,zZ rfl]
  rintro ⟨h,_⟩
  have h:(2:Int)=3:=h
  omega
 | none=>
  rintro ⟨h1,h2⟩
  unfold jr at hg
  rw [zZ h1] at hg
  dsimp only at hg
  have e:vlS l ((atF f i).fin.onr,(atF f i).fin.onn)=ofS (atF f i).fin.onn (atF f i).fin.onn:=by
   unfold vlS
   rw [zQ (by simp [h2])]
  rw [e] at hg
  split at hg
  ·cases hg
  rename_i n1
  split at hg
  ·cases hg
  rename_i n2
  by_cases e0:(atF f i).fin.onn=0
  ·exact n1 ⟨rfl,e0,e0⟩
  refine n2 ⟨rfl,?_⟩
  show 0<(atF f i).fin.onn∨(atF f i).fin.onn<0
  omega
theorem Yx (l:Nat→Spn) (f:FunL) (b:Nat):(kg l f b).blocks.length=f.blocks.length:=by
 unfold kg
 split
 ·exact qS f b _
 rfl
theorem mx (f:FunL) {b:Nat} (hb:b<f.blocks.length):¬ NumT (atF (xU f) b).fin:=by
 unfold xU
 have key:∀k,k≤f.blocks.length→((List.range k).foldl (kg (qN f)) (insT (qN f) f)).blocks.length=f.blocks.length∧∀x,x<k→¬ NumT (atF ((List.range k).foldl (kg (qN f)) (insT (qN f) f)) x).fin:=by
  intro k
  induction k with
  | zero=>intro _;exact ⟨jS _ _,fun x hx=>by omega⟩
  | succ k ih=>
   intro hk
   obtain ⟨h1,h2⟩:=ih (by omega)
   rw [yt,yh,List.foldl_cons,List.foldl_nil]
   refine ⟨(Yx _ _ _).trans h1,fun x hx=>?_⟩
   rcases cutS_fin (l:=qN f) (f:=(List.range k).foldl (kg (qN f)) (insT (qN f) f)) (b:=k) (i:=x) (by rw [h1];omega) (by rw [h1];omega) with g|⟨g1,g2⟩
   ·exact g
   rw [g2];exact h2 x (by omega)
 exact (key _ (zK _)).2 b hb
theorem FunC.sure {nf:Nat} {P:Nat→Int} {f:FunL} (h:FunC nf P f) {b:Nat} (hb:b<(doT (xU f)).blocks.length):¬ NumT (atF (doT (xU f)) b).fin:=by
 obtain ⟨h1,h2⟩:=h.span
 rintro ⟨g1,g2⟩
 obtain ⟨c,hc,e⟩:=h1.tests b hb g1
 rw [h2] at hc
 exact mx f hc ⟨e.1.symm.trans g1,e.2.1.symm.trans g2⟩
def jt (u:UniL):UniL:={ u with funcs:=u.funcs.map xU }
theorem J0 (f:FunL):(xU f).name=f.name∧(xU f).params=f.params:=by
 unfold xU
 have key:∀(L:List Nat) (g:FunL),(L.foldl (kg (qN f)) g).name=g.name∧(L.foldl (kg (qN f)) g).params=g.params:=by
  intro L
  induction L with
  | nil=>intro g;exact ⟨rfl,rfl⟩
  | cons b L ih=>
   intro g
   have e:(kg (qN f) g b).name=g.name∧(kg (qN f) g b).params=g.params:=by
    unfold kg
    split
    ·exact ⟨rfl,rfl⟩
    exact ⟨rfl,rfl⟩
   exact ⟨(ih _).1.trans e.1,(ih _).2.trans e.2⟩
 exact ⟨(key _ _).1,(key _ _).2⟩
theorem ChkOk.span {u:UniL} (h:ChkOk u):chk (jt u)=(0,0)∧ChkOk (jt u):=
 h.same rfl (by simp [jt]) fun k hk=>by
  have e:(jt u).funcs[k]'(by simp [jt];exact hk)=xU u.funcs[k]:=by simp [jt]
  rw [e]
  exact ⟨(J0 _).1,(J0 _).2,(h.funC hk).span.1⟩

theorem J1 {p:Nat→Bool} {b:Nat} (hp:p b=true):∀{n:Nat},b<n→((List.range n).filter p).idxOf b=((List.range b).filter p).length
 | 0,h=>by omega
 | n+1,h=>by
  rw [yt,List.filter_append]
  by_cases e:b=n
  ·subst e
   have hn:b∉(List.range b).filter p:=fun g=>by
    have:=yR.1 (yu.1 g).1
    omega
   rw [List.idxOf_append,zQ hn,List.filter_cons,zZ hp]
   simp
  have hm:b∈(List.range n).filter p:=yu.2 ⟨yR.2 (by omega),hp⟩
  rw [List.idxOf_append,zZ hm]
  exact J1 hp (by omega)
def Xz (f:FunL) (b gone:Nat):Nat:=((List.range b).filter fun a=>decide ((gone:Int)∈tosB f.blocks a)).length
theorem cutAt_is {f:FunL} (hf:FunD f) {b gone:Nat} (m:MayC f b gone):(insN f gone).idxOf b=Xz f b gone:=by
 rw [hf.insN]
 exact J1 (by simpa using m.to) m.hb
theorem my (f:FunL) (b gone:Nat):Xz f (b+1) gone=Xz f b gone+if (gone:Int)∈tosB f.blocks b then 1 else 0:=by
 unfold Xz
 rw [yt,List.filter_append,yN]
 congr 1
 by_cases e:(gone:Int)∈tosB f.blocks b<;>simp [e]
end Go.Proofs.YtbnnhmcloecijaaGreatDoor
