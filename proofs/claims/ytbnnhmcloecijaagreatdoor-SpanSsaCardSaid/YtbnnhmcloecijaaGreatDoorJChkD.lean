/-
  The contract of the checker's end: what is wrong with the end of a block.
-/
import Derived.WalkSpells
import Derived.WalkLawsBesides
import Derived.Test.YtbnnhmcloecijaaGreatDoorJDatC
import Derived.RegionTactic
import Derived.BigQuiet
import Derived.Deep.QuietTactic
import Derived.Deep.RegionHeld
set_option maxRecDepth 100000
set_option maxHeartbeats 16000000
namespace Go.Proofs.YtbnnhmcloecijaaGreatDoor
open Go.RowKit

def xT (n lo hi:Int):Bool:=decide (lo≤n∧n≤hi)
theorem qG (n lo hi:Int) (w:World) :
  Calls Tryz.prog 48 #[.int .i64 n,.int .i64 lo,.int .i64 hi] w fun e w'=>e = .returned (.bool (xT n lo hi))∧w=w':=by
 by_cases h1:lo≤n
 ·by_cases h2:n≤hi
  all_goals
   go_enter Tryz.func48,Tryz.ntmps48
   go_wp2
   go_ret
   exact ⟨by simp [xT];omega,rfl⟩
 go_enter Tryz.func48,Tryz.ntmps48
 go_wp2
 go_ret
 exact ⟨by simp [xT];omega,rfl⟩
theorem j9 (c a:Int) (w:World) :
  Calls Tryz.prog 22 #[.int .i64 c,.int .i64 a] w fun e w'=>e = .returned (.agg #[.int .i64 c,.int .i64 a])∧w'=w.alloc (.cells #[.int .i64 c,.int .i64 a] 27):=by
 go_enter Tryz.func22,Tryz.ntmps22
 go_wp2
 refine zk ?_ rfl ⟨rfl,rfl⟩
 simp [results,Tryz.results22,go_sem]

def xP (regs:Int) (r:Bool) (n:Int):Int:=if r=true∧¬(0≤n∧n≤regs - 1) then 3 else 0
def ko (regs n:Int):Int:=if 0≤n∧n≤regs - 1 then 0 else 3

theorem vR (g1 f1 b1 a1:Option Addr) (g2 g3 f2 f3 b2 b3 a2 a3:Nat) (nm:ByteArray) (params regs n:Int) (r:Bool) (w:World) (h1:0≤regs) (h2:regs≤9223372036854775807) :
  Calls Tryz.prog 132 #[.agg #[.slice g1 g2 g3,.slice f1 f2 f3,.string nm,.int .i64 params,.int .i64 regs,.slice b1 b2 b3,.slice a1 a2 a3],.agg #[.bool r,.int .i64 n]] w fun e w'=>e = .returned (.int .i64 (xP regs r n))∧Below w.heap.size w w':=by
 cases r
 ·go_enter Tryz.func132,Tryz.ntmps132
  go_wp2
  go_ret
  exact ⟨rfl,by exact bZ⟩
 by_cases h:0≤n∧n≤regs - 1
 ·have hw:xT n 0 (regs - 1)=true:=by simp [xT];omega
  have HV:Hid (xP regs true n=0):=by show _=_;unfold xP;rw [zQ (by simp;omega)]
  go_enter Tryz.func132,Tryz.ntmps132
  go_wp2_with (go_at_call 48;refine (qG _ _ _ _).mono ?_;rintro e w1 ⟨rfl,rfl⟩)
  go_ret
  refine ⟨by rw [HV.out];rfl,?_⟩
  exact bZ
 have hw:xT n 0 (regs - 1)=false:=by simp only [xT,xA];exact h
 have HV:Hid (xP regs true n=3):=by show _=_;unfold xP;rw [zZ ⟨rfl,h⟩]
 clear h
 go_enter Tryz.func132,Tryz.ntmps132
 go_wp2_with (go_at_call 48;refine (qG _ _ _ _).mono ?_;rintro e w1 ⟨rfl,rfl⟩)
 go_ret
 refine ⟨by rw [HV.out];rfl,?_⟩
 exact bZ
theorem ZH (g1 f1 b1 a1:Option Addr) (g2 g3 f2 f3 b2 b3 a2 a3:Nat) (nm:ByteArray) (params regs n:Int) (w:World) (h1:0≤regs) (h2:regs≤9223372036854775807) :
  Calls Tryz.prog 133 #[.agg #[.slice g1 g2 g3,.slice f1 f2 f3,.string nm,.int .i64 params,.int .i64 regs,.slice b1 b2 b3,.slice a1 a2 a3],.int .i64 n] w fun e w'=>e = .returned (.int .i64 (ko regs n))∧Below w.heap.size w w':=by
 by_cases h:0≤n∧n≤regs - 1
 ·have hw:xT n 0 (regs - 1)=true:=by simp [xT];omega
  have HV:Hid (ko regs n=0):=by show _=_;unfold ko;rw [zZ h]
  go_enter Tryz.func133,Tryz.ntmps133
  go_wp2_with (go_at_call 48;refine (qG _ _ _ _).mono ?_;rintro e w1 ⟨rfl,rfl⟩)
  go_ret
  refine ⟨by rw [HV.out];rfl,?_⟩
  exact bZ
 have hw:xT n 0 (regs - 1)=false:=by simp only [xT,xA];exact h
 have HV:Hid (ko regs n=3):=by show _=_;unfold ko;rw [zQ h]
 clear h
 go_enter Tryz.func133,Tryz.ntmps133
 go_wp2_with (go_at_call 48;refine (qG _ _ _ _).mono ?_;rintro e w1 ⟨rfl,rfl⟩)
 go_ret
 refine ⟨by rw [HV.out];rfl,?_⟩
 exact bZ

def J8 (c:Int) (first:Bool):Bool:=(decide (97≤c)&&decide (c≤122)) || (decide (65≤c)&&decide (c≤90)) || c == 95 || (!first&&(decide (48≤c)&&decide (c≤57)))
theorem nameC_iff (c:Int) (f:Bool):J8 c f=true↔(97≤c∧c≤122)∨(65≤c∧c≤90)∨c=95∨(f=false∧48≤c∧c≤57):=by
 unfold J8
 cases f<;>simp [or_assoc]
def kp (s:ByteArray):Bool:=decide (1≤s.size∧s.size≤12∧∀i (h:i<s.size),J8 s[i].toNat (decide (i=0))=true)
theorem Zw (s:ByteArray) (w:World) (hs:s.size≤maxLen) :
    Calls Tryz.prog 46 #[.string s] w fun e w'=>e = .returned (.bool (kp s))∧w=w':=by
  unfold maxLen at hs
  by_cases hz:1≤s.size∧s.size≤12
  · obtain ⟨hz1,hz2⟩:=hz
    go_enter Tryz.func46,Tryz.ntmps46
    go_wp2
    go_loop [15] (fun i=>∃k:Nat,k≤s.size∧i = .int .i64 k∧∀j (h:j<s.size),j<k→J8 s[j].toNat (decide (j=0))=true) (fun i=>s.size - (intOf i).toNat)
    case atStart=>exact ⟨0,by omega,rfl,fun j _ hj=>by omega⟩
    case round=>
      obtain ⟨k,hk,rfl,hV⟩:=hrel
      have HV:Hid (∀j (h:j<s.size),j<k→J8 s[j].toNat (decide (j=0))=true):=hV
      clear hV
      by_cases hlt:k<s.size
      · have Hlt:Hid (k<s.size):=hlt
        have HY:Hid (J8 s[k].toNat (decide (k=0))=true→∀j (h:j<s.size),j<k+1→J8 s[j].toNat (decide (j=0))=true):=by
          show _→_
          intro hy j hj hjk
          by_cases hj2:j<k
          · exact HV.out j hj hj2
          · obtain rfl:j=k:=by omega
            exact hy
        have HN:Hid (¬ J8 s[k].toNat (decide (k=0))=true→kp s=false):=by
          show _→_
          intro hn
          unfold kp
          rw [decide_eq_false]
          rintro ⟨_,_,hall⟩
          exact hn (hall k hlt)
        have HI:Hid (J8 s[k].toNat (decide (k=0))=true↔(97≤(s[k].toNat:Int)∧(s[k].toNat:Int)≤122)∨(65≤(s[k].toNat:Int)∧(s[k].toNat:Int)≤90)∨(s[k].toNat:Int)=95∨(decide (k=0)=false∧48≤(s[k].toNat:Int)∧(s[k].toNat:Int)≤57)):=nameC_iff _ _
        clear HV
        go_wp2
        all_goals first
          | (refine ⟨⟨k+1,by omega,by go_num,HY.out (HI.out.2 ?_)⟩,by simp [intOf];omega⟩
             clear HY HN HI
             simp at *
             omega)
          | (go_ret
             refine ⟨?_,rfl⟩
             rw [HN.out (fun h=>by
               have h2:=HI.out.1 h
               clear HY HN HI h
               simp at *
               omega)]
             rfl)
      · go_wp2
        go_ret
        refine ⟨?_,rfl⟩
        rw [show kp s=true from ?_]
        · rfl
        · unfold kp
          rw [yY]
          exact ⟨by omega,by omega,fun i hi=>HV.out i hi (by omega)⟩
  · have HN:Hid (kp s=false):=by
      show _=_
      unfold kp
      rw [decide_eq_false]
      rintro ⟨a,b,_⟩
      exact hz ⟨a,b⟩
    by_cases h1:s.size<1
    · clear hz
      go_enter Tryz.func46,Tryz.ntmps46
      go_wp2
      go_ret
      exact ⟨by rw [HN.out];rfl,rfl⟩
    · have h2:12<s.size:=by omega
      clear hz
      go_enter Tryz.func46,Tryz.ntmps46
      go_wp2
      go_ret
      exact ⟨by rw [HN.out];rfl,rfl⟩

def Tells (F:FuncId) (cap:Value) (w:World) (P:Int→Bool):Prop:=
 ∀(w1:World) (x:Int),Below w.heap.size w w1→Calls Tryz.prog F #[.int .i64 x,cap] w1 fun e w2=>e = .returned (.bool (P x))∧Below w1.heap.size w1 w2

theorem J9 (cap:Addr) (P:Int→Bool) (b o c n:Nat) (S:Nat→Int) (w:World) (hn:n≤9223372036854775807) (hb:b<w.heap.size) (hc:∀i,i<n→w.cell? ⟨b,o+i,none⟩=some (.int .i64 (S i))) (hf:Tells 131 (.pointer (some cap)) w P) :
  Calls Tryz.prog 92 #[.slice (some ⟨b,o,none⟩) n c,.func (.func 131) #[] #[.pointer (some cap)]] w fun e w'=>(∃k:Int,e = .returned (.int .i64 k)∧Hid ((k<0∧∀i,i<n→P (S i)=false)∨(0≤k∧∃i,i<n∧P (S i)=true)))∧Below w.heap.size w w':=by
 have HF:Hid (Tells 131 (.pointer (some cap)) w P):=hf
 have HC:Hid (∀i,i<n→w.cell? ⟨b,o+i,none⟩=some (.int .i64 (S i))):=hc
 clear hf hc
 go_enter Tryz.func92,Tryz.ntmps92
 go_wp2
 go_loopw [8] (fun i wr=>∃k:Nat,k≤n∧i = .int .i64 k∧(∀j,j<k→P (S j)=false)∧Below w.heap.size w wr) (fun i _=>n - (intOf i).toNat)
 case atStart=>exact ⟨0,by omega,rfl,fun j hj=>by omega,zI _ _⟩
 case round=>
  obtain ⟨k,hk,rfl,hV,hB⟩:=hrel
  have HV:Hid (∀j,j<k→P (S j)=false):=hV
  have HB:Hid (Below w.heap.size w wr):=hB
  clear hV hB
  by_cases hlt:k<n
  rotate_left
  ·go_wp2
   go_ret
   refine ⟨⟨_,rfl,.inl ⟨by omega,fun i hi=>HV.out i (by omega)⟩⟩,?_⟩
   exact HB.out
  have c0:wr.cell? ⟨b,o+k,none⟩=some (.int .i64 (S k)):=(HB.out.cell (p:=⟨b,o+k,none⟩) hb).trans (HC.out k hlt)
  have Hlt:Hid (k<n):=hlt
  generalize hs:S k=s at c0
  have HS:Hid (S k=s):=hs
  clear hs
  go_wp2_with fail
  refine (HF.out wr s HB.out).mono ?_
  rintro e w2 ⟨rfl,hb2⟩
  have HB2:Hid (Below w.heap.size w w2):=HB.out.trans (hb2.mono HB.out.size)
  clear hb2
  cases hp:P s
  ·have HP:Hid (P (S k)=false):=by rw [HS.out];exact hp
   clear hp
   go_wp2
   refine ⟨⟨k+1,by omega,by go_num,fun j hj=>?_,HB2.out⟩,by simp [intOf];omega⟩
   by_cases hj2:j<k
   ·exact HV.out j hj2
   obtain rfl:j=k:=by omega
   exact HP.out
  have HP:Hid (P (S k)=true):=by rw [HS.out];exact hp
  clear hp
  go_wp2
  go_ret
  exact ⟨⟨_,rfl,.inr ⟨by simp,k,Hlt.out,HP.out⟩⟩,HB2.out⟩
theorem Xv (cap:Addr) (p:Option Addr) (c:Nat) (w:World) :
  Calls Tryz.prog 92 #[.slice p 0 c,.func (.func 131) #[] #[.pointer (some cap)]] w fun e w'=>e = .returned (.int .i64 (-1))∧w=w':=by
 go_enter Tryz.func92,Tryz.ntmps92
 go_wp2
 go_loop [8] (fun i=>i = .int .i64 0) (fun _=>0)
 case atStart=>rfl
 case round=>
  subst hrel
  go_wp2
  go_ret
  exact ⟨rfl,rfl⟩

theorem zF (cap:Addr) (P:Int→Bool) (p:Option Addr) (c:Nat) (S:List Int) (w:World) (hn:S.length≤9223372036854775807) (h:SliceAt w 1 kh p S) (hf:Tells 131 (.pointer (some cap)) w P) :
  Calls Tryz.prog 130 #[.slice p S.length c,.func (.func 131) #[] #[.pointer (some cap)]] w fun e w'=>e = .returned (.bool (S.any P))∧Below w.heap.size w w':=by
 rcases Nat.eq_zero_or_pos S.length with h0|h0
 ·obtain rfl:=yd.1 h0
  clear h hf h0
  go_enter Tryz.func130,Tryz.ntmps130
  go_wp2_with (go_at_call 92;refine (Xv _ _ _ _).mono ?_;rintro e w1 ⟨rfl,rfl⟩)
  go_ret
  exact ⟨rfl,zI _ _⟩
 rcases h with rfl|⟨b,o,rfl,h⟩
 ·exact absurd h0 (by simp)
 have HC:Hid (∀i,i<S.length→w.cell? ⟨b,o+i,none⟩=some (.int .i64 (S.getD i 0))):=fun i hi=>by
  obtain ⟨cs,_,hc,⟨rfl,_⟩⟩:=h i hi
  have:=hc 0 (by omega)
  simp only [Nat.mul_one,yJ] at this
  rw [this];simp [List.getD,hi]
 have hb:b<w.heap.size:=qd (HC.out 0 h0)
 have HF:Hid (Tells 131 (.pointer (some cap)) w P):=hf
 clear h hf
 go_enter Tryz.func130,Tryz.ntmps130
 go_wp2_with fail
 refine (J9 _ P _ _ _ _ (fun i=>S.getD i 0) _ hn hb HC.out HF.out).mono ?_
 rintro e w1 ⟨⟨k,rfl,hk⟩,hb1⟩
 by_cases hk0:0≤k
 ·have HB:Hid (S.any P=true):=by
   show _=_
   rcases hk.out with ⟨h1,_⟩|⟨_,i,hi,hs⟩
   ·omega
   rw [List.any_eq_true]
   exact ⟨S[i],zP hi,by simpa [List.getD,hi] using hs⟩
  clear hk
  go_wp2
  go_ret
  exact ⟨by rw [HB.out];simp,hb1⟩
 have HB:Hid (S.any P=false):=by
  show _=_
  rcases hk.out with ⟨_,h2⟩|⟨h1,_⟩
  ·rw [List.any_eq_false]
   intro x hx
   obtain ⟨i,hi,rfl⟩:=yp.1 hx
   have:=h2 i hi
   simpa [List.getD,hi] using this
  omega
 clear hk
 go_wp2
 go_ret
 exact ⟨by rw [HB.out];simp;omega,hb1⟩

theorem run_neVal (r r':Bool) (x x':Int) (w:World) :
  (binOp .neq 40 (.agg #[.bool r,.int .i64 x]) (.agg #[.bool r',.int .i64 x'])).run Tryz.prog w = .ok (.bool (!(r == r'&&x == x'))) w:=by
 by_cases h1:r=r'<;>by_cases h2:x=x'<;>simp [go_sem,h1,h2]
theorem ju (x y x' y':Int) (w:World) :
  (binOp .neq 27 (.agg #[.int .i64 x,.int .i64 y]) (.agg #[.int .i64 x',.int .i64 y'])).run Tryz.prog w = .ok (.bool (!(x == x'&&y == y'))) w:=by
 by_cases h1:x=x'<;>by_cases h2:y=y'<;>simp [go_sem,h1,h2]

theorem SliceAt.to {α:Type} {w w':World} {size:Nat} {R R':List Value→α→Prop} {p:Option Addr} {xs:List α} (h:SliceAt w size R p xs) (hz:0<size) (hb:Below w.heap.size w w') (hR:∀cs,∀x∈xs,R cs x→R' cs x):SliceAt w' size R' p xs:=by
 rcases h with h|⟨b,o,hp,h⟩
 ·exact .inl h
 refine .inr ⟨b,o,hp,fun i hi=>?_⟩
 obtain ⟨cs,hl,hc,hx⟩:=h i hi
 refine ⟨cs,hl,fun j hj=>?_,hR _ _ (zP hi) hx⟩
 have h0:=hc 0 hz
 obtain ⟨v,hv⟩:∃v,cs[0]?=some v:=⟨cs[0]'(by omega),zj (by omega)⟩
 rw [hv] at h0
 exact (hb.cell (p:=⟨b,o+i*size+j,none⟩) (qd h0:b<_)).trans (hc j hj)

theorem end1_any (n:Int) (B nb b3:Nat) (b1:Option Addr) (w:World) (hn:nb≤9223372036854775807) (hc:w.cell? ⟨B,5,none⟩=some (.slice b1 nb b3)) :
  Calls Tryz.prog 131 #[.int .i64 n,.pointer (some ⟨B,0,none⟩)] w fun e w'=>e = .returned (.bool (!xT n 1 ((nb:Int) - 1)))∧w=w':=by
 go_enter Tryz.func131,Tryz.ntmps131
 go_wp2_with (go_at_call 48;refine (qG _ _ _ _).mono ?_;rintro e w1 ⟨rfl,rfl⟩)
 go_ret
 exact ⟨rfl,rfl⟩
theorem jv (B nb b3:Nat) (b1:Option Addr) (w:World) (hn:nb≤9223372036854775807) (hc:w.cell? ⟨B,5,none⟩=some (.slice b1 nb b3)) :
  Tells 131 (.pointer (some ⟨B,0,none⟩)) w fun n=>!xT n 1 ((nb:Int) - 1):=by
 intro w1 x hb
 refine (end1_any x B nb b3 b1 w1 hn ((hb.cell (p:=⟨B,5,none⟩) (qd hc)).trans hc)).mono ?_
 rintro e w2 ⟨rfl,rfl⟩
 exact ⟨rfl,zI _ _⟩

def Qa (regs:Int) (nb:Nat) (kind:Int) (r:Bool) (n:Int) (to:List Int):Int:=
 if ¬(1≤kind∧kind≤3) then 4
 else if (to.length:Int)≠kind - 1 then 9
 else if to.any (fun t=>!xT t 1 ((nb:Int) - 1)) then 3
 else if kind=3∧to.getD 0 0=to.getD 1 0∨kind=2∧¬(r=false∧n=0) then 5
 else xP regs r n

def Ways (w:World):Prop:=w.cell? ⟨1,0,none⟩=some (.int .i64 0)∧w.cell? ⟨1,1,none⟩=some (.int .i64 0)∧w.cell? ⟨1,2,none⟩=some (.int .i64 1)∧w.cell? ⟨1,3,none⟩=some (.int .i64 2)

theorem end_bad (g1 f1 b1 a1 tp:Option Addr) (g2 g3 f2 f3 nb b3 a2 a3 tc:Nat) (nm:ByteArray) (params regs kind n:Int) (r:Bool) (to:List Int) (w:World) (h:¬(1≤kind∧kind≤3)) :
  Calls Tryz.prog 94 #[.agg #[.slice g1 g2 g3,.slice f1 f2 f3,.string nm,.int .i64 params,.int .i64 regs,.slice b1 nb b3,.slice a1 a2 a3],.agg #[.int .i64 kind,.bool r,.int .i64 n,.slice tp to.length tc]] w fun e w'=>e = .returned (.int .i64 (Qa regs nb kind r n to))∧Below w.heap.size w w':=by
 have hw:xT kind 1 3=false:=by simp only [xT,xA];exact h
 have HV:Hid (Qa regs nb kind r n to=4):=by show _=_;unfold Qa;rw [zZ h]
 clear h
 go_enter Tryz.func94,Tryz.ntmps94
 go_wp2_with (go_at_call 48;refine (qG _ _ _ _).mono ?_;rintro e w1 ⟨rfl,rfl⟩)
 go_ret
 refine ⟨by rw [HV.out];rfl,?_⟩
 exact bZ

theorem end_len (g1 f1 b1 a1 tp:Option Addr) (g2 g3 f2 f3 nb b3 a2 a3 tc:Nat) (nm:ByteArray) (params regs kind n:Int) (r:Bool) (to:List Int) (w:World) (hk:kind=1∨kind=2∨kind=3) (h:(to.length:Int)≠kind - 1)
  (hl:to.length≤9223372036854775807) (hw0:Ways w) :
  Calls Tryz.prog 94 #[.agg #[.slice g1 g2 g3,.slice f1 f2 f3,.string nm,.int .i64 params,.int .i64 regs,.slice b1 nb b3,.slice a1 a2 a3],.agg #[.int .i64 kind,.bool r,.int .i64 n,.slice tp to.length tc]] w fun e w'=>e = .returned (.int .i64 (Qa regs nb kind r n to))∧Below w.heap.size w w':=by
 have HV:Hid (Qa regs nb kind r n to=9):=by show _=_;unfold Qa;rw [zQ (by omega),zZ h]
 obtain ⟨_,q1,q2,q3⟩:=hw0
 have hsz:=qd q1
 have hsz1:1<w.heap.size+1:=by omega
 generalize to.length=m at *
 have hw1:xT 1 1 3=true:=rfl
 have hw2:xT 2 1 3=true:=rfl
 have hw3:xT 3 1 3=true:=rfl
 have hm1:Hid ((m:Int)≠kind - 1):=h
 rcases hk with rfl|rfl|rfl
 all_goals
  have hb:=bne_iff_ne.2 hm1.out
  simp only [Int.reduceSub] at hb
  clear h
  go_enter Tryz.func94,Tryz.ntmps94
  go_wp2_with (go_at_call 48;refine (qG _ _ _ _).mono ?_;rintro e w1 ⟨rfl,rfl⟩)
  go_quiet (fail)
  go_wp2
  go_ret
  refine ⟨by rw [HV.out];rfl,?_⟩
  exact bZ
theorem end_kind1 (g1 f1 b1 a1 tp:Option Addr) (g2 g3 f2 f3 nb b3 a2 a3 tc:Nat) (nm:ByteArray) (params regs n:Int) (r:Bool) (w:World)
  (hr1:0≤regs) (hr2:regs≤9223372036854775807) (hn:nb≤9223372036854775807) (hto:SliceAt w 1 kh tp []) (hw0:Ways w) :
  Calls Tryz.prog 94 #[.agg #[.slice g1 g2 g3,.slice f1 f2 f3,.string nm,.int .i64 params,.int .i64 regs,.slice b1 nb b3,.slice a1 a2 a3],.agg #[.int .i64 1,.bool r,.int .i64 n,.slice tp 0 tc]] w fun e w'=>e = .returned (.int .i64 (Qa regs nb 1 r n []))∧Below w.heap.size w w':=by
 obtain ⟨_,q1,q2,q3⟩:=hw0
 have hsz:=qd q1
 have hsz1:1<w.heap.size+1:=by omega
 have hw1:xT 1 1 3=true:=rfl
 have hw2:xT 2 1 3=true:=rfl
 have hw3:xT 3 1 3=true:=rfl
 have HT:Hid (SliceAt w 1 kh tp []):=hto
 have HN:Hid (nb≤9223372036854775807):=hn
 have hany:([]:List Int).any (fun n=>!xT n 1 ((nb:Int) - 1))=false:=rfl
 have HV:Hid (Qa regs nb 1 r n []=xP regs r n):=by show _=_;simp [Qa]
 clear hto hn
 go_enter Tryz.func94,Tryz.ntmps94
 go_wp2_with (go_at_call 48;refine (qG _ _ _ _).mono ?_;rintro e w1 ⟨rfl,rfl⟩)
 go_quiet (fail)
 go_wp2_with fail
 refine (zF _ (fun n=>!xT n 1 ((nb:Int) - 1)) tp tc [] _ (by simp) (HT.out.to (by decide) ?_ (fun _ _ _ h=>h)) (jv w.heap.size nb b3 b1 _ HN.out (by first|rfl|(simp;done)|(simp [World.cell?_alloc_some, *];done)))).mono ?_
 ·exact bZ
 rw [hany]
 rintro e w3 ⟨rfl,hb3⟩
 obtain ⟨hc3,hf3,hz3⟩:=Zr hb3
 simp at hz3
 have hz4:w.heap.size<w3.heap.size:=by omega
 have hz5:w.heap.size+1<w3.heap.size:=by omega
 go_wp2
 go_quiet (fail)
 go_wp2_with fail
 refine (vR _ _ _ _ _ _ _ _ _ _ _ _ _ _ _ _ _ _ hr1 hr2).mono ?_
 rintro e w4 ⟨rfl,hb4⟩
 go_wp2
 go_ret
 refine ⟨by rw [HV.out];rfl,?_⟩
 exact bZ
theorem end_kind2 (g1 f1 b1 a1 tp:Option Addr) (g2 g3 f2 f3 nb b3 a2 a3 tc:Nat) (nm:ByteArray) (params regs n:Int) (r:Bool) (t:Int) (w:World)
  (hr1:0≤regs) (hr2:regs≤9223372036854775807) (hn:nb≤9223372036854775807) (hto:SliceAt w 1 kh tp [t]) (hw0:Ways w) :
  Calls Tryz.prog 94 #[.agg #[.slice g1 g2 g3,.slice f1 f2 f3,.string nm,.int .i64 params,.int .i64 regs,.slice b1 nb b3,.slice a1 a2 a3],.agg #[.int .i64 2,.bool r,.int .i64 n,.slice tp 1 tc]] w fun e w'=>e = .returned (.int .i64 (Qa regs nb 2 r n [t]))∧Below w.heap.size w w':=by
 obtain ⟨_,q1,q2,q3⟩:=hw0
 have hsz:=qd q1
 have hsz1:1<w.heap.size+1:=by omega
 have hw1:xT 1 1 3=true:=rfl
 have hw2:xT 2 1 3=true:=rfl
 have hw3:xT 3 1 3=true:=rfl
 have HT:Hid (SliceAt w 1 kh tp [t]):=hto
 have HN:Hid (nb≤9223372036854775807):=hn
 clear hto hn
 by_cases ht:xT t 1 ((nb:Int) - 1)=true
 rotate_left
 ·have hany:[t].any (fun n=>!xT n 1 ((nb:Int) - 1))=true:=by simp [ht]
  have HV:Hid (Qa regs nb 2 r n [t]=3):=by show _=_;simp only [Qa];rw [zQ (by omega),zQ (by simp),hany,zZ rfl]
  clear ht
  go_enter Tryz.func94,Tryz.ntmps94
  go_wp2_with (go_at_call 48;refine (qG _ _ _ _).mono ?_;rintro e w1 ⟨rfl,rfl⟩)
  go_quiet (fail)
  go_wp2_with fail
  refine (zF _ (fun n=>!xT n 1 ((nb:Int) - 1)) tp tc [t] _ (by simp) (HT.out.to (by decide) ?_ (fun _ _ _ h=>h)) (jv w.heap.size nb b3 b1 _ HN.out (by first|rfl|(simp;done)|(simp [World.cell?_alloc_some, *];done)))).mono ?_
  ·exact bZ
  rw [hany]
  rintro e w3 ⟨rfl,hb3⟩
  obtain ⟨hc3,hf3,hz3⟩:=Zr hb3
  simp at hz3
  have hz4:w.heap.size<w3.heap.size:=by omega
  have hz5:w.heap.size+1<w3.heap.size:=by omega
  go_wp2
  go_ret
  refine ⟨by rw [HV.out];rfl,?_⟩
  exact bZ
 have hany:[t].any (fun n=>!xT n 1 ((nb:Int) - 1))=false:=by simp [ht]
 by_cases hv:r=false∧n=0
 ·obtain ⟨rfl,rfl⟩:=hv
  have HV:Hid (Qa regs nb 2 false 0 [t]=xP regs false 0):=by show _=_;simp [Qa,ht]
  clear ht
  go_enter Tryz.func94,Tryz.ntmps94
  go_wp2_with (go_at_call 48;refine (qG _ _ _ _).mono ?_;rintro e w1 ⟨rfl,rfl⟩)
  go_quiet (fail)
  go_wp2_with fail
  refine (zF _ (fun n=>!xT n 1 ((nb:Int) - 1)) tp tc [t] _ (by simp) (HT.out.to (by decide) ?_ (fun _ _ _ h=>h)) (jv w.heap.size nb b3 b1 _ HN.out (by first|rfl|(simp;done)|(simp [World.cell?_alloc_some, *];done)))).mono ?_
  ·exact bZ
  rw [hany]
  rintro e w3 ⟨rfl,hb3⟩
  obtain ⟨hc3,hf3,hz3⟩:=Zr hb3
  simp at hz3
  have hz4:w.heap.size<w3.heap.size:=by omega
  have hz5:w.heap.size+1<w3.heap.size:=by omega
  go_wp2
  go_quiet (fail)
  go_wp2_with fail
  refine (vR _ _ _ _ _ _ _ _ _ _ _ _ _ _ _ _ _ _ hr1 hr2).mono ?_
  rintro e w4 ⟨rfl,hb4⟩
  go_wp2
  go_ret
  refine ⟨by rw [HV.out];rfl,?_⟩
  exact bZ
 have HV:Hid (Qa regs nb 2 r n [t]=5):=by show _=_;simp only [Qa];rw [zQ (by omega),zQ (by simp),hany];simp;intro h1 h2;exact absurd ⟨h1,h2⟩ hv
 have he:∀w:World,(binOp .neq 40 (.agg #[.bool r,.int .i64 n]) (.agg #[.bool false,.int .i64 0])).run Tryz.prog w = .ok (.bool true) w:=fun w=>by
  rw [run_neVal]
  cases r
  ·have hn0:n≠0:=fun h=>hv ⟨rfl,h⟩
   simp [hn0]
  simp
 clear ht hv
 go_enter Tryz.func94,Tryz.ntmps94
 go_wp2_with (go_at_call 48;refine (qG _ _ _ _).mono ?_;rintro e w1 ⟨rfl,rfl⟩)
 go_quiet (fail)
 go_wp2_with fail
 refine (zF _ (fun n=>!xT n 1 ((nb:Int) - 1)) tp tc [t] _ (by simp) (HT.out.to (by decide) ?_ (fun _ _ _ h=>h)) (jv w.heap.size nb b3 b1 _ HN.out (by first|rfl|(simp;done)|(simp [World.cell?_alloc_some, *];done)))).mono ?_
 ·exact bZ
 rw [hany]
 rintro e w3 ⟨rfl,hb3⟩
 obtain ⟨hc3,hf3,hz3⟩:=Zr hb3
 simp at hz3
 have hz4:w.heap.size<w3.heap.size:=by omega
 have hz5:w.heap.size+1<w3.heap.size:=by omega
 go_wp2
 go_quiet (fail)
 go_wp2
 go_ret
 refine ⟨by rw [HV.out];rfl,?_⟩
 exact bZ
theorem end_kind3 (g1 f1 b1 a1 tp:Option Addr) (g2 g3 f2 f3 nb b3 a2 a3 tc:Nat) (nm:ByteArray) (params regs n:Int) (r:Bool) (t u:Int) (w:World)
  (hr1:0≤regs) (hr2:regs≤9223372036854775807) (hn:nb≤9223372036854775807) (hto:SliceAt w 1 kh tp [t,u]) (hw0:Ways w) :
  Calls Tryz.prog 94 #[.agg #[.slice g1 g2 g3,.slice f1 f2 f3,.string nm,.int .i64 params,.int .i64 regs,.slice b1 nb b3,.slice a1 a2 a3],.agg #[.int .i64 3,.bool r,.int .i64 n,.slice tp 2 tc]] w fun e w'=>e = .returned (.int .i64 (Qa regs nb 3 r n [t,u]))∧Below w.heap.size w w':=by
 obtain ⟨_,q1,q2,q3⟩:=hw0
 have hsz:=qd q1
 have hsz1:1<w.heap.size+1:=by omega
 have hw1:xT 1 1 3=true:=rfl
 have hw2:xT 2 1 3=true:=rfl
 have hw3:xT 3 1 3=true:=rfl
 have HT:Hid (SliceAt w 1 kh tp [t,u]):=hto
 have HN:Hid (nb≤9223372036854775807):=hn
 obtain ⟨bt,ot,rfl,q4,q5⟩:∃b o,tp=some ⟨b,o,none⟩∧w.cell? ⟨b,o,none⟩=some (.int .i64 t)∧w.cell? ⟨b,o+1,none⟩=some (.int .i64 u):=by
  rcases hto with h|⟨b,o,rfl,h⟩
  ·simp at h
  obtain ⟨cs,_,h0,rfl,_⟩:=h 0 (by simp)
  obtain ⟨cs',_,h1,rfl,_⟩:=h 1 (by simp)
  exact ⟨b,o,rfl,by simpa using h0 0 (by simp),by simpa using h1 0 (by simp)⟩
 have hst:=qd q4
 have hhE:bt<w.heap.size+1:=by omega
 have hi6:bt<w.heap.size+1+1:=by omega
 clear hto hn
 by_cases ht:xT t 1 ((nb:Int) - 1)=true∧xT u 1 ((nb:Int) - 1)=true
 rotate_left
 ·have hany:[t,u].any (fun n=>!xT n 1 ((nb:Int) - 1))=true:=by simp only [List.any,Bool.or_false];cases h1:xT t 1 ((nb:Int) - 1)<;>cases h2:xT u 1 ((nb:Int) - 1)<;>simp_all
  have HV:Hid (Qa regs nb 3 r n [t,u]=3):=by show _=_;simp only [Qa];rw [zQ (by omega),zQ (by simp),hany,zZ rfl]
  clear ht
  go_enter Tryz.func94,Tryz.ntmps94
  go_wp2_with (go_at_call 48;refine (qG _ _ _ _).mono ?_;rintro e w1 ⟨rfl,rfl⟩)
  go_quiet (fail)
  go_wp2_with fail
  refine (zF _ (fun n=>!xT n 1 ((nb:Int) - 1)) (some ⟨bt,ot,none⟩) tc [t,u] _ (by simp) (HT.out.to (by decide) ?_ (fun _ _ _ h=>h)) (jv w.heap.size nb b3 b1 _ HN.out (by first|rfl|(simp;done)|(simp [World.cell?_alloc_some, *];done)))).mono ?_
  ·exact bZ
  rw [hany]
  rintro e w3 ⟨rfl,hb3⟩
  obtain ⟨hc3,hf3,hz3⟩:=Zr hb3
  simp at hz3
  have hz4:w.heap.size<w3.heap.size:=by omega
  have hz5:w.heap.size+1<w3.heap.size:=by omega
  go_wp2
  go_ret
  refine ⟨by rw [HV.out];rfl,?_⟩
  exact bZ
 have hany:[t,u].any (fun n=>!xT n 1 ((nb:Int) - 1))=false:=by simp [ht]
 by_cases hv:t=u
 ·subst hv
  have HV:Hid (Qa regs nb 3 r n [t,t]=5):=by show _=_;simp only [Qa];rw [zQ (by omega),zQ (by simp),hany];simp
  clear ht
  go_enter Tryz.func94,Tryz.ntmps94
  go_wp2_with (go_at_call 48;refine (qG _ _ _ _).mono ?_;rintro e w1 ⟨rfl,rfl⟩)
  go_quiet (fail)
  go_wp2_with fail
  refine (zF _ (fun n=>!xT n 1 ((nb:Int) - 1)) (some ⟨bt,ot,none⟩) tc [t,t] _ (by simp) (HT.out.to (by decide) ?_ (fun _ _ _ h=>h)) (jv w.heap.size nb b3 b1 _ HN.out (by first|rfl|(simp;done)|(simp [World.cell?_alloc_some, *];done)))).mono ?_
  ·exact bZ
  rw [hany]
  rintro e w3 ⟨rfl,hb3⟩
  obtain ⟨hc3,hf3,hz3⟩:=Zr hb3
  simp at hz3
  have hz4:w.heap.size<w3.heap.size:=by omega
  have hz5:w.heap.size+1<w3.heap.size:=by omega
  go_wp2
  go_quiet (fail)
  go_wp2
  go_ret
  refine ⟨by rw [HV.out];rfl,?_⟩
  exact bZ
 have HV:Hid (Qa regs nb 3 r n [t,u]=xP regs r n):=by show _=_;simp only [Qa];rw [zQ (by omega),zQ (by simp),hany];simp [hv]
 have hvb:(t == u)=false:=by simp [hv]
 clear ht
 go_enter Tryz.func94,Tryz.ntmps94
 go_wp2_with (go_at_call 48;refine (qG _ _ _ _).mono ?_;rintro e w1 ⟨rfl,rfl⟩)
 go_quiet (fail)
 go_wp2_with fail
 refine (zF _ (fun n=>!xT n 1 ((nb:Int) - 1)) (some ⟨bt,ot,none⟩) tc [t,u] _ (by simp) (HT.out.to (by decide) ?_ (fun _ _ _ h=>h)) (jv w.heap.size nb b3 b1 _ HN.out (by first|rfl|(simp;done)|(simp [World.cell?_alloc_some, *];done)))).mono ?_
 ·exact bZ
 rw [hany]
 rintro e w3 ⟨rfl,hb3⟩
 obtain ⟨hc3,hf3,hz3⟩:=Zr hb3
 simp at hz3
 have hz4:w.heap.size<w3.heap.size:=by omega
 have hz5:w.heap.size+1<w3.heap.size:=by omega
 go_wp2
 go_quiet (fail)
 go_wp2_with fail
 refine (vR _ _ _ _ _ _ _ _ _ _ _ _ _ _ _ _ _ _ hr1 hr2).mono ?_
 rintro e w4 ⟨rfl,hb4⟩
 go_wp2
 go_ret
 refine ⟨by rw [HV.out];rfl,?_⟩
 exact bZ
theorem end_any (g1 f1 b1 a1 tp:Option Addr) (g2 g3 f2 f3 nb b3 a2 a3 tc:Nat) (nm:ByteArray) (params regs kind n:Int) (r:Bool) (to:List Int) (w:World)
  (hr1:0≤regs) (hr2:regs≤9223372036854775807) (hn:nb≤9223372036854775807) (hl:to.length≤9223372036854775807) (hto:SliceAt w 1 kh tp to) (hw0:Ways w) :
  Calls Tryz.prog 94 #[.agg #[.slice g1 g2 g3,.slice f1 f2 f3,.string nm,.int .i64 params,.int .i64 regs,.slice b1 nb b3,.slice a1 a2 a3],.agg #[.int .i64 kind,.bool r,.int .i64 n,.slice tp to.length tc]] w fun e w'=>e = .returned (.int .i64 (Qa regs nb kind r n to))∧Below w.heap.size w w':=by
 by_cases hk:1≤kind∧kind≤3
 ·by_cases hlen:(to.length:Int)=kind - 1
  ·obtain rfl|rfl|rfl:kind=1∨kind=2∨kind=3:=by omega
   ·obtain rfl:to=[]:=yd.1 (by omega)
    exact end_kind1 _ _ _ _ _ _ _ _ _ _ _ _ _ _ _ _ _ _ _ _ hr1 hr2 hn hto hw0
   ·obtain ⟨t,rfl⟩:∃t,to=[t]:=List.length_eq_one_iff.1 (by omega)
    exact end_kind2 _ _ _ _ _ _ _ _ _ _ _ _ _ _ _ _ _ _ _ _ _ hr1 hr2 hn hto hw0
   obtain ⟨t,u,rfl⟩:∃t u,to=[t,u]:=by
    match to,hlen with
    | [t,u],_=>exact ⟨t,u,rfl⟩
    | [],h=>simp at h
    | [_],h=>simp at h
    | _::_::_::_,h=>simp at h;omega
   exact end_kind3 _ _ _ _ _ _ _ _ _ _ _ _ _ _ _ _ _ _ _ _ _ _ hr1 hr2 hn hto hw0
  exact end_len _ _ _ _ _ _ _ _ _ _ _ _ _ _ _ _ _ _ _ _ _ _ (by omega) hlen hl hw0
 exact end_bad _ _ _ _ _ _ _ _ _ _ _ _ _ _ _ _ _ _ _ _ _ _ hk
end Go.Proofs.YtbnnhmcloecijaaGreatDoor
