/-
  The contract of code.first: the first fault of three questions.
-/
import Derived.Test.YtgjjhadbjmcnpaaGreatDoorJChkA
import Derived.RegionTactic
import Derived.BigQuiet
import Derived.Deep.QuietTactic
import Derived.Deep.RegionHeld
set_option maxRecDepth 100000
set_option maxHeartbeats 16000000
namespace Go.Proofs.YtgjjhadbjmcnpaaGreatDoor
open Go.RowKit

def Tells (F:FuncId) (cap:Value) (w:World) (P:Int→Bool):Prop:=
 ∀(w1:World) (x:Int),Below w.heap.size w w1→Calls Tryz.prog F #[.int .i64 x,cap] w1 fun e w2=>e = .returned (.bool (P x))∧Below w1.heap.size w1 w2

theorem Zr (cap:Addr) (P:Int→Bool) (b o c n:Nat) (S:Nat→Int) (w:World) (hn:n≤9223372036854775807) (hb:b<w.heap.size) (hc:∀i,i<n→w.cell? ⟨b,o+i,none⟩=some (.int .i64 (S i))) (hf:Tells 80 (.pointer (some cap)) w P) :
  Calls Tryz.prog 104 #[.slice (some ⟨b,o,none⟩) n c,.func (.func 80) #[] #[.pointer (some cap)]] w fun e w'=>(∃k:Int,e = .returned (.int .i64 k)∧Hid ((k<0∧∀i,i<n→P (S i)=false)∨(0≤k∧∃i,i<n∧P (S i)=true)))∧Below w.heap.size w w':=by
 have HF:Hid (Tells 80 (.pointer (some cap)) w P):=hf
 have HC:Hid (∀i,i<n→w.cell? ⟨b,o+i,none⟩=some (.int .i64 (S i))):=hc
 clear hf hc
 go_enter Tryz.func104,Tryz.ntmps104
 go_wp2
 go_loopw [8] (fun i wr=>∃k:Nat,k≤n∧i = .int .i64 k∧(∀j,j<k→P (S j)=false)∧Below w.heap.size w wr) (fun i _=>n - (intOf i).toNat)
 case atStart=>exact ⟨0,by omega,rfl,fun j hj=>by omega,Below.refl _ _⟩
 case round=>
  obtain ⟨k,hk,rfl,hV,hB⟩:=hrel
  have HV:Hid (∀j,j<k→P (S j)=false):=hV
  have HB:Hid (Below w.heap.size w wr):=hB
  clear hV hB
  by_cases hlt:k<n
  rotate_left
  ·go_wp2
   go_ret
   refine ⟨⟨_,rfl,.inl ⟨by omega,fun i hi=>HV.out i (by omega)⟩⟩,?_⟩
   exact HB.out
  have c0:wr.cell? ⟨b,o+k,none⟩=some (.int .i64 (S k)):=(HB.out.cell (p:=⟨b,o+k,none⟩) hb).trans (HC.out k hlt)
  have Hlt:Hid (k<n):=hlt
  generalize hs:S k=s at c0
  have HS:Hid (S k=s):=hs
  clear hs
  go_wp2_with fail
  refine (HF.out wr s HB.out).mono ?_
  rintro e w2 ⟨rfl,hb2⟩
  have HB2:Hid (Below w.heap.size w w2):=HB.out.trans (hb2.mono HB.out.size)
  clear hb2
  cases hp:P s
  ·have HP:Hid (P (S k)=false):=by rw [HS.out];exact hp
   clear hp
   go_wp2
   refine ⟨⟨k+1,by omega,by go_num,fun j hj=>?_,HB2.out⟩,by simp [intOf];omega⟩
   by_cases hj2:j<k
   ·exact HV.out j hj2
   obtain rfl:j=k:=by omega
   exact HP.out
  have HP:Hid (P (S k)=true):=by rw [HS.out];exact hp
  clear hp
  go_wp2
  go_ret
  exact ⟨⟨_,rfl,.inr ⟨by simp,k,Hlt.out,HP.out⟩⟩,HB2.out⟩
theorem QW (cap:Addr) (p:Option Addr) (c:Nat) (w:World) :
  Calls Tryz.prog 104 #[.slice p 0 c,.func (.func 80) #[] #[.pointer (some cap)]] w fun e w'=>e = .returned (.int .i64 (-1))∧w=w':=by
 go_enter Tryz.func104,Tryz.ntmps104
 go_wp2
 go_loop [8] (fun i=>i = .int .i64 0) (fun _=>0)
 case atStart=>rfl
 case round=>
  subst hrel
  go_wp2
  go_ret
  exact ⟨rfl,rfl⟩

theorem zm (cap:Addr) (P:Int→Bool) (p:Option Addr) (c:Nat) (S:List Int) (w:World) (hn:S.length≤9223372036854775807) (h:SliceAt w 1 vX p S) (hf:Tells 80 (.pointer (some cap)) w P) :
  Calls Tryz.prog 79 #[.slice p S.length c,.func (.func 80) #[] #[.pointer (some cap)]] w fun e w'=>e = .returned (.bool (S.any P))∧Below w.heap.size w w':=by
 rcases Nat.eq_zero_or_pos S.length with h0|h0
 ·obtain rfl:=List.length_eq_zero_iff.1 h0
  clear h hf h0
  go_enter Tryz.func79,Tryz.ntmps79
  go_wp2_with (go_at_call 104;refine (QW _ _ _ _).mono ?_;rintro e w1 ⟨rfl,rfl⟩)
  go_ret
  exact ⟨rfl,Below.refl _ _⟩
 rcases h with rfl|⟨b,o,rfl,h⟩
 ·exact absurd h0 (by simp)
 have HC:Hid (∀i,i<S.length→w.cell? ⟨b,o+i,none⟩=some (.int .i64 (S.getD i 0))):=fun i hi=>by
  obtain ⟨cs,_,hc,⟨rfl,_⟩⟩:=h i hi
  have:=hc 0 (by omega)
  simp only [Nat.mul_one,Nat.add_zero] at this
  rw [this];simp [List.getD,hi]
 have hb:b<w.heap.size:=q9 (HC.out 0 h0)
 have HF:Hid (Tells 80 (.pointer (some cap)) w P):=hf
 clear h hf
 go_enter Tryz.func79,Tryz.ntmps79
 go_wp2_with fail
 refine (Zr _ P _ _ _ _ (fun i=>S.getD i 0) _ hn hb HC.out HF.out).mono ?_
 rintro e w1 ⟨⟨k,rfl,hk⟩,hb1⟩
 by_cases hk0:0≤k
 ·have HB:Hid (S.any P=true):=by
   show _=_
   rcases hk.out with ⟨h1,_⟩|⟨_,i,hi,hs⟩
   ·omega
   rw [List.any_eq_true]
   exact ⟨S[i],List.getElem_mem hi,by simpa [List.getD,hi] using hs⟩
  clear hk
  go_wp2
  go_ret
  exact ⟨by rw [HB.out];simp,hb1⟩
 have HB:Hid (S.any P=false):=by
  show _=_
  rcases hk.out with ⟨_,h2⟩|⟨h1,_⟩
  ·rw [List.any_eq_false]
   intro x hx
   obtain ⟨i,hi,rfl⟩:=List.mem_iff_getElem.1 hx
   have:=h2 i hi
   simpa [List.getD,hi] using this
  omega
 clear hk
 go_wp2
 go_ret
 exact ⟨by rw [HB.out];simp;omega,hb1⟩

theorem run_eqVal (r r':Bool) (x x':Int) (w:World) :
  (binOp .eql 44 (.agg #[.bool r,.int .i64 x]) (.agg #[.bool r',.int .i64 x'])).run Tryz.prog w = .ok (.bool (r == r'&&x == x')) w:=by
 by_cases h1:r=r'<;>by_cases h2:x=x'<;>simp [go_sem,h1,h2]
theorem run_neVal (r r':Bool) (x x':Int) (w:World) :
  (binOp .neq 44 (.agg #[.bool r,.int .i64 x]) (.agg #[.bool r',.int .i64 x'])).run Tryz.prog w = .ok (.bool (!(r == r'&&x == x'))) w:=by
 by_cases h1:r=r'<;>by_cases h2:x=x'<;>simp [go_sem,h1,h2]
theorem xH (x y x' y':Int) (w:World) :
  (binOp .neq 27 (.agg #[.int .i64 x,.int .i64 y]) (.agg #[.int .i64 x',.int .i64 y'])).run Tryz.prog w = .ok (.bool (!(x == x'&&y == y'))) w:=by
 by_cases h1:x=x'<;>by_cases h2:y=y'<;>simp [go_sem,h1,h2]

theorem SliceAt.to {α:Type} {w w':World} {size:Nat} {R R':List Value→α→Prop} {p:Option Addr} {xs:List α} (h:SliceAt w size R p xs) (hz:0<size) (hb:Below w.heap.size w w') (hR:∀cs,∀x∈xs,R cs x→R' cs x):SliceAt w' size R' p xs:=by
 rcases h with h|⟨b,o,hp,h⟩
 ·exact .inl h
 refine .inr ⟨b,o,hp,fun i hi=>?_⟩
 obtain ⟨cs,hl,hc,hx⟩:=h i hi
 refine ⟨cs,hl,fun j hj=>?_,hR _ _ (List.getElem_mem hi) hx⟩
 have h0:=hc 0 hz
 obtain ⟨v,hv⟩:∃v,cs[0]?=some v:=⟨cs[0]'(by omega),List.getElem?_eq_getElem (by omega)⟩
 rw [hv] at h0
 exact (hb.cell (p:=⟨b,o+i*size+j,none⟩) (q9 h0:b<_)).trans (hc j hj)

theorem end1_any (n:Int) (B nb b3:Nat) (b1:Option Addr) (w:World) (hn:nb≤9223372036854775807) (hc:w.cell? ⟨B,5,none⟩=some (.slice b1 nb b3)) :
  Calls Tryz.prog 80 #[.int .i64 n,.pointer (some ⟨B,0,none⟩)] w fun e w'=>e = .returned (.bool (!x9 n 1 ((nb:Int) - 1)))∧w=w':=by
 go_enter Tryz.func80,Tryz.ntmps80
 go_wp2_with (go_at_call 26;refine (qE _ _ _ _).mono ?_;rintro e w1 ⟨rfl,rfl⟩)
 go_ret
 exact ⟨rfl,rfl⟩
theorem xI (B nb b3:Nat) (b1:Option Addr) (w:World) (hn:nb≤9223372036854775807) (hc:w.cell? ⟨B,5,none⟩=some (.slice b1 nb b3)) :
  Tells 80 (.pointer (some ⟨B,0,none⟩)) w fun n=>!x9 n 1 ((nb:Int) - 1):=by
 intro w1 x hb
 refine (end1_any x B nb b3 b1 w1 hn ((hb.cell (p:=⟨B,5,none⟩) (q9 hc)).trans hc)).mono ?_
 rintro e w2 ⟨rfl,rfl⟩
 exact ⟨rfl,Below.refl _ _⟩

def vY (regs:Int) (nb:Nat) (kind:Int) (r:Bool) (n:Int) (to:List Int):Int:=
 if ¬(1≤kind∧kind≤3) then 4
 else if (to.length:Int)≠kind - 1 then 9
 else if to.any (fun t=>!x9 t 1 ((nb:Int) - 1)) then 3
 else if kind=3∧to.getD 0 0=to.getD 1 0∨kind=2∧¬(r=false∧n=0) then 5
 else xd regs r n

def Ways (w:World):Prop:=w.cell? ⟨0,0,none⟩=some (.int .i64 0)∧w.cell? ⟨0,1,none⟩=some (.int .i64 0)∧w.cell? ⟨0,2,none⟩=some (.int .i64 1)∧w.cell? ⟨0,3,none⟩=some (.int .i64 2)

theorem end_bad (g1 f1 b1 a1 tp:Option Addr) (g2 g3 f2 f3 nb b3 a2 a3 tc:Nat) (nm:ByteArray) (params regs kind n:Int) (r:Bool) (to:List Int) (w:World) (h:¬(1≤kind∧kind≤3)) :
  Calls Tryz.prog 57 #[.agg #[.slice g1 g2 g3,.slice f1 f2 f3,.string nm,.int .i64 params,.int .i64 regs,.slice b1 nb b3,.slice a1 a2 a3],.agg #[.int .i64 kind,.bool r,.int .i64 n,.slice tp to.length tc]] w fun e w'=>e = .returned (.int .i64 (vY regs nb kind r n to))∧Below w.heap.size w w':=by
 have hw:x9 kind 1 3=false:=by simp only [x9,decide_eq_false_iff_not];exact h
 have HV:Hid (vY regs nb kind r n to=4):=by show _=_;unfold vY;rw [if_pos h]
 clear h
 go_enter Tryz.func57,Tryz.ntmps57
 go_wp2_with (go_at_call 26;refine (qE _ _ _ _).mono ?_;rintro e w1 ⟨rfl,rfl⟩)
 go_ret
 refine ⟨by rw [HV.out];rfl,?_⟩
 exact bZ

theorem end_len (g1 f1 b1 a1 tp:Option Addr) (g2 g3 f2 f3 nb b3 a2 a3 tc:Nat) (nm:ByteArray) (params regs kind n:Int) (r:Bool) (to:List Int) (w:World) (hk:kind=1∨kind=2∨kind=3) (h:(to.length:Int)≠kind - 1)
  (hl:to.length≤9223372036854775807) (hw0:Ways w) :
  Calls Tryz.prog 57 #[.agg #[.slice g1 g2 g3,.slice f1 f2 f3,.string nm,.int .i64 params,.int .i64 regs,.slice b1 nb b3,.slice a1 a2 a3],.agg #[.int .i64 kind,.bool r,.int .i64 n,.slice tp to.length tc]] w fun e w'=>e = .returned (.int .i64 (vY regs nb kind r n to))∧Below w.heap.size w w':=by
 have HV:Hid (vY regs nb kind r n to=9):=by show _=_;unfold vY;rw [if_neg (by omega),if_pos h]
 obtain ⟨_,q1,q2,q3⟩:=hw0
 have hsz:=q9 q1
 have hsz1:0<w.heap.size+1:=by omega
 generalize to.length=m at *
 have hw1:x9 1 1 3=true:=rfl
 have hw2:x9 2 1 3=true:=rfl
 have hw3:x9 3 1 3=true:=rfl
 have hm1:Hid ((m:Int)≠kind - 1):=h
 rcases hk with rfl|rfl|rfl
 all_goals
  have hb:=bne_iff_ne.2 hm1.out
  simp only [Int.reduceSub] at hb
  clear h
  go_enter Tryz.func57,Tryz.ntmps57
  go_wp2_with (go_at_call 26;refine (qE _ _ _ _).mono ?_;rintro e w1 ⟨rfl,rfl⟩)
  go_quiet (fail)
  go_wp2
  go_ret
  refine ⟨by rw [HV.out];rfl,?_⟩
  exact bZ
theorem end_kind1 (g1 f1 b1 a1 tp:Option Addr) (g2 g3 f2 f3 nb b3 a2 a3 tc:Nat) (nm:ByteArray) (params regs n:Int) (r:Bool) (w:World)
  (hr1:0≤regs) (hr2:regs≤9223372036854775807) (hn:nb≤9223372036854775807) (hto:SliceAt w 1 vX tp []) (hw0:Ways w) :
  Calls Tryz.prog 57 #[.agg #[.slice g1 g2 g3,.slice f1 f2 f3,.string nm,.int .i64 params,.int .i64 regs,.slice b1 nb b3,.slice a1 a2 a3],.agg #[.int .i64 1,.bool r,.int .i64 n,.slice tp 0 tc]] w fun e w'=>e = .returned (.int .i64 (vY regs nb 1 r n []))∧Below w.heap.size w w':=by
 obtain ⟨_,q1,q2,q3⟩:=hw0
 have hsz:=q9 q1
 have hsz1:0<w.heap.size+1:=by omega
 have hw1:x9 1 1 3=true:=rfl
 have hw2:x9 2 1 3=true:=rfl
 have hw3:x9 3 1 3=true:=rfl
 have HT:Hid (SliceAt w 1 vX tp []):=hto
 have HN:Hid (nb≤9223372036854775807):=hn
 have hany:([]:List Int).any (fun n=>!x9 n 1 ((nb:Int) - 1))=false:=rfl
 have HV:Hid (vY regs nb 1 r n []=xd regs r n):=by show _=_;simp [vY]
 clear hto hn
 go_enter Tryz.func57,Tryz.ntmps57
 go_wp2_with (go_at_call 26;refine (qE _ _ _ _).mono ?_;rintro e w1 ⟨rfl,rfl⟩)
 go_quiet (fail)
 go_wp2_with fail
 refine (zm _ (fun n=>!x9 n 1 ((nb:Int) - 1)) tp tc [] _ (by simp) (HT.out.to (by decide) ?_ (fun _ _ _ h=>h)) (xI w.heap.size nb b3 b1 _ HN.out (by first|rfl|(simp;done)|(simp [World.cell?_alloc_some, *];done)))).mono ?_
 ·exact bZ
 rw [hany]
 rintro e w3 ⟨rfl,hb3⟩
 obtain ⟨hc3,hf3,hz3⟩:=Q2 hb3
 simp at hz3
 have hz4:w.heap.size<w3.heap.size:=by omega
 have hz5:w.heap.size+1<w3.heap.size:=by omega
 go_wp2
 go_quiet (fail)
 go_wp2_with fail
 refine (jz _ _ _ _ _ _ _ _ _ _ _ _ _ _ _ _ _ _ hr1 hr2).mono ?_
 rintro e w4 ⟨rfl,hb4⟩
 go_wp2
 go_ret
 refine ⟨by rw [HV.out];rfl,?_⟩
 exact bZ
theorem end_kind2 (g1 f1 b1 a1 tp:Option Addr) (g2 g3 f2 f3 nb b3 a2 a3 tc:Nat) (nm:ByteArray) (params regs n:Int) (r:Bool) (t:Int) (w:World)
  (hr1:0≤regs) (hr2:regs≤9223372036854775807) (hn:nb≤9223372036854775807) (hto:SliceAt w 1 vX tp [t]) (hw0:Ways w) :
  Calls Tryz.prog 57 #[.agg #[.slice g1 g2 g3,.slice f1 f2 f3,.string nm,.int .i64 params,.int .i64 regs,.slice b1 nb b3,.slice a1 a2 a3],.agg #[.int .i64 2,.bool r,.int .i64 n,.slice tp 1 tc]] w fun e w'=>e = .returned (.int .i64 (vY regs nb 2 r n [t]))∧Below w.heap.size w w':=by
 obtain ⟨_,q1,q2,q3⟩:=hw0
 have hsz:=q9 q1
 have hsz1:0<w.heap.size+1:=by omega
 have hw1:x9 1 1 3=true:=rfl
 have hw2:x9 2 1 3=true:=rfl
 have hw3:x9 3 1 3=true:=rfl
 have HT:Hid (SliceAt w 1 vX tp [t]):=hto
 have HN:Hid (nb≤9223372036854775807):=hn
 clear hto hn
 by_cases ht:x9 t 1 ((nb:Int) - 1)=true
 rotate_left
 ·have hany:[t].any (fun n=>!x9 n 1 ((nb:Int) - 1))=true:=by simp [ht]
  have HV:Hid (vY regs nb 2 r n [t]=3):=by show _=_;simp only [vY];rw [if_neg (by omega),if_neg (by simp),hany,if_pos rfl]
  clear ht
  go_enter Tryz.func57,Tryz.ntmps57
  go_wp2_with (go_at_call 26;refine (qE _ _ _ _).mono ?_;rintro e w1 ⟨rfl,rfl⟩)
  go_quiet (fail)
  go_wp2_with fail
  refine (zm _ (fun n=>!x9 n 1 ((nb:Int) - 1)) tp tc [t] _ (by simp) (HT.out.to (by decide) ?_ (fun _ _ _ h=>h)) (xI w.heap.size nb b3 b1 _ HN.out (by first|rfl|(simp;done)|(simp [World.cell?_alloc_some, *];done)))).mono ?_
  ·exact bZ
  rw [hany]
  rintro e w3 ⟨rfl,hb3⟩
  obtain ⟨hc3,hf3,hz3⟩:=Q2 hb3
  simp at hz3
  have hz4:w.heap.size<w3.heap.size:=by omega
  have hz5:w.heap.size+1<w3.heap.size:=by omega
  go_wp2
  go_ret
  refine ⟨by rw [HV.out];rfl,?_⟩
  exact bZ
 have hany:[t].any (fun n=>!x9 n 1 ((nb:Int) - 1))=false:=by simp [ht]
 by_cases hv:r=false∧n=0
 ·obtain ⟨rfl,rfl⟩:=hv
  have HV:Hid (vY regs nb 2 false 0 [t]=xd regs false 0):=by show _=_;simp [vY,ht]
  clear ht
  go_enter Tryz.func57,Tryz.ntmps57
  go_wp2_with (go_at_call 26;refine (qE _ _ _ _).mono ?_;rintro e w1 ⟨rfl,rfl⟩)
  go_quiet (fail)
  go_wp2_with fail
  refine (zm _ (fun n=>!x9 n 1 ((nb:Int) - 1)) tp tc [t] _ (by simp) (HT.out.to (by decide) ?_ (fun _ _ _ h=>h)) (xI w.heap.size nb b3 b1 _ HN.out (by first|rfl|(simp;done)|(simp [World.cell?_alloc_some, *];done)))).mono ?_
  ·exact bZ
  rw [hany]
  rintro e w3 ⟨rfl,hb3⟩
  obtain ⟨hc3,hf3,hz3⟩:=Q2 hb3
  simp at hz3
  have hz4:w.heap.size<w3.heap.size:=by omega
  have hz5:w.heap.size+1<w3.heap.size:=by omega
  go_wp2
  go_quiet (fail)
  go_wp2_with fail
  refine (jz _ _ _ _ _ _ _ _ _ _ _ _ _ _ _ _ _ _ hr1 hr2).mono ?_
  rintro e w4 ⟨rfl,hb4⟩
  go_wp2
  go_ret
  refine ⟨by rw [HV.out];rfl,?_⟩
  exact bZ
 have HV:Hid (vY regs nb 2 r n [t]=5):=by show _=_;simp only [vY];rw [if_neg (by omega),if_neg (by simp),hany];simp;intro h1 h2;exact absurd ⟨h1,h2⟩ hv
 have he:∀w:World,(binOp .neq 44 (.agg #[.bool r,.int .i64 n]) (.agg #[.bool false,.int .i64 0])).run Tryz.prog w = .ok (.bool true) w:=fun w=>by
  rw [run_neVal]
  cases r
  ·have hn0:n≠0:=fun h=>hv ⟨rfl,h⟩
   simp [hn0]
  simp
 clear ht hv
 go_enter Tryz.func57,Tryz.ntmps57
 go_wp2_with (go_at_call 26;refine (qE _ _ _ _).mono ?_;rintro e w1 ⟨rfl,rfl⟩)
 go_quiet (fail)
 go_wp2_with fail
 refine (zm _ (fun n=>!x9 n 1 ((nb:Int) - 1)) tp tc [t] _ (by simp) (HT.out.to (by decide) ?_ (fun _ _ _ h=>h)) (xI w.heap.size nb b3 b1 _ HN.out (by first|rfl|(simp;done)|(simp [World.cell?_alloc_some, *];done)))).mono ?_
 ·exact bZ
 rw [hany]
 rintro e w3 ⟨rfl,hb3⟩
 obtain ⟨hc3,hf3,hz3⟩:=Q2 hb3
 simp at hz3
 have hz4:w.heap.size<w3.heap.size:=by omega
 have hz5:w.heap.size+1<w3.heap.size:=by omega
 go_wp2
 go_quiet (fail)
 go_wp2
 go_ret
 refine ⟨by rw [HV.out];rfl,?_⟩
 exact bZ
theorem end_kind3 (g1 f1 b1 a1 tp:Option Addr) (g2 g3 f2 f3 nb b3 a2 a3 tc:Nat) (nm:ByteArray) (params regs n:Int) (r:Bool) (t u:Int) (w:World)
  (hr1:0≤regs) (hr2:regs≤9223372036854775807) (hn:nb≤9223372036854775807) (hto:SliceAt w 1 vX tp [t,u]) (hw0:Ways w) :
  Calls Tryz.prog 57 #[.agg #[.slice g1 g2 g3,.slice f1 f2 f3,.string nm,.int .i64 params,.int .i64 regs,.slice b1 nb b3,.slice a1 a2 a3],.agg #[.int .i64 3,.bool r,.int .i64 n,.slice tp 2 tc]] w fun e w'=>e = .returned (.int .i64 (vY regs nb 3 r n [t,u]))∧Below w.heap.size w w':=by
 obtain ⟨_,q1,q2,q3⟩:=hw0
 have hsz:=q9 q1
 have hsz1:0<w.heap.size+1:=by omega
 have hw1:x9 1 1 3=true:=rfl
 have hw2:x9 2 1 3=true:=rfl
 have hw3:x9 3 1 3=true:=rfl
 have HT:Hid (SliceAt w 1 vX tp [t,u]):=hto
 have HN:Hid (nb≤9223372036854775807):=hn
 obtain ⟨bt,ot,rfl,q4,q5⟩:∃b o,tp=some ⟨b,o,none⟩∧w.cell? ⟨b,o,none⟩=some (.int .i64 t)∧w.cell? ⟨b,o+1,none⟩=some (.int .i64 u):=by
  rcases hto with h|⟨b,o,rfl,h⟩
  ·simp at h
  obtain ⟨cs,_,h0,rfl,_⟩:=h 0 (by simp)
  obtain ⟨cs',_,h1,rfl,_⟩:=h 1 (by simp)
  exact ⟨b,o,rfl,by simpa using h0 0 (by simp),by simpa using h1 0 (by simp)⟩
 have hst:=q9 q4
 have hqU:bt<w.heap.size+1:=by omega
 have hhM:bt<w.heap.size+1+1:=by omega
 clear hto hn
 by_cases ht:x9 t 1 ((nb:Int) - 1)=true∧x9 u 1 ((nb:Int) - 1)=true
 rotate_left
 ·have hany:[t,u].any (fun n=>!x9 n 1 ((nb:Int) - 1))=true:=by simp only [List.any,Bool.or_false];cases h1:x9 t 1 ((nb:Int) - 1)<;>cases h2:x9 u 1 ((nb:Int) - 1)<;>simp_all
  have HV:Hid (vY regs nb 3 r n [t,u]=3):=by show _=_;simp only [vY];rw [if_neg (by omega),if_neg (by simp),hany,if_pos rfl]
  clear ht
  go_enter Tryz.func57,Tryz.ntmps57
  go_wp2_with (go_at_call 26;refine (qE _ _ _ _).mono ?_;rintro e w1 ⟨rfl,rfl⟩)
  go_quiet (fail)
  go_wp2_with fail
  refine (zm _ (fun n=>!x9 n 1 ((nb:Int) - 1)) (some ⟨bt,ot,none⟩) tc [t,u] _ (by simp) (HT.out.to (by decide) ?_ (fun _ _ _ h=>h)) (xI w.heap.size nb b3 b1 _ HN.out (by first|rfl|(simp;done)|(simp [World.cell?_alloc_some, *];done)))).mono ?_
  ·exact bZ
  rw [hany]
  rintro e w3 ⟨rfl,hb3⟩
  obtain ⟨hc3,hf3,hz3⟩:=Q2 hb3
  simp at hz3
  have hz4:w.heap.size<w3.heap.size:=by omega
  have hz5:w.heap.size+1<w3.heap.size:=by omega
  go_wp2
  go_ret
  refine ⟨by rw [HV.out];rfl,?_⟩
  exact bZ
 have hany:[t,u].any (fun n=>!x9 n 1 ((nb:Int) - 1))=false:=by simp [ht]
 by_cases hv:t=u
 ·subst hv
  have HV:Hid (vY regs nb 3 r n [t,t]=5):=by show _=_;simp only [vY];rw [if_neg (by omega),if_neg (by simp),hany];simp
  clear ht
  go_enter Tryz.func57,Tryz.ntmps57
  go_wp2_with (go_at_call 26;refine (qE _ _ _ _).mono ?_;rintro e w1 ⟨rfl,rfl⟩)
  go_quiet (fail)
  go_wp2_with fail
  refine (zm _ (fun n=>!x9 n 1 ((nb:Int) - 1)) (some ⟨bt,ot,none⟩) tc [t,t] _ (by simp) (HT.out.to (by decide) ?_ (fun _ _ _ h=>h)) (xI w.heap.size nb b3 b1 _ HN.out (by first|rfl|(simp;done)|(simp [World.cell?_alloc_some, *];done)))).mono ?_
  ·exact bZ
  rw [hany]
  rintro e w3 ⟨rfl,hb3⟩
  obtain ⟨hc3,hf3,hz3⟩:=Q2 hb3
  simp at hz3
  have hz4:w.heap.size<w3.heap.size:=by omega
  have hz5:w.heap.size+1<w3.heap.size:=by omega
  go_wp2
  go_quiet (fail)
  go_wp2
  go_ret
  refine ⟨by rw [HV.out];rfl,?_⟩
  exact bZ
 have HV:Hid (vY regs nb 3 r n [t,u]=xd regs r n):=by show _=_;simp only [vY];rw [if_neg (by omega),if_neg (by simp),hany];simp [hv]
 have hvb:(t == u)=false:=by simp [hv]
 clear ht
 go_enter Tryz.func57,Tryz.ntmps57
 go_wp2_with (go_at_call 26;refine (qE _ _ _ _).mono ?_;rintro e w1 ⟨rfl,rfl⟩)
 go_quiet (fail)
 go_wp2_with fail
 refine (zm _ (fun n=>!x9 n 1 ((nb:Int) - 1)) (some ⟨bt,ot,none⟩) tc [t,u] _ (by simp) (HT.out.to (by decide) ?_ (fun _ _ _ h=>h)) (xI w.heap.size nb b3 b1 _ HN.out (by first|rfl|(simp;done)|(simp [World.cell?_alloc_some, *];done)))).mono ?_
 ·exact bZ
 rw [hany]
 rintro e w3 ⟨rfl,hb3⟩
 obtain ⟨hc3,hf3,hz3⟩:=Q2 hb3
 simp at hz3
 have hz4:w.heap.size<w3.heap.size:=by omega
 have hz5:w.heap.size+1<w3.heap.size:=by omega
 go_wp2
 go_quiet (fail)
 go_wp2_with fail
 refine (jz _ _ _ _ _ _ _ _ _ _ _ _ _ _ _ _ _ _ hr1 hr2).mono ?_
 rintro e w4 ⟨rfl,hb4⟩
 go_wp2
 go_ret
 refine ⟨by rw [HV.out];rfl,?_⟩
 exact bZ
theorem end_any (g1 f1 b1 a1 tp:Option Addr) (g2 g3 f2 f3 nb b3 a2 a3 tc:Nat) (nm:ByteArray) (params regs kind n:Int) (r:Bool) (to:List Int) (w:World)
  (hr1:0≤regs) (hr2:regs≤9223372036854775807) (hn:nb≤9223372036854775807) (hl:to.length≤9223372036854775807) (hto:SliceAt w 1 vX tp to) (hw0:Ways w) :
  Calls Tryz.prog 57 #[.agg #[.slice g1 g2 g3,.slice f1 f2 f3,.string nm,.int .i64 params,.int .i64 regs,.slice b1 nb b3,.slice a1 a2 a3],.agg #[.int .i64 kind,.bool r,.int .i64 n,.slice tp to.length tc]] w fun e w'=>e = .returned (.int .i64 (vY regs nb kind r n to))∧Below w.heap.size w w':=by
 by_cases hk:1≤kind∧kind≤3
 ·by_cases hlen:(to.length:Int)=kind - 1
  ·obtain rfl|rfl|rfl:kind=1∨kind=2∨kind=3:=by omega
   ·obtain rfl:to=[]:=List.length_eq_zero_iff.1 (by omega)
    exact end_kind1 _ _ _ _ _ _ _ _ _ _ _ _ _ _ _ _ _ _ _ _ hr1 hr2 hn hto hw0
   ·obtain ⟨t,rfl⟩:∃t,to=[t]:=List.length_eq_one_iff.1 (by omega)
    exact end_kind2 _ _ _ _ _ _ _ _ _ _ _ _ _ _ _ _ _ _ _ _ _ hr1 hr2 hn hto hw0
   obtain ⟨t,u,rfl⟩:∃t u,to=[t,u]:=by
    match to,hlen with
    | [t,u],_=>exact ⟨t,u,rfl⟩
    | [],h=>simp at h
    | [_],h=>simp at h
    | _::_::_::_,h=>simp at h;omega
   exact end_kind3 _ _ _ _ _ _ _ _ _ _ _ _ _ _ _ _ _ _ _ _ _ _ hr1 hr2 hn hto hw0
  exact end_len _ _ _ _ _ _ _ _ _ _ _ _ _ _ _ _ _ _ _ _ _ _ (by omega) hlen hl hw0
 exact end_bad _ _ _ _ _ _ _ _ _ _ _ _ _ _ _ _ _ _ _ _ _ _ hk

def qA:List Int→Int
 | []=>0
 | x::l=>if x=0 then qA l else x

theorem Qk {α:Type} (g:α→Int) (l:List α) (k:Nat) (h:k<l.length):qA ((l.drop k).map g)=if g l[k]=0 then qA ((l.drop (k+1)).map g) else g l[k]:=by
 rw [List.drop_eq_getElem_cons h];rfl

def valsE (regs:Int) (l:List (Bool×Int)):Int:=qA (l.map fun v=>xd regs v.1 v.2)

def Zs (regs:Int) (block cnt:Nat) (dst:Int) (l:List (Bool×Int)):Int:=
 if block=0 then 5
 else if vQ regs dst≠0 then vQ regs dst
 else if l.length≠cnt then 9
 else valsE regs l

theorem phi_0 (g1 f1 b1 a1 p:Option Addr) (g2 g3 f2 f3 b2 b3 a2 a3 l c cnt:Nat) (nm:ByteArray) (params regs dst:Int) (L:List (Bool×Int)) (w:World) :
  Calls Tryz.prog 59 #[.agg #[.slice g1 g2 g3,.slice f1 f2 f3,.string nm,.int .i64 params,.int .i64 regs,.slice b1 b2 b3,.slice a1 a2 a3],.int .i64 0,.agg #[.int .i64 dst,.slice p l c]] w fun e w'=>e = .returned (.int .i64 (Zs regs 0 cnt dst L))∧Below w.heap.size w w':=by
 go_enter Tryz.func59,Tryz.ntmps59
 go_wp2
 go_ret
 refine ⟨rfl,?_⟩
 exact bZ

theorem phi_dst (g1 f1 b1 a1 p:Option Addr) (g2 g3 f2 f3 b2 b3 a2 a3 l c block cnt:Nat) (nm:ByteArray) (params regs dst:Int) (L:List (Bool×Int)) (w:World)
  (h1:0≤regs) (h2:regs≤9223372036854775807) (h0:block≠0) (hd:vQ regs dst≠0) :
  Calls Tryz.prog 59 #[.agg #[.slice g1 g2 g3,.slice f1 f2 f3,.string nm,.int .i64 params,.int .i64 regs,.slice b1 b2 b3,.slice a1 a2 a3],.int .i64 block,.agg #[.int .i64 dst,.slice p l c]] w fun e w'=>e = .returned (.int .i64 (Zs regs block cnt dst L))∧Below w.heap.size w w':=by
 have HV:Hid (Zs regs block cnt dst L=vQ regs dst):=by show _=_;unfold Zs;rw [if_neg h0,if_pos hd]
 have hb0:((block:Int) == 0)=false:=by simp [h0]
 have hdb:(vQ regs dst == 0)=false:=by simp [hd]
 go_enter Tryz.func59,Tryz.ntmps59
 go_wp2_with (go_at_call 82;refine (Qj _ _ _ _ _ _ _ _ _ _ _ _ _ _ _ _ _ h1 h2).mono ?_;rintro e w3 ⟨rfl,hb3⟩)
 go_ret
 refine ⟨by rw [HV.out];rfl,?_⟩
 exact bZ

theorem phi_len (g1 f1 b1 p:Option Addr) (ab ao:Nat) (g2 g3 f2 f3 b2 b3 a2 a3 l c block cnt qc:Nat) (q:Option Addr) (nm:ByteArray) (params regs dst:Int) (L:List (Bool×Int)) (w:World)
  (h1:0≤regs) (h2:regs≤9223372036854775807) (h0:block≠0) (hd:vQ regs dst=0) (hl:l=L.length) (hne:l≠cnt) (hbl:block<a2) (_ha2:a2≤9223372036854775807) (_hl1:l≤9223372036854775807) (_hl2:cnt≤9223372036854775807) (hc:w.cell? ⟨ab,ao+block,none⟩=some (.slice q cnt qc)) :
  Calls Tryz.prog 59 #[.agg #[.slice g1 g2 g3,.slice f1 f2 f3,.string nm,.int .i64 params,.int .i64 regs,.slice b1 b2 b3,.slice (some ⟨ab,ao,none⟩) a2 a3],.int .i64 block,.agg #[.int .i64 dst,.slice p l c]] w fun e w'=>e = .returned (.int .i64 (Zs regs block cnt dst L))∧Below w.heap.size w w':=by
 have HV:Hid (Zs regs block cnt dst L=9):=by show _=_;unfold Zs;rw [if_neg h0,if_neg (by simp [hd]),if_pos (by omega)]
 have hb0:((block:Int) == 0)=false:=by simp [h0]
 have hdb:(vQ regs dst != 0)=false:=by simp [hd]
 have hn:((l:Int) != (cnt:Int))=true:=by simp;omega
 have hsz:=q9 hc
 have hsz1:ab<w.heap.size+1:=by omega
 have hsz2:ab<w.heap.size+1+1:=by omega
 clear hd
 go_enter Tryz.func59,Tryz.ntmps59
 go_wp2_with (go_at_call 82;refine (Qj _ _ _ _ _ _ _ _ _ _ _ _ _ _ _ _ _ h1 h2).mono ?_;rintro e w3 ⟨rfl,hb3⟩;obtain ⟨hc3,hf3,hz3⟩:=Q2 hb3;simp at hz3)
 have hz4:w.heap.size<w3.heap.size:=by omega
 have hz5:w.heap.size+1<w3.heap.size:=by omega
 go_quiet (fail)
 go_wp2
 go_ret
 refine ⟨by rw [HV.out];rfl,?_⟩
 exact bZ

theorem phi_vals (g1 f1 b1:Option Addr) (pb po ab ao:Nat) (g2 g3 f2 f3 b2 b3 a2 a3 c block cnt qc:Nat) (q:Option Addr) (nm:ByteArray) (params regs dst:Int) (L:List (Bool×Int)) (w:World)
  (h1:0≤regs) (h2:regs≤9223372036854775807) (h0:block≠0) (hd:vQ regs dst=0) (hne:L.length=cnt) (hbl:block<a2) (_ha2:a2≤9223372036854775807) (hl2:cnt≤9223372036854775807) (hc:w.cell? ⟨ab,ao+block,none⟩=some (.slice q cnt qc))
  (hL:∀i (h:i<L.length),w.cell? ⟨pb,po+i*2,none⟩=some (.bool L[i].1)∧w.cell? ⟨pb,po+i*2+1,none⟩=some (.int .i64 L[i].2)) (hpb:L≠[]→pb<w.heap.size) :
  Calls Tryz.prog 59 #[.agg #[.slice g1 g2 g3,.slice f1 f2 f3,.string nm,.int .i64 params,.int .i64 regs,.slice b1 b2 b3,.slice (some ⟨ab,ao,none⟩) a2 a3],.int .i64 block,.agg #[.int .i64 dst,.slice (some ⟨pb,po,none⟩) cnt c]] w fun e w'=>e = .returned (.int .i64 (Zs regs block cnt dst L))∧Below w.heap.size w w':=by
 have HV:Hid (Zs regs block cnt dst L=qA (L.map fun v=>xd regs v.1 v.2)):=by show _=_;unfold Zs;rw [if_neg h0,if_neg (by simp [hd]),if_neg (by omega)];rfl
 have hb0:((block:Int) == 0)=false:=by simp [h0]
 have hdb:(vQ regs dst != 0)=false:=by simp [hd]
 have hsz:=q9 hc
 have hsz1:ab<w.heap.size+1:=by omega
 have hsz2:ab<w.heap.size+1+1:=by omega
 have HL:Hid (∀i (h:i<L.length),w.cell? ⟨pb,po+i*2,none⟩=some (.bool L[i].1)∧w.cell? ⟨pb,po+i*2+1,none⟩=some (.int .i64 L[i].2)):=hL
 have HN:Hid (L.length=cnt):=hne
 have HP:Hid (L≠[]→pb<w.heap.size):=hpb
 clear hd hL hne hpb
 go_enter Tryz.func59,Tryz.ntmps59
 go_wp2_with (go_at_call 82;refine (Qj _ _ _ _ _ _ _ _ _ _ _ _ _ _ _ _ _ h1 h2).mono ?_;rintro e w3 ⟨rfl,hb3⟩;obtain ⟨hc3,hf3,hz3⟩:=Q2 hb3;simp at hz3)
 have hz4:w.heap.size<w3.heap.size:=by omega
 have hz5:w.heap.size+1<w3.heap.size:=by omega
 have HB0:Hid (Below w.heap.size w w3):=(((Below.refl _ _).alloc (Nat.le_refl _) _).alloc (by simp) _).trans (hb3.mono (by simp;omega))
 go_quiet (fail)
 go_wp2
 go_loopw [33] (fun i wr=>∃k:Nat,k≤cnt∧i = .int .i64 k∧qA ((L.drop k).map fun v=>xd regs v.1 v.2)=qA (L.map fun v=>xd regs v.1 v.2)∧Below w3.heap.size w3 wr) (fun i _=>cnt - (intOf i).toNat)
 case atStart=>exact ⟨0,by omega,rfl,rfl,by exact bZ⟩
 case round=>
  obtain ⟨k,hk,rfl,hV,hB⟩:=hrel
  have HF:Hid (qA ((L.drop k).map fun v=>xd regs v.1 v.2)=qA (L.map fun v=>xd regs v.1 v.2)):=hV
  obtain ⟨hcr,hfr,hzr⟩:=Q2 hB
  have HB:Hid (Below w3.heap.size w3 wr):=hB
  clear hV hB
  by_cases hlt:k<cnt
  rotate_left
  ·have HZ:Hid (qA (L.map fun v=>xd regs v.1 v.2)=0):=by
    have hk2:k=L.length:=by have:=HN.out;omega
    show _=_
    rw [←HF.out,hk2];simp [qA]
   have HBw:Hid (Below w.heap.size w wr):=HB0.out.trans (HB.out.mono HB0.out.size)
   clear HF
   go_wp2
   go_ret
   refine ⟨by rw [HV.out,HZ.out];rfl,?_⟩
   exact HBw.out
  have hlt2:k<L.length:=by have:=HN.out;omega
  have hpb:pb<w.heap.size:=HP.out (by rintro rfl;simp at hlt2)
  have HBw:Hid (Below w.heap.size w wr):=HB0.out.trans (HB.out.mono HB0.out.size)
  have d0:=(HBw.out.cell (p:=⟨pb,po+k*2,none⟩) hpb).trans (HL.out k hlt2).1
  have d1:=(HBw.out.cell (p:=⟨pb,po+k*2+1,none⟩) hpb).trans (HL.out k hlt2).2
  have d2:pb<wr.heap.size:=by have:=HBw.out.size;omega
  have HD:Hid (qA ((L.drop k).map fun v=>xd regs v.1 v.2)=if xd regs L[k].1 L[k].2=0 then qA ((L.drop (k+1)).map fun v=>xd regs v.1 v.2) else xd regs L[k].1 L[k].2):=Qk (fun v:Bool×Int=>xd regs v.1 v.2) L k hlt2
  rw [HF.out] at HD
  generalize L[k].1=r at d0 HD
  generalize L[k].2=n at d1 HD
  clear HF hlt2 hpb
  have hz6:w.heap.size<wr.heap.size:=by omega
  have hz7:w.heap.size+1<wr.heap.size:=by omega
  by_cases hv:xd regs r n=0
  ·have hvb:(xd regs r n != 0)=false:=by simp [hv]
   have HD2:=HD.out
   rw [if_pos hv] at HD2
   replace HD:Hid (qA (L.map fun v=>xd regs v.1 v.2)=qA ((L.drop (k+1)).map fun v=>xd regs v.1 v.2)):=HD2
   clear HD2 hv
   go_wp2_with (go_at_call 81;refine (jz _ _ _ _ _ _ _ _ _ _ _ _ _ _ _ _ _ _ h1 h2).mono ?_;rintro e w4 ⟨rfl,hb4⟩)
   refine ⟨⟨k+1,by omega,by go_num,HD.out.symm,?_⟩,by simp [intOf];omega⟩
   exact HB.out.trans (Below.trans bZ (hb4.mono (by have:=HB.out.size;simp;omega)))
  have hvb:(xd regs r n != 0)=true:=by simp [hv]
  have HD2:=HD.out
  rw [if_neg hv] at HD2
  replace HD:Hid (qA (L.map fun v=>xd regs v.1 v.2)=xd regs r n):=HD2
  clear HD2 hv
  go_wp2_with (go_at_call 81;refine (jz _ _ _ _ _ _ _ _ _ _ _ _ _ _ _ _ _ _ h1 h2).mono ?_;rintro e w4 ⟨rfl,hb4⟩)
  go_ret
  refine ⟨by rw [HV.out,HD.out];rfl,?_⟩
  exact HBw.out.trans (Below.trans bZ (hb4.mono (by have:=HBw.out.size;simp;omega)))

theorem phi_nil (g1 f1 b1 p:Option Addr) (ab ao:Nat) (g2 g3 f2 f3 b2 b3 a2 a3 c block qc:Nat) (q:Option Addr) (nm:ByteArray) (params regs dst:Int) (w:World)
  (h1:0≤regs) (h2:regs≤9223372036854775807) (h0:block≠0) (hd:vQ regs dst=0) (hbl:block<a2) (_ha2:a2≤9223372036854775807) (hc:w.cell? ⟨ab,ao+block,none⟩=some (.slice q 0 qc)) :
  Calls Tryz.prog 59 #[.agg #[.slice g1 g2 g3,.slice f1 f2 f3,.string nm,.int .i64 params,.int .i64 regs,.slice b1 b2 b3,.slice (some ⟨ab,ao,none⟩) a2 a3],.int .i64 block,.agg #[.int .i64 dst,.slice p 0 c]] w fun e w'=>e = .returned (.int .i64 (Zs regs block 0 dst []))∧Below w.heap.size w w':=by
 have HV:Hid (Zs regs block 0 dst []=0):=by show _=_;unfold Zs;rw [if_neg h0,if_neg (by simp [hd]),if_neg (by simp)];rfl
 have hb0:((block:Int) == 0)=false:=by simp [h0]
 have hdb:(vQ regs dst != 0)=false:=by simp [hd]
 have hsz:=q9 hc
 have hsz1:ab<w.heap.size+1:=by omega
 have hsz2:ab<w.heap.size+1+1:=by omega
 clear hd
 go_enter Tryz.func59,Tryz.ntmps59
 go_wp2_with (go_at_call 82;refine (Qj _ _ _ _ _ _ _ _ _ _ _ _ _ _ _ _ _ h1 h2).mono ?_;rintro e w3 ⟨rfl,hb3⟩;obtain ⟨hc3,hf3,hz3⟩:=Q2 hb3;simp at hz3)
 have hz4:w.heap.size<w3.heap.size:=by omega
 have hz5:w.heap.size+1<w3.heap.size:=by omega
 have HB0:Hid (Below w.heap.size w w3):=(((Below.refl _ _).alloc (Nat.le_refl _) _).alloc (by simp) _).trans (hb3.mono (by simp;omega))
 go_quiet (fail)
 go_wp2
 go_loop [33] (fun i=>i = .int .i64 0) (fun _=>0)
 case atStart=>rfl
 case round=>
  subst hrel
  go_wp2
  go_ret
  refine ⟨by rw [HV.out];rfl,?_⟩
  exact below_drewN HB0.out _

theorem phi_any (g1 f1 b1 p:Option Addr) (ab ao:Nat) (g2 g3 f2 f3 b2 b3 a2 a3 c block cnt qc:Nat) (q:Option Addr) (nm:ByteArray) (params regs dst:Int) (L:List (Bool×Int)) (w:World)
  (h1:0≤regs) (h2:regs≤9223372036854775807) (hbl:block<a2) (ha2:a2≤9223372036854775807) (hl1:L.length≤9223372036854775807) (hl2:cnt≤9223372036854775807) (hc:w.cell? ⟨ab,ao+block,none⟩=some (.slice q cnt qc)) (hL:SliceAt w 2 kY p L) :
  Calls Tryz.prog 59 #[.agg #[.slice g1 g2 g3,.slice f1 f2 f3,.string nm,.int .i64 params,.int .i64 regs,.slice b1 b2 b3,.slice (some ⟨ab,ao,none⟩) a2 a3],.int .i64 block,.agg #[.int .i64 dst,.slice p L.length c]] w fun e w'=>e = .returned (.int .i64 (Zs regs block cnt dst L))∧Below w.heap.size w w':=by
 by_cases h0:block=0
 ·subst h0;exact phi_0 _ _ _ _ _ _ _ _ _ _ _ _ _ _ _ _ _ _ _ _ _ _
 by_cases hd:vQ regs dst=0
 ·by_cases hne:L.length=cnt
  ·rcases hL with rfl|⟨b,o,rfl,h⟩
   ·subst hne;exact phi_nil _ _ _ _ _ _ _ _ _ _ _ _ _ _ _ _ _ _ _ _ _ _ _ h1 h2 h0 hd hbl ha2 hc
   rw [hne]
   have hx:∀i (h:i<L.length),w.cell? ⟨b,o+i*2,none⟩=some (.bool L[i].1)∧w.cell? ⟨b,o+i*2+1,none⟩=some (.int .i64 L[i].2):=fun i hi=>by
    obtain ⟨cs,_,hc,⟨rfl,_⟩⟩:=h i hi
    exact ⟨hc 0 (by omega),hc 1 (by omega)⟩
   refine phi_vals _ _ _ _ _ _ _ _ _ _ _ _ _ _ _ _ _ _ _ _ _ _ _ _ _ _ h1 h2 h0 hd hne hbl ha2 hl2 hc hx fun hn=>?_
   have hp:0<L.length:=List.length_pos_iff.2 hn
   exact q9 (hx 0 hp).1
  exact phi_len _ _ _ _ _ _ _ _ _ _ _ _ _ _ _ _ _ _ _ _ _ _ _ _ _ _ h1 h2 h0 hd rfl hne hbl ha2 hl1 hl2 hc
 exact phi_dst _ _ _ _ _ _ _ _ _ _ _ _ _ _ _ _ _ _ _ _ _ _ _ h1 h2 h0 hd

def Vs (F:FuncId) (caps:Array Value) (w:World) (e:Int):Prop:=
 ∀w1:World,Below w.heap.size w w1→Calls Tryz.prog F caps w1 fun x w2=>x = .returned (.int .i64 e)∧Below w1.heap.size w1 w2

theorem X6 (sb so sc:Nat) (B X C:Addr) (e1 e2 e3:Int) (w:World)
  (h0:w.cell? ⟨sb,so,none⟩=some (.func (.func 85) #[] #[.pointer (some B),.pointer (some X)]))
  (h1:w.cell? ⟨sb,so+1,none⟩=some (.func (.func 86) #[] #[.pointer (some B),.pointer (some X)]))
  (h2:w.cell? ⟨sb,so+2,none⟩=some (.func (.func 87) #[] #[.pointer (some C),.pointer (some X),.pointer (some B)]))
  (a1:Vs 85 #[.pointer (some B),.pointer (some X)] w e1) (a2:Vs 86 #[.pointer (some B),.pointer (some X)] w e2) (a3:Vs 87 #[.pointer (some C),.pointer (some X),.pointer (some B)] w e3) :
  Calls Tryz.prog 84 #[.slice (some ⟨sb,so,none⟩) 3 sc] w fun e w'=>e = .returned (.int .i64 (qA [e1,e2,e3]))∧Below w.heap.size w w':=by
 have A1:Hid (Vs 85 #[.pointer (some B),.pointer (some X)] w e1):=a1
 have A2:Hid (Vs 86 #[.pointer (some B),.pointer (some X)] w e2):=a2
 have A3:Hid (Vs 87 #[.pointer (some C),.pointer (some X),.pointer (some B)] w e3):=a3
 have hsb:=q9 h0
 clear a1 a2 a3
 go_enter Tryz.func84,Tryz.ntmps84
 go_wp2
 go_loopw [8] (fun i wr=>∃k:Nat,i = .int .i64 k∧(k=0∨(k=1∧e1=0)∨(k=2∧e1=0∧e2=0)∨(k=3∧e1=0∧e2=0∧e3=0))∧Below w.heap.size w wr) (fun i _=>3 - (intOf i).toNat)
 case atStart=>exact ⟨0,rfl,.inl rfl,Below.refl _ _⟩
 case round=>
  obtain ⟨k,rfl,hk,hB⟩:=hrel
  have HB:Hid (Below w.heap.size w wr):=hB
  have g0:=(hB.cell (p:=⟨sb,so,none⟩) hsb).trans h0
  have g1:=(hB.cell (p:=⟨sb,so+1,none⟩) hsb).trans h1
  have g2:=(hB.cell (p:=⟨sb,so+2,none⟩) hsb).trans h2
  clear hB
  rcases hk with rfl|⟨rfl,z1⟩|⟨rfl,z1,z2⟩|⟨rfl,z1,z2,z3⟩
  ·by_cases hz:e1=0
   ·have hzb:(e1 != 0)=false:=by simp [hz]
    have HZ:Hid (e1=0):=hz
    clear hz
    go_wp2_with fail
    refine (A1.out _ HB.out).mono ?_
    rintro e w2 ⟨rfl,hb2⟩
    have HB2:Hid (Below w.heap.size w w2):=HB.out.trans (hb2.mono HB.out.size)
    clear hb2
    go_wp2
    exact ⟨⟨1,by go_num,.inr (.inl ⟨rfl,HZ.out⟩),HB2.out⟩,by simp [intOf]⟩
   have hzb:(e1 != 0)=true:=by simp [hz]
   have HV:Hid (qA [e1,e2,e3]=e1):=by show _=_;simp [qA,hz]
   clear hz
   go_wp2_with fail
   refine (A1.out _ HB.out).mono ?_
   rintro e w2 ⟨rfl,hb2⟩
   have HB2:Hid (Below w.heap.size w w2):=HB.out.trans (hb2.mono HB.out.size)
   clear hb2
   go_wp2
   go_ret
   exact ⟨by rw [HV.out];rfl,HB2.out⟩
  ·by_cases hz:e2=0
   ·have hzb:(e2 != 0)=false:=by simp [hz]
    have HZ:Hid (e1=0∧e2=0):=⟨z1,hz⟩
    clear hz z1
    go_wp2_with fail
    refine (A2.out _ HB.out).mono ?_
    rintro e w2 ⟨rfl,hb2⟩
    have HB2:Hid (Below w.heap.size w w2):=HB.out.trans (hb2.mono HB.out.size)
    clear hb2
    go_wp2
    exact ⟨⟨2,by go_num,.inr (.inr (.inl ⟨rfl,HZ.out⟩)),HB2.out⟩,by simp [intOf]⟩
   have hzb:(e2 != 0)=true:=by simp [hz]
   have HV:Hid (qA [e1,e2,e3]=e2):=by show _=_;simp [qA,hz,z1]
   clear hz z1
   go_wp2_with fail
   refine (A2.out _ HB.out).mono ?_
   rintro e w2 ⟨rfl,hb2⟩
   have HB2:Hid (Below w.heap.size w w2):=HB.out.trans (hb2.mono HB.out.size)
   clear hb2
   go_wp2
   go_ret
   exact ⟨by rw [HV.out];rfl,HB2.out⟩
  ·by_cases hz:e3=0
   ·have hzb:(e3 != 0)=false:=by simp [hz]
    have HZ:Hid (e1=0∧e2=0∧e3=0):=⟨z1,z2,hz⟩
    clear hz z1 z2
    go_wp2_with fail
    refine (A3.out _ HB.out).mono ?_
    rintro e w2 ⟨rfl,hb2⟩
    have HB2:Hid (Below w.heap.size w w2):=HB.out.trans (hb2.mono HB.out.size)
    clear hb2
    go_wp2
    exact ⟨⟨3,by go_num,.inr (.inr (.inr ⟨rfl,HZ.out⟩)),HB2.out⟩,by simp [intOf]⟩
   have hzb:(e3 != 0)=true:=by simp [hz]
   have HV:Hid (qA [e1,e2,e3]=e3):=by show _=_;simp [qA,hz,z1,z2]
   clear hz z1 z2
   go_wp2_with fail
   refine (A3.out _ HB.out).mono ?_
   rintro e w2 ⟨rfl,hb2⟩
   have HB2:Hid (Below w.heap.size w w2):=HB.out.trans (hb2.mono HB.out.size)
   clear hb2
   go_wp2
   go_ret
   exact ⟨by rw [HV.out];rfl,HB2.out⟩
  have HV:Hid (qA [e1,e2,e3]=0):=by show _=_;simp [qA,z1,z2,z3]
  clear z1 z2 z3
  go_wp2
  go_ret
  exact ⟨by rw [HV.out];rfl,HB.out⟩
end Go.Proofs.YtgjjhadbjmcnpaaGreatDoor
