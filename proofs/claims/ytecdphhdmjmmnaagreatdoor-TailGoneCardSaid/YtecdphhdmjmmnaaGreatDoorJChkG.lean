/-
  The contracts of the checker's three questions on an instruction: its A, its B, its call.
-/
import Derived.RegionTactic
import Derived.BigQuiet
import Derived.Deep.QuietTactic
import Derived.Deep.RegionHeld
import Derived.Test.YtecdphhdmjmmnaaGreatDoorJRunV
set_option maxRecDepth 100000
set_option maxHeartbeats 16000000
namespace Go.Proofs.YtecdphhdmjmmnaaGreatDoor
open Go.RowKit

theorem SliceAt.to {α:Type} {w w':World} {size:Nat} {R R':List Value→α→Prop} {p:Option Addr} {xs:List α} (h:SliceAt w size R p xs) (hz:0<size) (hb:Below w.heap.size w w') (hR:∀cs,∀x∈xs,R cs x→R' cs x):SliceAt w' size R' p xs:=by
 rcases h with h|⟨b,o,hp,h⟩
 ·exact .inl h
 refine .inr ⟨b,o,hp,fun i hi=>?_⟩
 obtain⟨cs,hl,hc,hx⟩:=h i hi
 refine⟨cs,hl,fun j hj=>?_,hR _ _ (List.getElem_mem hi) hx⟩
 have h0:=hc 0 hz
 obtain⟨v,hv⟩:∃v,cs[0]?=some v:=⟨cs[0]'(by omega),List.getElem?_eq_getElem (by omega)⟩
 rw[hv]at h0
 exact(hb.cell (p:=⟨b,o+i*size+j,none⟩) (q8 h0:b<_)).trans (hc j hj)

theorem end1_any (n:Int) (B nb b3:Nat) (b1:Option Addr) (w:World) (hn:nb≤9223372036854775807) (hc:w.cell? ⟨B,5,none⟩=some (.slice b1 nb b3)) :
  Calls Tryz.prog 86 #[.int .i64 n,.pointer (some ⟨B,0,none⟩)] w fun e w'=>e = .returned (.bool (!zJ n 1 ((nb:Int) - 1)))∧w=w':=by
 go_enter Tryz.func86,Tryz.ntmps86
 go_wp2_with (go_at_call 27;refine(qC _ _ _ _).mono ?_;rintro e w1 ⟨rfl,rfl⟩)
 go_ret
 exact⟨rfl,rfl⟩
theorem xA (B nb b3:Nat) (b1:Option Addr) (w:World) (hn:nb≤9223372036854775807) (hc:w.cell? ⟨B,5,none⟩=some (.slice b1 nb b3)) :
  Tells 86 (.pointer (some ⟨B,0,none⟩)) w fun n=>!zJ n 1 ((nb:Int) - 1):=by
 intro w1 x hb
 refine(end1_any x B nb b3 b1 w1 hn ((hb.cell (p:=⟨B,5,none⟩) (q8 hc)).trans hc)).mono ?_
 rintro e w2 ⟨rfl,rfl⟩
 exact⟨rfl,Below.refl _ _⟩

def vM (regs:Int) (nb:Nat) (kind:Int) (r:Bool) (n:Int) (to:List Int):Int:=
 if ¬(1≤kind∧kind≤3)then 4
 else if(to.length:Int)≠kind - 1 then 9
 else if to.any (fun t=>!zJ t 1 ((nb:Int) - 1))then 3
 else if kind=3∧to.getD 0 0=to.getD 1 0∨kind=2∧¬(r=false∧n=0)then 5
 else zP regs r n

def Ways (w:World):Prop:=w.cell? ⟨0,0,none⟩=some (.int .i64 0)∧w.cell? ⟨0,1,none⟩=some (.int .i64 0)∧w.cell? ⟨0,2,none⟩=some (.int .i64 1)∧w.cell? ⟨0,3,none⟩=some (.int .i64 2)

theorem end_bad (g1 f1 b1 a1 tp:Option Addr) (g2 g3 f2 f3 nb b3 a2 a3 tc:Nat) (nm:ByteArray) (params regs kind n:Int) (r:Bool) (to:List Int) (w:World) (h:¬(1≤kind∧kind≤3)) :
  Calls Tryz.prog 54 #[.agg #[.slice g1 g2 g3,.slice f1 f2 f3,.string nm,.int .i64 params,.int .i64 regs,.slice b1 nb b3,.slice a1 a2 a3],.agg #[.int .i64 kind,.bool r,.int .i64 n,.slice tp to.length tc]] w fun e w'=>e = .returned (.int .i64 (vM regs nb kind r n to))∧Below w.heap.size w w':=by
 have hw:zJ kind 1 3=false:=by simp only[zJ,decide_eq_false_iff_not];exact h
 have HV:Hid (vM regs nb kind r n to=4):=by show _=_;unfold vM;rw[if_pos h]
 clear h
 go_enter Tryz.func54,Tryz.ntmps54
 go_wp2_with (go_at_call 27;refine(qC _ _ _ _).mono ?_;rintro e w1 ⟨rfl,rfl⟩)
 go_ret
 refine⟨by rw[HV.out];rfl,?_⟩
 exact bZ

theorem end_len (g1 f1 b1 a1 tp:Option Addr) (g2 g3 f2 f3 nb b3 a2 a3 tc:Nat) (nm:ByteArray) (params regs kind n:Int) (r:Bool) (to:List Int) (w:World) (hk:kind=1∨kind=2∨kind=3) (h:(to.length:Int)≠kind - 1)
  (hl:to.length≤9223372036854775807) (hw0:Ways w) :
  Calls Tryz.prog 54 #[.agg #[.slice g1 g2 g3,.slice f1 f2 f3,.string nm,.int .i64 params,.int .i64 regs,.slice b1 nb b3,.slice a1 a2 a3],.agg #[.int .i64 kind,.bool r,.int .i64 n,.slice tp to.length tc]] w fun e w'=>e = .returned (.int .i64 (vM regs nb kind r n to))∧Below w.heap.size w w':=by
 have HV:Hid (vM regs nb kind r n to=9):=by show _=_;unfold vM;rw[if_neg (by omega),if_pos h]
 obtain⟨_,q1,q2,q3⟩:=hw0
 have hsz:=q8 q1
 have hsz1:0<w.heap.size+1:=by omega
 generalize to.length=m at *
 have hw1:zJ 1 1 3=true:=rfl
 have hw2:zJ 2 1 3=true:=rfl
 have hw3:zJ 3 1 3=true:=rfl
 have hm1:Hid ((m:Int)≠kind - 1):=h
 rcases hk with rfl|rfl|rfl
 all_goals
  have hb:=bne_iff_ne.2 hm1.out
  simp only[Int.reduceSub]at hb
  clear h
  go_enter Tryz.func54,Tryz.ntmps54
  go_wp2_with (go_at_call 27;refine(qC _ _ _ _).mono ?_;rintro e w1 ⟨rfl,rfl⟩)
  go_quiet (fail)
  go_wp2
  go_ret
  refine⟨by rw[HV.out];rfl,?_⟩
  exact bZ
theorem end_kind1 (g1 f1 b1 a1 tp:Option Addr) (g2 g3 f2 f3 nb b3 a2 a3 tc:Nat) (nm:ByteArray) (params regs n:Int) (r:Bool) (w:World)
  (hr1:0≤regs) (hr2:regs≤9223372036854775807) (hn:nb≤9223372036854775807) (hto:SliceAt w 1 ju tp []) (hw0:Ways w) :
  Calls Tryz.prog 54 #[.agg #[.slice g1 g2 g3,.slice f1 f2 f3,.string nm,.int .i64 params,.int .i64 regs,.slice b1 nb b3,.slice a1 a2 a3],.agg #[.int .i64 1,.bool r,.int .i64 n,.slice tp 0 tc]] w fun e w'=>e = .returned (.int .i64 (vM regs nb 1 r n []))∧Below w.heap.size w w':=by
 obtain⟨_,q1,q2,q3⟩:=hw0
 have hsz:=q8 q1
 have hsz1:0<w.heap.size+1:=by omega
 have hw1:zJ 1 1 3=true:=rfl
 have hw2:zJ 2 1 3=true:=rfl
 have hw3:zJ 3 1 3=true:=rfl
 have HT:Hid (SliceAt w 1 ju tp []):=hto
 have HN:Hid (nb≤9223372036854775807):=hn
 have hany:([]:List Int).any (fun n=>!zJ n 1 ((nb:Int) - 1))=false:=rfl
 have HV:Hid (vM regs nb 1 r n []=zP regs r n):=by show _=_;simp[vM]
 clear hto hn
 go_enter Tryz.func54,Tryz.ntmps54
 go_wp2_with (go_at_call 27;refine(qC _ _ _ _).mono ?_;rintro e w1 ⟨rfl,rfl⟩)
 go_quiet (fail)
 go_wp2_with fail
 refine(qS _ (fun n=>!zJ n 1 ((nb:Int) - 1)) tp tc [] _ (by simp) (HT.out.to (by decide) ?_ (fun _ _ _ h=>h)) (xA w.heap.size nb b3 b1 _ HN.out (by first|rfl|(simp;done)|(simp[World.cell?_alloc_some, *];done)))).mono ?_
 ·exact bZ
 rw[hany]
 rintro e w3 ⟨rfl,hb3⟩
 obtain⟨hc3,hf3,hz3⟩:=kQ hb3
 simp at hz3
 have hz4:w.heap.size<w3.heap.size:=by omega
 have hz5:w.heap.size+1<w3.heap.size:=by omega
 go_wp2
 go_quiet (fail)
 go_wp2_with fail
 refine(jv _ _ _ _ _ _ _ _ _ _ _ _ _ _ _ _ _ _ hr1 hr2).mono ?_
 rintro e w4 ⟨rfl,hb4⟩
 go_wp2
 go_ret
 refine⟨by rw[HV.out];rfl,?_⟩
 exact bZ
theorem end_kind2 (g1 f1 b1 a1 tp:Option Addr) (g2 g3 f2 f3 nb b3 a2 a3 tc:Nat) (nm:ByteArray) (params regs n:Int) (r:Bool) (t:Int) (w:World)
  (hr1:0≤regs) (hr2:regs≤9223372036854775807) (hn:nb≤9223372036854775807) (hto:SliceAt w 1 ju tp [t]) (hw0:Ways w) :
  Calls Tryz.prog 54 #[.agg #[.slice g1 g2 g3,.slice f1 f2 f3,.string nm,.int .i64 params,.int .i64 regs,.slice b1 nb b3,.slice a1 a2 a3],.agg #[.int .i64 2,.bool r,.int .i64 n,.slice tp 1 tc]] w fun e w'=>e = .returned (.int .i64 (vM regs nb 2 r n [t]))∧Below w.heap.size w w':=by
 obtain⟨_,q1,q2,q3⟩:=hw0
 have hsz:=q8 q1
 have hsz1:0<w.heap.size+1:=by omega
 have hw1:zJ 1 1 3=true:=rfl
 have hw2:zJ 2 1 3=true:=rfl
 have hw3:zJ 3 1 3=true:=rfl
 have HT:Hid (SliceAt w 1 ju tp [t]):=hto
 have HN:Hid (nb≤9223372036854775807):=hn
 clear hto hn
 by_cases ht:zJ t 1 ((nb:Int) - 1)=true
 rotate_left
 ·have hany:[t].any (fun n=>!zJ n 1 ((nb:Int) - 1))=true:=by simp[ht]
  have HV:Hid (vM regs nb 2 r n [t]=3):=by show _=_;simp only[vM];rw[if_neg (by omega),if_neg (by simp),hany,if_pos rfl]
  clear ht
  go_enter Tryz.func54,Tryz.ntmps54
  go_wp2_with (go_at_call 27;refine(qC _ _ _ _).mono ?_;rintro e w1 ⟨rfl,rfl⟩)
  go_quiet (fail)
  go_wp2_with fail
  refine(qS _ (fun n=>!zJ n 1 ((nb:Int) - 1)) tp tc [t] _ (by simp) (HT.out.to (by decide) ?_ (fun _ _ _ h=>h)) (xA w.heap.size nb b3 b1 _ HN.out (by first|rfl|(simp;done)|(simp[World.cell?_alloc_some, *];done)))).mono ?_
  ·exact bZ
  rw[hany]
  rintro e w3 ⟨rfl,hb3⟩
  obtain⟨hc3,hf3,hz3⟩:=kQ hb3
  simp at hz3
  have hz4:w.heap.size<w3.heap.size:=by omega
  have hz5:w.heap.size+1<w3.heap.size:=by omega
  go_wp2
  go_ret
  refine⟨by rw[HV.out];rfl,?_⟩
  exact bZ
 have hany:[t].any (fun n=>!zJ n 1 ((nb:Int) - 1))=false:=by simp[ht]
 by_cases hv:r=false∧n=0
 ·obtain⟨rfl,rfl⟩:=hv
  have HV:Hid (vM regs nb 2 false 0 [t]=zP regs false 0):=by show _=_;simp[vM,ht]
  clear ht
  go_enter Tryz.func54,Tryz.ntmps54
  go_wp2_with (go_at_call 27;refine(qC _ _ _ _).mono ?_;rintro e w1 ⟨rfl,rfl⟩)
  go_quiet (fail)
  go_wp2_with fail
  refine(qS _ (fun n=>!zJ n 1 ((nb:Int) - 1)) tp tc [t] _ (by simp) (HT.out.to (by decide) ?_ (fun _ _ _ h=>h)) (xA w.heap.size nb b3 b1 _ HN.out (by first|rfl|(simp;done)|(simp[World.cell?_alloc_some, *];done)))).mono ?_
  ·exact bZ
  rw[hany]
  rintro e w3 ⟨rfl,hb3⟩
  obtain⟨hc3,hf3,hz3⟩:=kQ hb3
  simp at hz3
  have hz4:w.heap.size<w3.heap.size:=by omega
  have hz5:w.heap.size+1<w3.heap.size:=by omega
  go_wp2
  go_quiet (fail)
  go_wp2_with fail
  refine(jv _ _ _ _ _ _ _ _ _ _ _ _ _ _ _ _ _ _ hr1 hr2).mono ?_
  rintro e w4 ⟨rfl,hb4⟩
  go_wp2
  go_ret
  refine⟨by rw[HV.out];rfl,?_⟩
  exact bZ
 have HV:Hid (vM regs nb 2 r n [t]=5):=by show _=_;simp only[vM];rw[if_neg (by omega),if_neg (by simp),hany];simp;intro h1 h2;exact absurd ⟨h1,h2⟩ hv
 have he:∀w:World,(binOp .neq 43 (.agg #[.bool r,.int .i64 n]) (.agg #[.bool false,.int .i64 0])).run Tryz.prog w = .ok (.bool true) w:=fun w=>by
  rw[run_neVal]
  cases r
  ·have hn0:n≠0:=fun h=>hv ⟨rfl,h⟩
   simp[hn0]
  simp
 clear ht hv
 go_enter Tryz.func54,Tryz.ntmps54
 go_wp2_with (go_at_call 27;refine(qC _ _ _ _).mono ?_;rintro e w1 ⟨rfl,rfl⟩)
 go_quiet (fail)
 go_wp2_with fail
 refine(qS _ (fun n=>!zJ n 1 ((nb:Int) - 1)) tp tc [t] _ (by simp) (HT.out.to (by decide) ?_ (fun _ _ _ h=>h)) (xA w.heap.size nb b3 b1 _ HN.out (by first|rfl|(simp;done)|(simp[World.cell?_alloc_some, *];done)))).mono ?_
 ·exact bZ
 rw[hany]
 rintro e w3 ⟨rfl,hb3⟩
 obtain⟨hc3,hf3,hz3⟩:=kQ hb3
 simp at hz3
 have hz4:w.heap.size<w3.heap.size:=by omega
 have hz5:w.heap.size+1<w3.heap.size:=by omega
 go_wp2
 go_quiet (fail)
 go_wp2
 go_ret
 refine⟨by rw[HV.out];rfl,?_⟩
 exact bZ
theorem end_kind3 (g1 f1 b1 a1 tp:Option Addr) (g2 g3 f2 f3 nb b3 a2 a3 tc:Nat) (nm:ByteArray) (params regs n:Int) (r:Bool) (t u:Int) (w:World)
  (hr1:0≤regs) (hr2:regs≤9223372036854775807) (hn:nb≤9223372036854775807) (hto:SliceAt w 1 ju tp [t,u]) (hw0:Ways w) :
  Calls Tryz.prog 54 #[.agg #[.slice g1 g2 g3,.slice f1 f2 f3,.string nm,.int .i64 params,.int .i64 regs,.slice b1 nb b3,.slice a1 a2 a3],.agg #[.int .i64 3,.bool r,.int .i64 n,.slice tp 2 tc]] w fun e w'=>e = .returned (.int .i64 (vM regs nb 3 r n [t,u]))∧Below w.heap.size w w':=by
 obtain⟨_,q1,q2,q3⟩:=hw0
 have hsz:=q8 q1
 have hsz1:0<w.heap.size+1:=by omega
 have hw1:zJ 1 1 3=true:=rfl
 have hw2:zJ 2 1 3=true:=rfl
 have hw3:zJ 3 1 3=true:=rfl
 have HT:Hid (SliceAt w 1 ju tp [t,u]):=hto
 have HN:Hid (nb≤9223372036854775807):=hn
 obtain⟨bt,ot,rfl,q4,q5⟩:∃b o,tp=some ⟨b,o,none⟩∧w.cell? ⟨b,o,none⟩=some (.int .i64 t)∧w.cell? ⟨b,o+1,none⟩=some (.int .i64 u):=by
  rcases hto with h|⟨b,o,rfl,h⟩
  ·simp at h
  obtain⟨cs,_,h0,rfl,_⟩:=h 0 (by simp)
  obtain⟨cs',_,h1,rfl,_⟩:=h 1 (by simp)
  exact⟨b,o,rfl,by simpa using h0 0 (by simp),by simpa using h1 0 (by simp)⟩
 have hst:=q8 q4
 have hqE:bt<w.heap.size+1:=by omega
 have hgK:bt<w.heap.size+1+1:=by omega
 clear hto hn
 by_cases ht:zJ t 1 ((nb:Int) - 1)=true∧zJ u 1 ((nb:Int) - 1)=true
 rotate_left
 ·have hany:[t,u].any (fun n=>!zJ n 1 ((nb:Int) - 1))=true:=by simp only[List.any,Bool.or_false];cases h1:zJ t 1 ((nb:Int) - 1)<;>cases h2:zJ u 1 ((nb:Int) - 1)<;>simp_all
  have HV:Hid (vM regs nb 3 r n [t,u]=3):=by show _=_;simp only[vM];rw[if_neg (by omega),if_neg (by simp),hany,if_pos rfl]
  clear ht
  go_enter Tryz.func54,Tryz.ntmps54
  go_wp2_with (go_at_call 27;refine(qC _ _ _ _).mono ?_;rintro e w1 ⟨rfl,rfl⟩)
  go_quiet (fail)
  go_wp2_with fail
  refine(qS _ (fun n=>!zJ n 1 ((nb:Int) - 1)) (some ⟨bt,ot,none⟩) tc [t,u] _ (by simp) (HT.out.to (by decide) ?_ (fun _ _ _ h=>h)) (xA w.heap.size nb b3 b1 _ HN.out (by first|rfl|(simp;done)|(simp[World.cell?_alloc_some, *];done)))).mono ?_
  ·exact bZ
  rw[hany]
  rintro e w3 ⟨rfl,hb3⟩
  obtain⟨hc3,hf3,hz3⟩:=kQ hb3
  simp at hz3
  have hz4:w.heap.size<w3.heap.size:=by omega
  have hz5:w.heap.size+1<w3.heap.size:=by omega
  go_wp2
  go_ret
  refine⟨by rw[HV.out];rfl,?_⟩
  exact bZ
 have hany:[t,u].any (fun n=>!zJ n 1 ((nb:Int) - 1))=false:=by simp[ht]
 by_cases hv:t=u
 ·subst hv
  have HV:Hid (vM regs nb 3 r n [t,t]=5):=by show _=_;simp only[vM];rw[if_neg (by omega),if_neg (by simp),hany];simp
  clear ht
  go_enter Tryz.func54,Tryz.ntmps54
  go_wp2_with (go_at_call 27;refine(qC _ _ _ _).mono ?_;rintro e w1 ⟨rfl,rfl⟩)
  go_quiet (fail)
  go_wp2_with fail
  refine(qS _ (fun n=>!zJ n 1 ((nb:Int) - 1)) (some ⟨bt,ot,none⟩) tc [t,t] _ (by simp) (HT.out.to (by decide) ?_ (fun _ _ _ h=>h)) (xA w.heap.size nb b3 b1 _ HN.out (by first|rfl|(simp;done)|(simp[World.cell?_alloc_some, *];done)))).mono ?_
  ·exact bZ
  rw[hany]
  rintro e w3 ⟨rfl,hb3⟩
  obtain⟨hc3,hf3,hz3⟩:=kQ hb3
  simp at hz3
  have hz4:w.heap.size<w3.heap.size:=by omega
  have hz5:w.heap.size+1<w3.heap.size:=by omega
  go_wp2
  go_quiet (fail)
  go_wp2
  go_ret
  refine⟨by rw[HV.out];rfl,?_⟩
  exact bZ
 have HV:Hid (vM regs nb 3 r n [t,u]=zP regs r n):=by show _=_;simp only[vM];rw[if_neg (by omega),if_neg (by simp),hany];simp[hv]
 have hvb:(t == u)=false:=by simp[hv]
 clear ht
 go_enter Tryz.func54,Tryz.ntmps54
 go_wp2_with (go_at_call 27;refine(qC _ _ _ _).mono ?_;rintro e w1 ⟨rfl,rfl⟩)
 go_quiet (fail)
 go_wp2_with fail
 refine(qS _ (fun n=>!zJ n 1 ((nb:Int) - 1)) (some ⟨bt,ot,none⟩) tc [t,u] _ (by simp) (HT.out.to (by decide) ?_ (fun _ _ _ h=>h)) (xA w.heap.size nb b3 b1 _ HN.out (by first|rfl|(simp;done)|(simp[World.cell?_alloc_some, *];done)))).mono ?_
 ·exact bZ
 rw[hany]
 rintro e w3 ⟨rfl,hb3⟩
 obtain⟨hc3,hf3,hz3⟩:=kQ hb3
 simp at hz3
 have hz4:w.heap.size<w3.heap.size:=by omega
 have hz5:w.heap.size+1<w3.heap.size:=by omega
 go_wp2
 go_quiet (fail)
 go_wp2_with fail
 refine(jv _ _ _ _ _ _ _ _ _ _ _ _ _ _ _ _ _ _ hr1 hr2).mono ?_
 rintro e w4 ⟨rfl,hb4⟩
 go_wp2
 go_ret
 refine⟨by rw[HV.out];rfl,?_⟩
 exact bZ
theorem end_any (g1 f1 b1 a1 tp:Option Addr) (g2 g3 f2 f3 nb b3 a2 a3 tc:Nat) (nm:ByteArray) (params regs kind n:Int) (r:Bool) (to:List Int) (w:World)
  (hr1:0≤regs) (hr2:regs≤9223372036854775807) (hn:nb≤9223372036854775807) (hl:to.length≤9223372036854775807) (hto:SliceAt w 1 ju tp to) (hw0:Ways w) :
  Calls Tryz.prog 54 #[.agg #[.slice g1 g2 g3,.slice f1 f2 f3,.string nm,.int .i64 params,.int .i64 regs,.slice b1 nb b3,.slice a1 a2 a3],.agg #[.int .i64 kind,.bool r,.int .i64 n,.slice tp to.length tc]] w fun e w'=>e = .returned (.int .i64 (vM regs nb kind r n to))∧Below w.heap.size w w':=by
 by_cases hk:1≤kind∧kind≤3
 ·by_cases hlen:(to.length:Int)=kind - 1
  ·obtain rfl|rfl|rfl:kind=1∨kind=2∨kind=3:=by omega
   ·obtain rfl:to=[]:=List.length_eq_zero_iff.1 (by omega)
    exact end_kind1 _ _ _ _ _ _ _ _ _ _ _ _ _ _ _ _ _ _ _ _ hr1 hr2 hn hto hw0
   ·obtain⟨t,rfl⟩:∃t,to=[t]:=List.length_eq_one_iff.1 (by omega)
    exact end_kind2 _ _ _ _ _ _ _ _ _ _ _ _ _ _ _ _ _ _ _ _ _ hr1 hr2 hn hto hw0
   obtain⟨t,u,rfl⟩:∃t u,to=[t,u]:=by
    match to,hlen with
    | [t,u],_=>exact⟨t,u,rfl⟩
    | [],h=>simp at h
    | [_],h=>simp at h
    | _::_::_::_,h=>simp at h;omega
   exact end_kind3 _ _ _ _ _ _ _ _ _ _ _ _ _ _ _ _ _ _ _ _ _ _ hr1 hr2 hn hto hw0
  exact end_len _ _ _ _ _ _ _ _ _ _ _ _ _ _ _ _ _ _ _ _ _ _ (by omega) hlen hl hw0
 exact end_bad _ _ _ _ _ _ _ _ _ _ _ _ _ _ _ _ _ _ _ _ _ _ hk

def qr:List Int→Int
 | []=>0
 | x::l=>if x=0 then qr l else x

theorem Q9 {α:Type} (g:α→Int) (l:List α) (k:Nat) (h:k<l.length):qr ((l.drop k).map g)=if g l[k]=0 then qr ((l.drop (k+1)).map g)else g l[k]:=by
 rw[List.drop_eq_getElem_cons h];rfl

def valsE (regs:Int) (l:List (Bool×Int)):Int:=qr (l.map fun v=>zP regs v.1 v.2)

def Zi (regs:Int) (block cnt:Nat) (dst:Int) (l:List (Bool×Int)):Int:=
 if block=0 then 5
 else if vE regs dst≠0 then vE regs dst
 else if l.length≠cnt then 9
 else valsE regs l

theorem phi_0 (g1 f1 b1 a1 p:Option Addr) (g2 g3 f2 f3 b2 b3 a2 a3 l c cnt:Nat) (nm:ByteArray) (params regs dst:Int) (L:List (Bool×Int)) (w:World) :
  Calls Tryz.prog 56 #[.agg #[.slice g1 g2 g3,.slice f1 f2 f3,.string nm,.int .i64 params,.int .i64 regs,.slice b1 b2 b3,.slice a1 a2 a3],.int .i64 0,.agg #[.int .i64 dst,.slice p l c]] w fun e w'=>e = .returned (.int .i64 (Zi regs 0 cnt dst L))∧Below w.heap.size w w':=by
 go_enter Tryz.func56,Tryz.ntmps56
 go_wp2
 go_ret
 refine⟨rfl,?_⟩
 exact bZ

theorem phi_dst (g1 f1 b1 a1 p:Option Addr) (g2 g3 f2 f3 b2 b3 a2 a3 l c block cnt:Nat) (nm:ByteArray) (params regs dst:Int) (L:List (Bool×Int)) (w:World)
  (h1:0≤regs) (h2:regs≤9223372036854775807) (h0:block≠0) (hd:vE regs dst≠0) :
  Calls Tryz.prog 56 #[.agg #[.slice g1 g2 g3,.slice f1 f2 f3,.string nm,.int .i64 params,.int .i64 regs,.slice b1 b2 b3,.slice a1 a2 a3],.int .i64 block,.agg #[.int .i64 dst,.slice p l c]] w fun e w'=>e = .returned (.int .i64 (Zi regs block cnt dst L))∧Below w.heap.size w w':=by
 have HV:Hid (Zi regs block cnt dst L=vE regs dst):=by show _=_;unfold Zi;rw[if_neg h0,if_pos hd]
 have hb0:((block:Int) == 0)=false:=by simp[h0]
 have hdb:(vE regs dst == 0)=false:=by simp[hd]
 go_enter Tryz.func56,Tryz.ntmps56
 go_wp2_with (go_at_call 88;refine(Q8 _ _ _ _ _ _ _ _ _ _ _ _ _ _ _ _ _ h1 h2).mono ?_;rintro e w3 ⟨rfl,hb3⟩)
 go_ret
 refine⟨by rw[HV.out];rfl,?_⟩
 exact bZ

theorem phi_len (g1 f1 b1 p:Option Addr) (ab ao:Nat) (g2 g3 f2 f3 b2 b3 a2 a3 l c block cnt qc:Nat) (q:Option Addr) (nm:ByteArray) (params regs dst:Int) (L:List (Bool×Int)) (w:World)
  (h1:0≤regs) (h2:regs≤9223372036854775807) (h0:block≠0) (hd:vE regs dst=0) (hl:l=L.length) (hne:l≠cnt) (hbl:block<a2) (_ha2:a2≤9223372036854775807) (_hl1:l≤9223372036854775807) (_hl2:cnt≤9223372036854775807) (hc:w.cell? ⟨ab,ao+block,none⟩=some (.slice q cnt qc)) :
  Calls Tryz.prog 56 #[.agg #[.slice g1 g2 g3,.slice f1 f2 f3,.string nm,.int .i64 params,.int .i64 regs,.slice b1 b2 b3,.slice (some ⟨ab,ao,none⟩) a2 a3],.int .i64 block,.agg #[.int .i64 dst,.slice p l c]] w fun e w'=>e = .returned (.int .i64 (Zi regs block cnt dst L))∧Below w.heap.size w w':=by
 have HV:Hid (Zi regs block cnt dst L=9):=by show _=_;unfold Zi;rw[if_neg h0,if_neg (by simp[hd]),if_pos (by omega)]
 have hb0:((block:Int) == 0)=false:=by simp[h0]
 have hdb:(vE regs dst != 0)=false:=by simp[hd]
 have hn:((l:Int) != (cnt:Int))=true:=by simp;omega
 have hsz:=q8 hc
 have hsz1:ab<w.heap.size+1:=by omega
 have hsz2:ab<w.heap.size+1+1:=by omega
 clear hd
 go_enter Tryz.func56,Tryz.ntmps56
 go_wp2_with (go_at_call 88;refine(Q8 _ _ _ _ _ _ _ _ _ _ _ _ _ _ _ _ _ h1 h2).mono ?_;rintro e w3 ⟨rfl,hb3⟩;obtain⟨hc3,hf3,hz3⟩:=kQ hb3;simp at hz3)
 have hz4:w.heap.size<w3.heap.size:=by omega
 have hz5:w.heap.size+1<w3.heap.size:=by omega
 go_quiet (fail)
 go_wp2
 go_ret
 refine⟨by rw[HV.out];rfl,?_⟩
 exact bZ

theorem phi_vals (g1 f1 b1:Option Addr) (pb po ab ao:Nat) (g2 g3 f2 f3 b2 b3 a2 a3 c block cnt qc:Nat) (q:Option Addr) (nm:ByteArray) (params regs dst:Int) (L:List (Bool×Int)) (w:World)
  (h1:0≤regs) (h2:regs≤9223372036854775807) (h0:block≠0) (hd:vE regs dst=0) (hne:L.length=cnt) (hbl:block<a2) (_ha2:a2≤9223372036854775807) (hl2:cnt≤9223372036854775807) (hc:w.cell? ⟨ab,ao+block,none⟩=some (.slice q cnt qc))
  (hL:∀i (h:i<L.length),w.cell? ⟨pb,po+i*2,none⟩=some (.bool L[i].1)∧w.cell? ⟨pb,po+i*2+1,none⟩=some (.int .i64 L[i].2)) (hpb:L≠[]→pb<w.heap.size) :
  Calls Tryz.prog 56 #[.agg #[.slice g1 g2 g3,.slice f1 f2 f3,.string nm,.int .i64 params,.int .i64 regs,.slice b1 b2 b3,.slice (some ⟨ab,ao,none⟩) a2 a3],.int .i64 block,.agg #[.int .i64 dst,.slice (some ⟨pb,po,none⟩) cnt c]] w fun e w'=>e = .returned (.int .i64 (Zi regs block cnt dst L))∧Below w.heap.size w w':=by
 have HV:Hid (Zi regs block cnt dst L=qr (L.map fun v=>zP regs v.1 v.2)):=by show _=_;unfold Zi;rw[if_neg h0,if_neg (by simp[hd]),if_neg (by omega)];rfl
 have hb0:((block:Int) == 0)=false:=by simp[h0]
 have hdb:(vE regs dst != 0)=false:=by simp[hd]
 have hsz:=q8 hc
 have hsz1:ab<w.heap.size+1:=by omega
 have hsz2:ab<w.heap.size+1+1:=by omega
 have HL:Hid (∀i (h:i<L.length),w.cell? ⟨pb,po+i*2,none⟩=some (.bool L[i].1)∧w.cell? ⟨pb,po+i*2+1,none⟩=some (.int .i64 L[i].2)):=hL
 have HN:Hid (L.length=cnt):=hne
 have HP:Hid (L≠[]→pb<w.heap.size):=hpb
 clear hd hL hne hpb
 go_enter Tryz.func56,Tryz.ntmps56
 go_wp2_with (go_at_call 88;refine(Q8 _ _ _ _ _ _ _ _ _ _ _ _ _ _ _ _ _ h1 h2).mono ?_;rintro e w3 ⟨rfl,hb3⟩;obtain⟨hc3,hf3,hz3⟩:=kQ hb3;simp at hz3)
 have hz4:w.heap.size<w3.heap.size:=by omega
 have hz5:w.heap.size+1<w3.heap.size:=by omega
 have HB0:Hid (Below w.heap.size w w3):=(((Below.refl _ _).alloc (Nat.le_refl _) _).alloc (by simp) _).trans (hb3.mono (by simp;omega))
 go_quiet (fail)
 go_wp2
 go_loopw [33] (fun i wr=>∃k:Nat,k≤cnt∧i = .int .i64 k∧qr ((L.drop k).map fun v=>zP regs v.1 v.2)=qr (L.map fun v=>zP regs v.1 v.2)∧Below w3.heap.size w3 wr) (fun i _=>cnt - (intOf i).toNat)
 case atStart=>exact⟨0,by omega,rfl,rfl,by exact bZ⟩
 case round=>
  obtain⟨k,hk,rfl,hV,hB⟩:=hrel
  have HF:Hid (qr ((L.drop k).map fun v=>zP regs v.1 v.2)=qr (L.map fun v=>zP regs v.1 v.2)):=hV
  obtain⟨hcr,hfr,hzr⟩:=kQ hB
  have HB:Hid (Below w3.heap.size w3 wr):=hB
  clear hV hB
  by_cases hlt:k<cnt
  rotate_left
  ·have HZ:Hid (qr (L.map fun v=>zP regs v.1 v.2)=0):=by
    have hk2:k=L.length:=by have:=HN.out;omega
    show _=_
    rw[←HF.out,hk2];simp[qr]
   have HBw:Hid (Below w.heap.size w wr):=HB0.out.trans (HB.out.mono HB0.out.size)
   clear HF
   go_wp2
   go_ret
   refine⟨by rw[HV.out,HZ.out];rfl,?_⟩
   exact HBw.out
  have hlt2:k<L.length:=by have:=HN.out;omega
  have hpb:pb<w.heap.size:=HP.out (by rintro rfl;simp at hlt2)
  have HBw:Hid (Below w.heap.size w wr):=HB0.out.trans (HB.out.mono HB0.out.size)
  have d0:=(HBw.out.cell (p:=⟨pb,po+k*2,none⟩) hpb).trans (HL.out k hlt2).1
  have d1:=(HBw.out.cell (p:=⟨pb,po+k*2+1,none⟩) hpb).trans (HL.out k hlt2).2
  have d2:pb<wr.heap.size:=by have:=HBw.out.size;omega
  have HD:Hid (qr ((L.drop k).map fun v=>zP regs v.1 v.2)=if zP regs L[k].1 L[k].2=0 then qr ((L.drop (k+1)).map fun v=>zP regs v.1 v.2)else zP regs L[k].1 L[k].2):=Q9 (fun v:Bool×Int=>zP regs v.1 v.2) L k hlt2
  rw[HF.out]at HD
  generalize L[k].1=r at d0 HD
  generalize L[k].2=n at d1 HD
  clear HF hlt2 hpb
  have hz6:w.heap.size<wr.heap.size:=by omega
  have hz7:w.heap.size+1<wr.heap.size:=by omega
  by_cases hv:zP regs r n=0
  ·have hvb:(zP regs r n != 0)=false:=by simp[hv]
   have HD2:=HD.out
   rw[if_pos hv]at HD2
   replace HD:Hid (qr (L.map fun v=>zP regs v.1 v.2)=qr ((L.drop (k+1)).map fun v=>zP regs v.1 v.2)):=HD2
   clear HD2 hv
   go_wp2_with (go_at_call 87;refine(jv _ _ _ _ _ _ _ _ _ _ _ _ _ _ _ _ _ _ h1 h2).mono ?_;rintro e w4 ⟨rfl,hb4⟩)
   refine⟨⟨k+1,by omega,by go_num,HD.out.symm,?_⟩,by simp[intOf];omega⟩
   exact HB.out.trans (Below.trans bZ (hb4.mono (by have:=HB.out.size;simp;omega)))
  have hvb:(zP regs r n != 0)=true:=by simp[hv]
  have HD2:=HD.out
  rw[if_neg hv]at HD2
  replace HD:Hid (qr (L.map fun v=>zP regs v.1 v.2)=zP regs r n):=HD2
  clear HD2 hv
  go_wp2_with (go_at_call 87;refine(jv _ _ _ _ _ _ _ _ _ _ _ _ _ _ _ _ _ _ h1 h2).mono ?_;rintro e w4 ⟨rfl,hb4⟩)
  go_ret
  refine⟨by rw[HV.out,HD.out];rfl,?_⟩
  exact HBw.out.trans (Below.trans bZ (hb4.mono (by have:=HBw.out.size;simp;omega)))

theorem phi_nil (g1 f1 b1 p:Option Addr) (ab ao:Nat) (g2 g3 f2 f3 b2 b3 a2 a3 c block qc:Nat) (q:Option Addr) (nm:ByteArray) (params regs dst:Int) (w:World)
  (h1:0≤regs) (h2:regs≤9223372036854775807) (h0:block≠0) (hd:vE regs dst=0) (hbl:block<a2) (_ha2:a2≤9223372036854775807) (hc:w.cell? ⟨ab,ao+block,none⟩=some (.slice q 0 qc)) :
  Calls Tryz.prog 56 #[.agg #[.slice g1 g2 g3,.slice f1 f2 f3,.string nm,.int .i64 params,.int .i64 regs,.slice b1 b2 b3,.slice (some ⟨ab,ao,none⟩) a2 a3],.int .i64 block,.agg #[.int .i64 dst,.slice p 0 c]] w fun e w'=>e = .returned (.int .i64 (Zi regs block 0 dst []))∧Below w.heap.size w w':=by
 have HV:Hid (Zi regs block 0 dst []=0):=by show _=_;unfold Zi;rw[if_neg h0,if_neg (by simp[hd]),if_neg (by simp)];rfl
 have hb0:((block:Int) == 0)=false:=by simp[h0]
 have hdb:(vE regs dst != 0)=false:=by simp[hd]
 have hsz:=q8 hc
 have hsz1:ab<w.heap.size+1:=by omega
 have hsz2:ab<w.heap.size+1+1:=by omega
 clear hd
 go_enter Tryz.func56,Tryz.ntmps56
 go_wp2_with (go_at_call 88;refine(Q8 _ _ _ _ _ _ _ _ _ _ _ _ _ _ _ _ _ h1 h2).mono ?_;rintro e w3 ⟨rfl,hb3⟩;obtain⟨hc3,hf3,hz3⟩:=kQ hb3;simp at hz3)
 have hz4:w.heap.size<w3.heap.size:=by omega
 have hz5:w.heap.size+1<w3.heap.size:=by omega
 have HB0:Hid (Below w.heap.size w w3):=(((Below.refl _ _).alloc (Nat.le_refl _) _).alloc (by simp) _).trans (hb3.mono (by simp;omega))
 go_quiet (fail)
 go_wp2
 go_loop [33] (fun i=>i = .int .i64 0) (fun _=>0)
 case atStart=>rfl
 case round=>
  subst hrel
  go_wp2
  go_ret
  refine⟨by rw[HV.out];rfl,?_⟩
  exact below_drewN HB0.out _

theorem phi_any (g1 f1 b1 p:Option Addr) (ab ao:Nat) (g2 g3 f2 f3 b2 b3 a2 a3 c block cnt qc:Nat) (q:Option Addr) (nm:ByteArray) (params regs dst:Int) (L:List (Bool×Int)) (w:World)
  (h1:0≤regs) (h2:regs≤9223372036854775807) (hbl:block<a2) (ha2:a2≤9223372036854775807) (hl1:L.length≤9223372036854775807) (hl2:cnt≤9223372036854775807) (hc:w.cell? ⟨ab,ao+block,none⟩=some (.slice q cnt qc)) (hL:SliceAt w 2 kR p L) :
  Calls Tryz.prog 56 #[.agg #[.slice g1 g2 g3,.slice f1 f2 f3,.string nm,.int .i64 params,.int .i64 regs,.slice b1 b2 b3,.slice (some ⟨ab,ao,none⟩) a2 a3],.int .i64 block,.agg #[.int .i64 dst,.slice p L.length c]] w fun e w'=>e = .returned (.int .i64 (Zi regs block cnt dst L))∧Below w.heap.size w w':=by
 by_cases h0:block=0
 ·subst h0;exact phi_0 _ _ _ _ _ _ _ _ _ _ _ _ _ _ _ _ _ _ _ _ _ _
 by_cases hd:vE regs dst=0
 ·by_cases hne:L.length=cnt
  ·rcases hL with rfl|⟨b,o,rfl,h⟩
   ·subst hne;exact phi_nil _ _ _ _ _ _ _ _ _ _ _ _ _ _ _ _ _ _ _ _ _ _ _ h1 h2 h0 hd hbl ha2 hc
   rw[hne]
   have hx:∀i (h:i<L.length),w.cell? ⟨b,o+i*2,none⟩=some (.bool L[i].1)∧w.cell? ⟨b,o+i*2+1,none⟩=some (.int .i64 L[i].2):=fun i hi=>by
    obtain⟨cs,_,hc,⟨rfl,_⟩⟩:=h i hi
    exact⟨hc 0 (by omega),hc 1 (by omega)⟩
   refine phi_vals _ _ _ _ _ _ _ _ _ _ _ _ _ _ _ _ _ _ _ _ _ _ _ _ _ _ h1 h2 h0 hd hne hbl ha2 hl2 hc hx fun hn=>?_
   have hp:0<L.length:=List.length_pos_iff.2 hn
   exact q8 (hx 0 hp).1
  exact phi_len _ _ _ _ _ _ _ _ _ _ _ _ _ _ _ _ _ _ _ _ _ _ _ _ _ _ h1 h2 h0 hd rfl hne hbl ha2 hl1 hl2 hc
 exact phi_dst _ _ _ _ _ _ _ _ _ _ _ _ _ _ _ _ _ _ _ _ _ _ _ h1 h2 h0 hd

def Vq (F:FuncId) (caps:Array Value) (w:World) (e:Int):Prop:=
 ∀w1:World,Below w.heap.size w w1→Calls Tryz.prog F caps w1 fun x w2=>x = .returned (.int .i64 e)∧Below w1.heap.size w1 w2

theorem ZU (sb so sc:Nat) (B X C:Addr) (e1 e2 e3:Int) (w:World)
  (h0:w.cell? ⟨sb,so,none⟩=some (.func (.func 91) #[] #[.pointer (some B),.pointer (some X)]))
  (h1:w.cell? ⟨sb,so+1,none⟩=some (.func (.func 92) #[] #[.pointer (some B),.pointer (some X)]))
  (h2:w.cell? ⟨sb,so+2,none⟩=some (.func (.func 93) #[] #[.pointer (some C),.pointer (some X),.pointer (some B)]))
  (a1:Vq 91 #[.pointer (some B),.pointer (some X)] w e1) (a2:Vq 92 #[.pointer (some B),.pointer (some X)] w e2) (a3:Vq 93 #[.pointer (some C),.pointer (some X),.pointer (some B)] w e3) :
  Calls Tryz.prog 90 #[.slice (some ⟨sb,so,none⟩) 3 sc] w fun e w'=>e = .returned (.int .i64 (qr [e1,e2,e3]))∧Below w.heap.size w w':=by
 have A1:Hid (Vq 91 #[.pointer (some B),.pointer (some X)] w e1):=a1
 have A2:Hid (Vq 92 #[.pointer (some B),.pointer (some X)] w e2):=a2
 have A3:Hid (Vq 93 #[.pointer (some C),.pointer (some X),.pointer (some B)] w e3):=a3
 have hsb:=q8 h0
 clear a1 a2 a3
 go_enter Tryz.func90,Tryz.ntmps90
 go_wp2
 go_loopw [8] (fun i wr=>∃k:Nat,i = .int .i64 k∧(k=0∨(k=1∧e1=0)∨(k=2∧e1=0∧e2=0)∨(k=3∧e1=0∧e2=0∧e3=0))∧Below w.heap.size w wr) (fun i _=>3 - (intOf i).toNat)
 case atStart=>exact⟨0,rfl,.inl rfl,Below.refl _ _⟩
 case round=>
  obtain⟨k,rfl,hk,hB⟩:=hrel
  have HB:Hid (Below w.heap.size w wr):=hB
  have g0:=(hB.cell (p:=⟨sb,so,none⟩) hsb).trans h0
  have g1:=(hB.cell (p:=⟨sb,so+1,none⟩) hsb).trans h1
  have g2:=(hB.cell (p:=⟨sb,so+2,none⟩) hsb).trans h2
  clear hB
  rcases hk with rfl|⟨rfl,z1⟩|⟨rfl,z1,z2⟩|⟨rfl,z1,z2,z3⟩
  ·by_cases hz:e1=0
   ·have hzb:(e1 != 0)=false:=by simp[hz]
    have HZ:Hid (e1=0):=hz
    clear hz
    go_wp2_with fail
    refine(A1.out _ HB.out).mono ?_
    rintro e w2 ⟨rfl,hb2⟩
    have HB2:Hid (Below w.heap.size w w2):=HB.out.trans (hb2.mono HB.out.size)
    clear hb2
    go_wp2
    exact⟨⟨1,by go_num,.inr (.inl ⟨rfl,HZ.out⟩),HB2.out⟩,by simp[intOf]⟩
   have hzb:(e1 != 0)=true:=by simp[hz]
   have HV:Hid (qr [e1,e2,e3]=e1):=by show _=_;simp[qr,hz]
   clear hz
   go_wp2_with fail
   refine(A1.out _ HB.out).mono ?_
   rintro e w2 ⟨rfl,hb2⟩
   have HB2:Hid (Below w.heap.size w w2):=HB.out.trans (hb2.mono HB.out.size)
   clear hb2
   go_wp2
   go_ret
   exact⟨by rw[HV.out];rfl,HB2.out⟩
  ·by_cases hz:e2=0
   ·have hzb:(e2 != 0)=false:=by simp[hz]
    have HZ:Hid (e1=0∧e2=0):=⟨z1,hz⟩
    clear hz z1
    go_wp2_with fail
    refine(A2.out _ HB.out).mono ?_
    rintro e w2 ⟨rfl,hb2⟩
    have HB2:Hid (Below w.heap.size w w2):=HB.out.trans (hb2.mono HB.out.size)
    clear hb2
    go_wp2
    exact⟨⟨2,by go_num,.inr (.inr (.inl ⟨rfl,HZ.out⟩)),HB2.out⟩,by simp[intOf]⟩
   have hzb:(e2 != 0)=true:=by simp[hz]
   have HV:Hid (qr [e1,e2,e3]=e2):=by show _=_;simp[qr,hz,z1]
   clear hz z1
   go_wp2_with fail
   refine(A2.out _ HB.out).mono ?_
   rintro e w2 ⟨rfl,hb2⟩
   have HB2:Hid (Below w.heap.size w w2):=HB.out.trans (hb2.mono HB.out.size)
   clear hb2
   go_wp2
   go_ret
   exact⟨by rw[HV.out];rfl,HB2.out⟩
  ·by_cases hz:e3=0
   ·have hzb:(e3 != 0)=false:=by simp[hz]
    have HZ:Hid (e1=0∧e2=0∧e3=0):=⟨z1,z2,hz⟩
    clear hz z1 z2
    go_wp2_with fail
    refine(A3.out _ HB.out).mono ?_
    rintro e w2 ⟨rfl,hb2⟩
    have HB2:Hid (Below w.heap.size w w2):=HB.out.trans (hb2.mono HB.out.size)
    clear hb2
    go_wp2
    exact⟨⟨3,by go_num,.inr (.inr (.inr ⟨rfl,HZ.out⟩)),HB2.out⟩,by simp[intOf]⟩
   have hzb:(e3 != 0)=true:=by simp[hz]
   have HV:Hid (qr [e1,e2,e3]=e3):=by show _=_;simp[qr,hz,z1,z2]
   clear hz z1 z2
   go_wp2_with fail
   refine(A3.out _ HB.out).mono ?_
   rintro e w2 ⟨rfl,hb2⟩
   have HB2:Hid (Below w.heap.size w w2):=HB.out.trans (hb2.mono HB.out.size)
   clear hb2
   go_wp2
   go_ret
   exact⟨by rw[HV.out];rfl,HB2.out⟩
  have HV:Hid (qr [e1,e2,e3]=0):=by show _=_;simp[qr,z1,z2,z3]
  clear z1 z2 z3
  go_wp2
  go_ret
  exact⟨by rw[HV.out];rfl,HB.out⟩

def CkC (w:World) (B:Nat) (g1:Option Addr) (g2 g3:Nat) (f1:Option Addr) (f2 f3:Nat) (nm:ByteArray) (params regs:Int) (b1:Option Addr) (b2 b3:Nat) (a1:Option Addr) (a2 a3:Nat):Prop:=
 w.heap[B]?=some (.cells #[.slice g1 g2 g3,.slice f1 f2 f3,.string nm,.int .i64 params,.int .i64 regs,.slice b1 b2 b3,.slice a1 a2 a3] 73)
def InC (w:World) (X:Nat) (op dst an bn fn:Int) (ar br:Bool) (p:Option Addr) (l c:Nat):Prop:=
 w.heap[X]?=some (.cells #[.int .i64 op,.int .i64 dst,.bool ar,.int .i64 an,.bool br,.int .i64 bn,.int .i64 fn,.slice p l c] 53)

theorem qY {w:World} {b:Nat} {o:Obj} (h:w.heap[b]?=some o):b<w.heap.size:=by
 rcases Nat.lt_or_ge b w.heap.size with g|g
 ·exact g
 rw[Array.getElem?_eq_none g]at h;cases h

theorem ZV {w:World} {B X:Nat} {g1:Option Addr} {g2 g3:Nat} {f1:Option Addr} {f2 f3:Nat} {nm:ByteArray} {params regs:Int} {b1:Option Addr} {b2 b3:Nat} {a1:Option Addr} {a2 a3:Nat} {op dst an bn fn:Int} {ar br:Bool} {p:Option Addr} {l c:Nat}
  (hB:CkC w B g1 g2 g3 f1 f2 f3 nm params regs b1 b2 b3 a1 a2 a3) (hX:InC w X op dst an bn fn ar br p l c) (h1:0≤regs) (h2:regs≤9223372036854775807) :
  Vq 91 #[.pointer (some ⟨B,0,none⟩),.pointer (some ⟨X,0,none⟩)] w (zP regs ar an):=by
 intro w1 hb
 obtain⟨c1,k1⟩:=blk (qg hb (qY hB) hB)
 obtain⟨c2,k2⟩:=blk (qg hb (qY hX) hX)
 clear hB hX
 go_enter Tryz.func91,Tryz.ntmps91
 go_wp2_with (go_at_call 87;refine(jv _ _ _ _ _ _ _ _ _ _ _ _ _ _ _ _ _ _ h1 h2).mono ?_;rintro e w3 ⟨rfl,hb3⟩)
 go_ret
 exact⟨rfl,hb3⟩

theorem ZW {w:World} {B X:Nat} {g1:Option Addr} {g2 g3:Nat} {f1:Option Addr} {f2 f3:Nat} {nm:ByteArray} {params regs:Int} {b1:Option Addr} {b2 b3:Nat} {a1:Option Addr} {a2 a3:Nat} {op dst an bn fn:Int} {ar br:Bool} {p:Option Addr} {l c:Nat}
  (hB:CkC w B g1 g2 g3 f1 f2 f3 nm params regs b1 b2 b3 a1 a2 a3) (hX:InC w X op dst an bn fn ar br p l c) (h1:0≤regs) (h2:regs≤9223372036854775807) :
  Vq 92 #[.pointer (some ⟨B,0,none⟩),.pointer (some ⟨X,0,none⟩)] w (zP regs br bn):=by
 intro w1 hb
 obtain⟨c1,k1⟩:=blk (qg hb (qY hB) hB)
 obtain⟨c2,k2⟩:=blk (qg hb (qY hX) hX)
 clear hB hX
 go_enter Tryz.func92,Tryz.ntmps92
 go_wp2_with (go_at_call 87;refine(jv _ _ _ _ _ _ _ _ _ _ _ _ _ _ _ _ _ _ h1 h2).mono ?_;rintro e w3 ⟨rfl,hb3⟩)
 go_ret
 exact⟨rfl,hb3⟩

def xL (regs:Int) (nf:Nat) (P:Nat→Int) (call:Bool) (fn:Int) (L:List (Bool×Int)):Int:=
 if call=false then 0
 else if ¬(0≤fn∧fn<nf)then 3
 else if(L.length:Int)≠P fn.toNat then 9
 else valsE regs L

theorem ins3_no {w:World} {B X C:Nat} {g1:Option Addr} {g2 g3:Nat} {f1:Option Addr} {f2 f3:Nat} {nm:ByteArray} {params regs:Int} {b1:Option Addr} {b2 b3:Nat} {a1:Option Addr} {a2 a3:Nat} {op dst an bn fn:Int} {ar br:Bool} {p:Option Addr} {l c:Nat} {call:Bool} (P:Nat→Int) (L:List (Bool×Int))
  (hB:CkC w B g1 g2 g3 f1 f2 f3 nm params regs b1 b2 b3 a1 a2 a3) (hX:InC w X op dst an bn fn ar br p l c) (hC:w.cell? ⟨C,0,none⟩=some (.bool call)) (hf:f2≤9223372036854775807)
  (h:call=false∨¬(0≤fn∧fn<f2)) :
  Vq 93 #[.pointer (some ⟨C,0,none⟩),.pointer (some ⟨X,0,none⟩),.pointer (some ⟨B,0,none⟩)] w (xL regs f2 P call fn L):=by
 intro w1 hb
 obtain⟨c1,k1⟩:=blk (qg hb (qY hB) hB)
 obtain⟨c2,k2⟩:=blk (qg hb (qY hX) hX)
 have c3:=(hb.cell (p:=⟨C,0,none⟩) (q8 hC)).trans hC
 clear hB hX hC
 cases call
 ·go_enter Tryz.func93,Tryz.ntmps93
  go_wp2
  go_ret
  exact⟨rfl,Below.refl _ _⟩
 have hh:¬(0≤fn∧fn<f2):=by simpa using h
 have hw:zJ fn 0 ((f2:Int) - 1)=false:=by simp only[zJ,decide_eq_false_iff_not];omega
 have HV:Hid (xL regs f2 P true fn L=3):=by show _=_;unfold xL;rw[if_neg (by decide),if_pos hh]
 clear h hh
 go_enter Tryz.func93,Tryz.ntmps93
 go_wp2_with (go_at_call 27;refine(qC _ _ _ _).mono ?_;rintro e w1 ⟨rfl,rfl⟩)
 go_ret
 exact⟨by rw[HV.out];rfl,Below.refl _ _⟩

theorem ins3_len {w:World} {B X C fb fo:Nat} {g1:Option Addr} {g2 g3:Nat} {f2 f3:Nat} {nm:ByteArray} {params regs:Int} {b1:Option Addr} {b2 b3:Nat} {a1:Option Addr} {a2 a3:Nat} {op dst an bn:Int} {fn:Nat} {ar br:Bool} {p:Option Addr} {l c:Nat} (P:Nat→Int) (L:List (Bool×Int))
  (hB:CkC w B g1 g2 g3 (some ⟨fb,fo,none⟩) f2 f3 nm params regs b1 b2 b3 a1 a2 a3) (hX:InC w X op dst an bn fn ar br p l c) (hC:w.cell? ⟨C,0,none⟩=some (.bool true)) (hf:f2≤9223372036854775807)
  (h:fn<f2) (hP:w.cell? ⟨fb,fo+fn*4+1,none⟩=some (.int .i64 (P fn))) (hl:l=L.length) (_hl2:l≤9223372036854775807) (hne:(l:Int)≠P fn) :
  Vq 93 #[.pointer (some ⟨C,0,none⟩),.pointer (some ⟨X,0,none⟩),.pointer (some ⟨B,0,none⟩)] w (xL regs f2 P true fn L):=by
 intro w1 hb
 obtain⟨c1,k1⟩:=blk (qg hb (qY hB) hB)
 obtain⟨c2,k2⟩:=blk (qg hb (qY hX) hX)
 have c3:=(hb.cell (p:=⟨C,0,none⟩) (q8 hC)).trans hC
 have c4:=(hb.cell (p:=⟨fb,fo+fn*4+1,none⟩) (q8 hP)).trans hP
 clear hB hX hC hP
 have hw:zJ fn 0 ((f2:Int) - 1)=true:=by simp only[zJ,decide_eq_true_eq];omega
 have HV:Hid (xL regs f2 P true fn L=9):=by
  show _=_;unfold xL;rw[if_neg (by decide),if_neg (by omega),if_pos]
  rw[←hl];simpa using hne
 have hnb:((l:Int) != P fn)=true:=by simpa using hne
 clear hne hl
 go_enter Tryz.func93,Tryz.ntmps93
 go_wp2_with (go_at_call 27;refine(qC _ _ _ _).mono ?_;rintro e w1 ⟨rfl,rfl⟩)
 go_quiet (fail)
 go_wp2
 go_ret
 refine⟨by rw[HV.out];rfl,?_⟩
 exact bZ

theorem ins3_yes {w:World} {B X C fb fo pb po:Nat} {g1:Option Addr} {g2 g3:Nat} {f2 f3:Nat} {nm:ByteArray} {params regs:Int} {b1:Option Addr} {b2 b3:Nat} {a1:Option Addr} {a2 a3:Nat} {op dst an bn:Int} {fn:Nat} {ar br:Bool} {l c:Nat} (P:Nat→Int) (L:List (Bool×Int))
  (hB:CkC w B g1 g2 g3 (some ⟨fb,fo,none⟩) f2 f3 nm params regs b1 b2 b3 a1 a2 a3) (hX:InC w X op dst an bn fn ar br (some ⟨pb,po,none⟩) l c) (hC:w.cell? ⟨C,0,none⟩=some (.bool true)) (hf:f2≤9223372036854775807) (h1:0≤regs) (h2:regs≤9223372036854775807)
  (h:fn<f2) (hP:w.cell? ⟨fb,fo+fn*4+1,none⟩=some (.int .i64 (P fn))) (hl:L.length=l) (hl2:l≤9223372036854775807) (hne:(l:Int)=P fn)
  (hL:∀i (h:i<L.length),w.cell? ⟨pb,po+i*2,none⟩=some (.bool L[i].1)∧w.cell? ⟨pb,po+i*2+1,none⟩=some (.int .i64 L[i].2)) :
  Vq 93 #[.pointer (some ⟨C,0,none⟩),.pointer (some ⟨X,0,none⟩),.pointer (some ⟨B,0,none⟩)] w (xL regs f2 P true fn L):=by
 intro w1 hb
 have hL1:∀i (h:i<L.length),w1.cell? ⟨pb,po+i*2,none⟩=some (.bool L[i].1)∧w1.cell? ⟨pb,po+i*2+1,none⟩=some (.int .i64 L[i].2):=fun i hi=>
  ⟨(hb.cell (p:=⟨pb,po+i*2,none⟩) (q8 (hL i hi).1)).trans (hL i hi).1,(hb.cell (p:=⟨pb,po+i*2+1,none⟩) (q8 (hL i hi).1)).trans (hL i hi).2⟩
 obtain⟨c1,k1⟩:=blk (qg hb (qY hB) hB)
 obtain⟨c2,k2⟩:=blk (qg hb (qY hX) hX)
 have c3:=(hb.cell (p:=⟨C,0,none⟩) (q8 hC)).trans hC
 have c4:=(hb.cell (p:=⟨fb,fo+fn*4+1,none⟩) (q8 hP)).trans hP
 have sB:B<w1.heap.size:=by have:=qY hB;have:=hb.size;omega
 clear hB hX hC hP hL
 have HL:Hid (∀i (h:i<L.length),w1.cell? ⟨pb,po+i*2,none⟩=some (.bool L[i].1)∧w1.cell? ⟨pb,po+i*2+1,none⟩=some (.int .i64 L[i].2)):=hL1
 have HN:Hid (L.length=l):=hl
 have hw:zJ fn 0 ((f2:Int) - 1)=true:=by simp only[zJ,decide_eq_true_eq];omega
 have HV:Hid (xL regs f2 P true fn L=qr (L.map fun v=>zP regs v.1 v.2)):=by
  show _=_;unfold xL;rw[if_neg (by decide),if_neg (by omega),if_neg]
  ·rfl
  rw[hl];simpa using hne
 have hnb:((l:Int) != P fn)=false:=by simpa using hne
 clear hne hl hL1
 clear hb
 go_enter Tryz.func93,Tryz.ntmps93
 go_wp2_with (go_at_call 27;refine(qC _ _ _ _).mono ?_;rintro e w1 ⟨rfl,rfl⟩)
 go_quiet (fail)
 go_wp2
 go_loopw [36] (fun i wr=>∃k:Nat,k≤l∧i = .int .i64 k∧qr ((L.drop k).map fun v=>zP regs v.1 v.2)=qr (L.map fun v=>zP regs v.1 v.2)∧Below w1.heap.size w1 wr) (fun i _=>l - (intOf i).toNat)
 case atStart=>exact⟨0,by omega,rfl,rfl,by exact bZ⟩
 case round=>
  obtain⟨k,hk,rfl,hV,hB⟩:=hrel
  have HF:Hid (qr ((L.drop k).map fun v=>zP regs v.1 v.2)=qr (L.map fun v=>zP regs v.1 v.2)):=hV
  obtain⟨hcr,hfr,hzr⟩:=kQ hB
  have HB:Hid (Below w1.heap.size w1 wr):=hB
  clear hV hB
  by_cases hlt:k<l
  rotate_left
  ·have HZ:Hid (qr (L.map fun v=>zP regs v.1 v.2)=0):=by
    have hk2:k=L.length:=by have:=HN.out;omega
    show _=_
    rw[←HF.out,hk2];simp[qr]
   clear HF
   go_wp2
   go_ret
   refine⟨by rw[HV.out,HZ.out];rfl,?_⟩
   exact HB.out
  have hlt2:k<L.length:=by have:=HN.out;omega
  have d0:=(HB.out.cell (p:=⟨pb,po+k*2,none⟩) (q8 (HL.out k hlt2).1)).trans (HL.out k hlt2).1
  have d1:=(HB.out.cell (p:=⟨pb,po+k*2+1,none⟩) (q8 (HL.out k hlt2).2)).trans (HL.out k hlt2).2
  have d2:pb<wr.heap.size:=by have:=q8 (HL.out k hlt2).1;omega
  have HD:Hid (qr ((L.drop k).map fun v=>zP regs v.1 v.2)=if zP regs L[k].1 L[k].2=0 then qr ((L.drop (k+1)).map fun v=>zP regs v.1 v.2)else zP regs L[k].1 L[k].2):=Q9 (fun v:Bool×Int=>zP regs v.1 v.2) L k hlt2
  rw[HF.out]at HD
  generalize L[k].1=r at d0 HD
  generalize L[k].2=n at d1 HD
  clear HF hlt2
  have hz6:B<wr.heap.size:=by omega
  by_cases hv:zP regs r n=0
  ·have hvb:(zP regs r n != 0)=false:=by simp[hv]
   have HD2:=HD.out
   rw[if_pos hv]at HD2
   replace HD:Hid (qr (L.map fun v=>zP regs v.1 v.2)=qr ((L.drop (k+1)).map fun v=>zP regs v.1 v.2)):=HD2
   clear HD2 hv
   go_wp2_with (go_at_call 87;refine(jv _ _ _ _ _ _ _ _ _ _ _ _ _ _ _ _ _ _ h1 h2).mono ?_;rintro e w4 ⟨rfl,hb4⟩)
   refine⟨⟨k+1,by omega,by go_num,HD.out.symm,?_⟩,by simp[intOf];omega⟩
   exact HB.out.trans (Below.trans bZ (hb4.mono (by have:=HB.out.size;simp;omega)))
  have hvb:(zP regs r n != 0)=true:=by simp[hv]
  have HD2:=HD.out
  rw[if_neg hv]at HD2
  replace HD:Hid (qr (L.map fun v=>zP regs v.1 v.2)=zP regs r n):=HD2
  clear HD2 hv
  go_wp2_with (go_at_call 87;refine(jv _ _ _ _ _ _ _ _ _ _ _ _ _ _ _ _ _ _ h1 h2).mono ?_;rintro e w4 ⟨rfl,hb4⟩)
  go_ret
  refine⟨by rw[HV.out,HD.out];rfl,?_⟩
  exact HB.out.trans (Below.trans bZ (hb4.mono (by have:=HB.out.size;simp;omega)))

theorem ins3_nil {w:World} {B X C fb fo:Nat} {g1:Option Addr} {g2 g3:Nat} {f2 f3:Nat} {nm:ByteArray} {params regs:Int} {b1:Option Addr} {b2 b3:Nat} {a1:Option Addr} {a2 a3:Nat} {op dst an bn:Int} {fn:Nat} {ar br:Bool} {p:Option Addr} {c:Nat} (P:Nat→Int)
  (hB:CkC w B g1 g2 g3 (some ⟨fb,fo,none⟩) f2 f3 nm params regs b1 b2 b3 a1 a2 a3) (hX:InC w X op dst an bn fn ar br p 0 c) (hC:w.cell? ⟨C,0,none⟩=some (.bool true)) (hf:f2≤9223372036854775807)
  (h:fn<f2) (hP:w.cell? ⟨fb,fo+fn*4+1,none⟩=some (.int .i64 (P fn))) (hne:0=P fn) :
  Vq 93 #[.pointer (some ⟨C,0,none⟩),.pointer (some ⟨X,0,none⟩),.pointer (some ⟨B,0,none⟩)] w (xL regs f2 P true fn []):=by
 intro w1 hb
 obtain⟨c1,k1⟩:=blk (qg hb (qY hB) hB)
 obtain⟨c2,k2⟩:=blk (qg hb (qY hX) hX)
 have c3:=(hb.cell (p:=⟨C,0,none⟩) (q8 hC)).trans hC
 have c4:=(hb.cell (p:=⟨fb,fo+fn*4+1,none⟩) (q8 hP)).trans hP
 rw[←hne]at c4
 clear hB hX hC hP
 have hw:zJ fn 0 ((f2:Int) - 1)=true:=by simp only[zJ,decide_eq_true_eq];omega
 have HV:Hid (xL regs f2 P true fn []=0):=by
  show _=_;unfold xL;rw[if_neg (by decide),if_neg (by omega),if_neg]
  ·rfl
  simpa using hne
 clear hne
 go_enter Tryz.func93,Tryz.ntmps93
 go_wp2_with (go_at_call 27;refine(qC _ _ _ _).mono ?_;rintro e w1 ⟨rfl,rfl⟩)
 go_quiet (fail)
 go_wp2
 go_loop [36] (fun i=>i = .int .i64 0) (fun _=>0)
 case atStart=>rfl
 case round=>
  subst hrel
  go_wp2
  go_ret
  refine⟨by rw[HV.out];rfl,?_⟩
  exact bZ

theorem ZX {w:World} {B X C:Nat} {g1:Option Addr} {g2 g3:Nat} {f1:Option Addr} {f2 f3:Nat} {nm:ByteArray} {params regs:Int} {b1:Option Addr} {b2 b3:Nat} {a1:Option Addr} {a2 a3:Nat} {op dst an bn fn:Int} {ar br:Bool} {p:Option Addr} {c:Nat} {call:Bool} (P:Nat→Int) (L:List (Bool×Int))
  (hB:CkC w B g1 g2 g3 f1 f2 f3 nm params regs b1 b2 b3 a1 a2 a3) (hX:InC w X op dst an bn fn ar br p L.length c) (hC:w.cell? ⟨C,0,none⟩=some (.bool call)) (hf:f2≤9223372036854775807) (h1:0≤regs) (h2:regs≤9223372036854775807)
  (hP:f2=0∨∃fb fo,f1=some ⟨fb,fo,none⟩∧∀i,i<f2→w.cell? ⟨fb,fo+i*4+1,none⟩=some (.int .i64 (P i))) (hl2:L.length≤9223372036854775807) (hL:SliceAt w 2 kR p L) :
  Vq 93 #[.pointer (some ⟨C,0,none⟩),.pointer (some ⟨X,0,none⟩),.pointer (some ⟨B,0,none⟩)] w (xL regs f2 P call fn L):=by
 by_cases h:call=false∨¬(0≤fn∧fn<f2)
 ·exact ins3_no P L hB hX hC hf h
 obtain⟨hc,hfn⟩:call=true∧(0≤fn∧fn<f2):=by
  cases call
  ·exact absurd (.inl rfl) h
  exact⟨rfl,Decidable.byContradiction fun g=>h (.inr g)⟩
 subst hc
 obtain⟨k,rfl⟩:=Int.eq_ofNat_of_zero_le hfn.1
 have hk:k<f2:=by omega
 rcases hP with h0|⟨fb,fo,rfl,hP⟩
 ·omega
 by_cases hne:(L.length:Int)=P k
 ·rcases hL with rfl|⟨b,o,rfl,hx⟩
  ·exact ins3_nil P hB hX hC hf hk (hP k hk) hne
  refine ins3_yes P L hB hX hC hf h1 h2 hk (hP k hk) rfl hl2 hne fun i hi=>?_
  obtain⟨cs,_,hc,⟨rfl,_⟩⟩:=hx i hi
  exact⟨hc 0 (by omega),hc 1 (by omega)⟩
 exact ins3_len P L hB hX hC hf hk (hP k hk) rfl hl2 hne
end Go.Proofs.YtecdphhdmjmmnaaGreatDoor
