/-
  Plain: a table of rows that grow by append, in a world.
-/
import Derived.Test.YtbnnhmcloecijaaGreatDoorJChkG
import Derived.Deep.OwnRows
import Derived.OwnWalk
set_option maxRecDepth 100000
set_option maxHeartbeats 16000000
namespace Go.Proofs.YtbnnhmcloecijaaGreatDoor
open Go.RowKit

def shD (op:Int):Bool:=decide (1≤op∧op≤22∧op≠19∧op≠22)
def shA (op:Int):Bool:=decide (1≤op∧op≤22∧op≠20∧op≠21)
def shB (op:Int):Bool:=decide ((2≤op∧op≤15)∨op=19)

theorem kN (op:Int) (w:World) (h:1≤op∧op≤22) :
  Calls Tryz.prog 77 #[.int .i64 op] w fun e w'=>e = .returned (.agg #[.bool (shD op),.bool (shA op),.bool (shB op)])∧w'=w.alloc (.cells #[.bool (shD op),.bool (shA op),.bool (shB op)] 133):=by
 obtain hc|hc:(2≤op∧op≤15)∨(op=1∨op=16∨op=17∨op=18∨op=19∨op=20∨op=21∨op=22):=by omega
 ·have hD:shD op=true:=by simp [shD];omega
  have hA:shA op=true:=by simp [shA];omega
  have hB:shB op=true:=by simp [shB];omega
  rw [hD,hA,hB]
  have h1:(op == 1)=false:=by rw [beq_eq_false_iff_ne];omega
  have h2:(op == 16)=false:=by rw [beq_eq_false_iff_ne];omega
  have h3:(op == 17)=false:=by rw [beq_eq_false_iff_ne];omega
  have h4:(op == 18)=false:=by rw [beq_eq_false_iff_ne];omega
  go_enter Tryz.func77,Tryz.ntmps77
  go_wp2
  all_goals (refine zk ?_ rfl ⟨rfl,rfl⟩;simp [results,Tryz.results77,go_sem])
 rcases hc with rfl|rfl|rfl|rfl|rfl|rfl|rfl|rfl
 all_goals
  go_enter Tryz.func77,Tryz.ntmps77
  go_wp2
  (refine zk ?_ rfl ⟨rfl,rfl⟩;simp [results,Tryz.results77,go_sem,shD,shA,shB])

def vS (regs:Int) (nf:Nat) (P:Nat→Int) (op dst an bn fn:Int) (ar br:Bool) (L:List (Bool×Int)):Int:=
 if ¬(1≤op∧op≤22) then 4
 else if (shD op=false∧dst≠-1)∨(shA op=false∧¬(ar=false∧an=0))∨(shB op=false∧¬(br=false∧bn=0))∨(op≠20∧(fn≠0∨0<L.length)) then 5
 else if shD op=true∧¬(op=20∧dst = -1)∧ko regs dst≠0 then ko regs dst
 else qD [xP regs ar an,xP regs br bn,jw regs nf P (op == 20) fn L]

theorem ins_kind (g1 f1 b1 a1 p:Option Addr) (g2 g3 f2 f3 b2 b3 a2 a3 c:Nat) (nm:ByteArray) (params regs op dst an bn fn:Int) (ar br:Bool) (P:Nat→Int) (L:List (Bool×Int)) (w:World) (h:¬(1≤op∧op≤22)) :
  Calls Tryz.prog 97 #[.agg #[.slice g1 g2 g3,.slice f1 f2 f3,.string nm,.int .i64 params,.int .i64 regs,.slice b1 b2 b3,.slice a1 a2 a3],.agg #[.int .i64 op,.int .i64 dst,.bool ar,.int .i64 an,.bool br,.int .i64 bn,.int .i64 fn,.slice p L.length c]] w fun e w'=>e = .returned (.int .i64 (vS regs f2 P op dst an bn fn ar br L))∧Below w.heap.size w w':=by
 have hw:xT op 1 22=false:=by simp only [xT,xA];exact h
 have HV:Hid (vS regs f2 P op dst an bn fn ar br L=4):=by show _=_;unfold vS;rw [zZ h]
 clear h
 go_enter Tryz.func97,Tryz.ntmps97
 go_wp2_with (go_at_call 48;refine (qG _ _ _ _).mono ?_;rintro e w1 ⟨rfl,rfl⟩)
 go_ret
 refine ⟨by rw [HV.out];rfl,?_⟩
 exact bZ

theorem vA {regs:Int} {nf:Nat} {P:Nat→Int} {op dst an bn fn:Int} {ar br:Bool} {L:List (Bool×Int)} (h:1≤op∧op≤22)
  (g:(shD op=false∧dst≠-1)∨(shA op=false∧¬(ar=false∧an=0))∨(shB op=false∧¬(br=false∧bn=0))∨(op≠20∧(fn≠0∨0<L.length))):vS regs nf P op dst an bn fn ar br L=5:=by
 unfold vS;rw [zQ (fun x=>x h),zZ g]
theorem insE_2 {regs:Int} {nf:Nat} {P:Nat→Int} {op dst an bn fn:Int} {ar br:Bool} {L:List (Bool×Int)} (h:1≤op∧op≤22)
  (gd:shD op=true∨dst = -1) (ga:shA op=true∨(¬ar=true∧an=0)) (gb:shB op=true∨(¬br=true∧bn=0)) (gf:(!op == 20)=false∨(fn=0∧¬0<L.length)) :
  vS regs nf P op dst an bn fn ar br L=if shD op=true∧¬(op=20∧dst = -1)∧ko regs dst≠0 then ko regs dst else qD [xP regs ar an,xP regs br bn,jw regs nf P (op == 20) fn L]:=by
 unfold vS
 rw [zQ (fun x=>x h),zQ]
 rintro (⟨x,y⟩|⟨x,y⟩|⟨x,y⟩|⟨x,y⟩)
 ·rcases gd with g|g
  ·rw [x] at g;cases g
  exact y g
 ·rcases ga with g|⟨g,k⟩
  ·rw [x] at g;cases g
  exact y ⟨by simpa using g,k⟩
 ·rcases gb with g|⟨g,k⟩
  ·rw [x] at g;cases g
  exact y ⟨by simpa using g,k⟩
 rcases gf with g|⟨g,k⟩
 ·simp at g;exact x g
 rcases y with y|y
 ·exact y g
 exact k y

theorem ins_d0 (g1 f1 b1 a1 p:Option Addr) (g2 g3 f2 f3 b2 b3 a2 a3 c:Nat) (nm:ByteArray) (params regs op dst an bn fn:Int) (ar br d a b:Bool) (P:Nat→Int) (L:List (Bool×Int)) (w:World) (h:1≤op∧op≤22)
  (hf:f2≤9223372036854775807) (h1:0≤regs) (h2:regs≤9223372036854775807)
  (hP:f2=0∨∃fb fo,f1=some ⟨fb,fo,none⟩∧∀i,i<f2→w.cell? ⟨fb,fo+i*4+1,none⟩=some (.int .i64 (P i))) (hl2:L.length≤9223372036854775807) (hL:SliceAt w 2 ZG p L)
  (hd:shD op=d) (ha:shA op=a) (hb:shB op=b) (hd0:d=false) :
  Calls Tryz.prog 97 #[.agg #[.slice g1 g2 g3,.slice f1 f2 f3,.string nm,.int .i64 params,.int .i64 regs,.slice b1 b2 b3,.slice a1 a2 a3],.agg #[.int .i64 op,.int .i64 dst,.bool ar,.int .i64 an,.bool br,.int .i64 bn,.int .i64 fn,.slice p L.length c]] w fun e w'=>e = .returned (.int .i64 (vS regs f2 P op dst an bn fn ar br L))∧Below w.heap.size w w':=by
 have hw:xT op 1 22=true:=by simp only [xT,yY];exact h
 have hs:=fun w=>kN op w h
 have E1:Hid (¬dst = -1→vS regs f2 P op dst an bn fn ar br L=5):=fun x=>vA h (.inl ⟨hd.trans hd0,x⟩)
 have E2:Hid (¬a=true→ar=true→vS regs f2 P op dst an bn fn ar br L=5):=fun x y=>vA h (.inr (.inl ⟨by rw [ha];simpa using x,by rw [y];simp⟩))
 have E3:Hid (¬a=true→¬an=0→vS regs f2 P op dst an bn fn ar br L=5):=fun x y=>vA h (.inr (.inl ⟨by rw [ha];simpa using x,fun z=>y z.2⟩))
 have E4:Hid (¬b=true→br=true→vS regs f2 P op dst an bn fn ar br L=5):=fun x y=>vA h (.inr (.inr (.inl ⟨by rw [hb];simpa using x,by rw [y];simp⟩)))
 have E5:Hid (¬b=true→¬bn=0→vS regs f2 P op dst an bn fn ar br L=5):=fun x y=>vA h (.inr (.inr (.inl ⟨by rw [hb];simpa using x,fun z=>y z.2⟩)))
 have E6:Hid ((!op == 20)=true→¬fn=0→vS regs f2 P op dst an bn fn ar br L=5):=fun x y=>vA h (.inr (.inr (.inr ⟨by simpa using x,.inl y⟩)))
 have E7:Hid (((!op == 20)=true∧0<L.length)→vS regs f2 P op dst an bn fn ar br L=5):=fun x=>vA h (.inr (.inr (.inr ⟨by simpa using x.1,.inr x.2⟩)))
 have E8:Hid (dst = -1→(a=true∨(¬ar=true∧an=0))→(b=true∨(¬br=true∧bn=0))→((!op == 20)=false∨(fn=0∧¬0<L.length))→vS regs f2 P op dst an bn fn ar br L=qD [xP regs ar an,xP regs br bn,jw regs f2 P (op == 20) fn L]):=fun x y z u=>by
  rw [insE_2 h (.inr x) (by rw [ha];exact y) (by rw [hb];exact z) u,zQ]
  rw [hd,hd0];simp
 rw [hd,ha,hb] at hs
 have HS:Hid (∀w,Calls Tryz.prog 77 #[.int .i64 op] w fun e w'=>e = .returned (.agg #[.bool d,.bool a,.bool b])∧w'=w.alloc (.cells #[.bool d,.bool a,.bool b] 133)):=hs
 have HP:Hid (f2=0∨∃fb fo,f1=some ⟨fb,fo,none⟩∧∀i,i<f2→w.cell? ⟨fb,fo+i*4+1,none⟩=some (.int .i64 (P i))):=hP
 have HL:Hid (SliceAt w 2 ZG p L):=hL
 subst hd0
 generalize hl:L.length=l at *
 have HZ:Hid (L.length=l):=hl
 clear hs hd ha hb h hP hL hl
 go_enter Tryz.func97,Tryz.ntmps97
 go_wp2_with (first|(go_at_call 48;refine (qG _ _ _ _).mono ?_;rintro e w1 ⟨rfl,rfl⟩)|(go_at_call 77;refine (HS.out _).mono ?_;rintro e w1 ⟨rfl,rfl⟩))
 all_goals first
  | (go_ret;(have hE:vS regs f2 P op dst an bn fn ar br L=5:=by first|exact E1.out ‹¬dst = -1›|exact E2.out ‹¬a=true› ‹ar=true›|exact E3.out ‹¬a=true› ‹¬an=0›|exact E4.out ‹¬b=true› ‹br=true›|exact E5.out ‹¬b=true› ‹¬bn=0›|exact E6.out ‹(!op == 20)=true› ‹¬fn=0›|exact E7.out ‹(!op == 20)=true∧0<l›);refine ⟨by rw [hE];rfl,?_⟩;exact bZ)
  | skip
 all_goals
  have hE:vS regs f2 P op dst an bn fn ar br L=qD [xP regs ar an,xP regs br bn,jw regs f2 P (op == 20) fn L]:=by
   refine E8.out ‹dst = -1› ?_ ?_ ?_
   ·first|exact .inl ‹a=true›|exact .inr ⟨‹¬ar=true›,‹an=0›⟩
   ·first|exact .inl ‹b=true›|exact .inr ⟨‹¬br=true›,‹bn=0›⟩
   first|exact .inl ‹(!op == 20)=false›|(refine .inl ?_;have g:=‹op=20›;simp [g];done)|exact .inr ⟨‹fn=0›,‹¬0<l›⟩|(rcases ‹(!op == 20)=false∨¬0<l› with g|g;(exact .inl g);exact .inr ⟨‹fn=0›,g⟩)
  clear E1 E2 E3 E4 E5 E6 E7 E8 HS
  (have g:=HZ.out;subst g)
  generalize hv:qD [xP regs ar an,xP regs br bn,jw regs f2 P (op == 20) fn L]=v at hE
  have HVV:Hid (qD [xP regs ar an,xP regs br bn,jw regs f2 P (op == 20) fn L]=v):=hv
  clear hv
  refine (JX _ _ _ ⟨w.heap.size,0,none⟩ ⟨w.heap.size+1,0,none⟩ ⟨w.heap.size+1+1+1+1,0,none⟩ _ _ _ _ ?g0 ?g1 ?g2 (JY (g1:=g1) (g2:=g2) (g3:=g3) (f1:=f1) (f2:=f2) (f3:=f3) (nm:=nm) (params:=params) (regs:=regs) (b1:=b1) (b2:=b2) (b3:=b3) (a1:=a1) (a2:=a2) (a3:=a3) (op:=op) (dst:=dst) (an:=an) (bn:=bn) (fn:=fn) (ar:=ar) (br:=br) (p:=p) (c:=c) (l:=L.length) ?hB ?hX h1 h2) (JZ ?hB ?hX h1 h2) (V0 (call:=op == 20) P L ?hB ?hX ?hC hf h1 h2 ?hP hl2 ?hL)).mono ?fin
  case g0=>exact ((blk (qh (by simp))).1 0).trans rfl
  case g1=>exact ((blk (qh (by simp))).1 1).trans rfl
  case g2=>exact ((blk (qh (by simp))).1 2).trans rfl
  case hB=>(repeat (first|exact qh (by simp)|refine qg ?_))
  case hX=>
   (try (have g:=‹dst = -1›;subst g))
   (try (have g:=‹an=0›;subst g))
   (try (have g:=‹bn=0›;subst g))
   (try (have g:=‹fn=0›;subst g))
   (try (have g:=‹op=20›;subst g))
   (try (have g:=Bool.eq_false_iff.2 ‹¬ar=true›;subst g))
   (try (have g:=Bool.eq_false_iff.2 ‹¬br=true›;subst g))
   repeat (first|exact qh (by simp)|refine qg ?_)
  case hC=>
   refine Eq.trans ((blk (qg (qh (by simp)))).1 0) ?_
   first|rfl|(have g:=‹op=20›;subst g;rfl)|(have g:=‹(!op == 20)=false›;simp only [Bool.not_eq_false'] at g;rw [g];rfl)|(have g:=‹(!op == 20)=true›;simp only [Bool.not_eq_true'] at g;rw [g];rfl)
  case hL=>exact HL.out.to (by decide) bZ (fun _ _ _ h=>h)
  case hP=>
   rcases HP.out with g|⟨fb,fo,g,k⟩
   ·exact .inl g
   refine .inr ⟨fb,fo,g,fun i hi=>?_⟩
   refine Eq.trans (Below.cell (B:=w.heap.size) (w:=w) ?_ (p:=⟨fb,fo+i*4+1,none⟩) (qd (k i hi))) (k i hi)
   exact bZ
  case fin=>
   rintro e w4 ⟨rfl,hb4⟩
   rw [HVV.out]
   go_wp2
   go_ret
   refine ⟨by rw [hE];rfl,?_⟩
   exact bZ

theorem ins_d1 (g1 f1 b1 a1 p:Option Addr) (g2 g3 f2 f3 b2 b3 a2 a3 c:Nat) (nm:ByteArray) (params regs op dst an bn fn:Int) (ar br d a b:Bool) (P:Nat→Int) (L:List (Bool×Int)) (w:World) (h:1≤op∧op≤22)
  (hf:f2≤9223372036854775807) (h1:0≤regs) (h2:regs≤9223372036854775807)
  (hP:f2=0∨∃fb fo,f1=some ⟨fb,fo,none⟩∧∀i,i<f2→w.cell? ⟨fb,fo+i*4+1,none⟩=some (.int .i64 (P i))) (hl2:L.length≤9223372036854775807) (hL:SliceAt w 2 ZG p L)
  (hd:shD op=d) (ha:shA op=a) (hb:shB op=b) (hd0:d=true) :
  Calls Tryz.prog 97 #[.agg #[.slice g1 g2 g3,.slice f1 f2 f3,.string nm,.int .i64 params,.int .i64 regs,.slice b1 b2 b3,.slice a1 a2 a3],.agg #[.int .i64 op,.int .i64 dst,.bool ar,.int .i64 an,.bool br,.int .i64 bn,.int .i64 fn,.slice p L.length c]] w fun e w'=>e = .returned (.int .i64 (vS regs f2 P op dst an bn fn ar br L))∧Below w.heap.size w w':=by
 have hw:xT op 1 22=true:=by simp only [xT,yY];exact h
 have hs:=fun w=>kN op w h
 have E2:Hid (¬a=true→ar=true→vS regs f2 P op dst an bn fn ar br L=5):=fun x y=>vA h (.inr (.inl ⟨by rw [ha];simpa using x,by rw [y];simp⟩))
 have E3:Hid (¬a=true→¬an=0→vS regs f2 P op dst an bn fn ar br L=5):=fun x y=>vA h (.inr (.inl ⟨by rw [ha];simpa using x,fun z=>y z.2⟩))
 have E4:Hid (¬b=true→br=true→vS regs f2 P op dst an bn fn ar br L=5):=fun x y=>vA h (.inr (.inr (.inl ⟨by rw [hb];simpa using x,by rw [y];simp⟩)))
 have E5:Hid (¬b=true→¬bn=0→vS regs f2 P op dst an bn fn ar br L=5):=fun x y=>vA h (.inr (.inr (.inl ⟨by rw [hb];simpa using x,fun z=>y z.2⟩)))
 have E6:Hid ((!op == 20)=true→¬fn=0→vS regs f2 P op dst an bn fn ar br L=5):=fun x y=>vA h (.inr (.inr (.inr ⟨by simpa using x,.inl y⟩)))
 have E7:Hid (((!op == 20)=true∧0<L.length)→vS regs f2 P op dst an bn fn ar br L=5):=fun x=>vA h (.inr (.inr (.inr ⟨by simpa using x.1,.inr x.2⟩)))
 have E8:Hid ((a=true∨(¬ar=true∧an=0))→(b=true∨(¬br=true∧bn=0))→((!op == 20)=false∨(fn=0∧¬0<L.length))→vS regs f2 P op dst an bn fn ar br L=if ¬(op=20∧dst = -1)∧ko regs dst≠0 then ko regs dst else qD [xP regs ar an,xP regs br bn,jw regs f2 P (op == 20) fn L]):=fun y z u=>by
  rw [insE_2 h (.inl (hd.trans hd0)) (by rw [ha];exact y) (by rw [hb];exact z) u]
  simp [hd,hd0]
 rw [hd,ha,hb] at hs
 have HS:Hid (∀w,Calls Tryz.prog 77 #[.int .i64 op] w fun e w'=>e = .returned (.agg #[.bool d,.bool a,.bool b])∧w'=w.alloc (.cells #[.bool d,.bool a,.bool b] 133)):=hs
 have HP:Hid (f2=0∨∃fb fo,f1=some ⟨fb,fo,none⟩∧∀i,i<f2→w.cell? ⟨fb,fo+i*4+1,none⟩=some (.int .i64 (P i))):=hP
 have HL:Hid (SliceAt w 2 ZG p L):=hL
 subst hd0
 generalize hl:L.length=l at *
 have HZ:Hid (L.length=l):=hl
 clear hs hd ha hb h hP hL hl
 go_enter Tryz.func97,Tryz.ntmps97
 go_wp2_with (first|(go_at_call 48;refine (qG _ _ _ _).mono ?_;rintro e w1 ⟨rfl,rfl⟩)|(go_at_call 77;refine (HS.out _).mono ?_;rintro e w1 ⟨rfl,rfl⟩)|(go_at_call 133;refine (ZH _ _ _ _ _ _ _ _ _ _ _ _ _ _ _ _ _ h1 h2).mono ?_;rintro e w3 ⟨rfl,hb3⟩;have hz3:=hb3.size;simp at hz3))
 all_goals first
  | (go_ret;(have hE:vS regs f2 P op dst an bn fn ar br L=5:=by first|exact E2.out ‹¬a=true› ‹ar=true›|exact E3.out ‹¬a=true› ‹¬an=0›|exact E4.out ‹¬b=true› ‹br=true›|exact E5.out ‹¬b=true› ‹¬bn=0›|exact E6.out ‹(!op == 20)=true› ‹¬fn=0›|exact E7.out ‹(!op == 20)=true∧0<l›);refine ⟨by rw [hE];rfl,?_⟩;exact bZ)
  | skip
 all_goals try
  have hED:vS regs f2 P op dst an bn fn ar br L=ko regs dst:=by
   have gd:=‹(ko regs dst != 0)=true›
   refine (E8.out ?_ ?_ ?_).trans (zZ ⟨?_,by simpa using gd⟩)
   ·first|exact .inl ‹a=true›|exact .inr ⟨‹¬ar=true›,‹an=0›⟩
   ·first|exact .inl ‹b=true›|exact .inr ⟨‹¬br=true›,‹bn=0›⟩
   ·first|exact .inl ‹(!op == 20)=false›|(refine .inl ?_;have g:=‹op=20›;simp [g];done)|exact .inr ⟨‹fn=0›,‹¬0<l›⟩|(rcases ‹(!op == 20)=false∨¬0<l› with g|g;(exact .inl g);exact .inr ⟨‹fn=0›,g⟩)
   first|exact fun g=>‹¬op=20› g.1|(have g:=‹(!dst == -1)=true›;simp at g;exact fun h=>g h.2)
  go_ret
  refine ⟨by rw [hED];rfl,?_⟩
  exact bZ
  done
 all_goals
  have hE:vS regs f2 P op dst an bn fn ar br L=qD [xP regs ar an,xP regs br bn,jw regs f2 P (op == 20) fn L]:=by
   refine (E8.out ?_ ?_ ?_).trans (zQ ?_)
   ·first|exact .inl ‹a=true›|exact .inr ⟨‹¬ar=true›,‹an=0›⟩
   ·first|exact .inl ‹b=true›|exact .inr ⟨‹¬br=true›,‹bn=0›⟩
   ·first|exact .inl ‹(!op == 20)=false›|(refine .inl ?_;have g:=‹op=20›;simp [g];done)|exact .inr ⟨‹fn=0›,‹¬0<l›⟩|(rcases ‹(!op == 20)=false∨¬0<l› with g|g;(exact .inl g);exact .inr ⟨‹fn=0›,g⟩)
   first|(have gd:=‹(ko regs dst != 0)=false›;exact fun g=>g.2 (by simpa using gd))|(have gd:=‹(!dst == -1)=false›;exact fun g=>g.1 ⟨‹op=20›,by simpa using gd⟩)
  clear E2 E3 E4 E5 E6 E7 E8 HS
  (have g:=HZ.out;subst g)
  generalize hv:qD [xP regs ar an,xP regs br bn,jw regs f2 P (op == 20) fn L]=v at hE
  have HVV:Hid (qD [xP regs ar an,xP regs br bn,jw regs f2 P (op == 20) fn L]=v):=hv
  clear hv
  refine (JX _ _ _ ⟨w.heap.size,0,none⟩ ⟨w.heap.size+1,0,none⟩ ⟨w.heap.size+1+1+1+1,0,none⟩ _ _ _ _ ?g0 ?g1 ?g2 (JY (g1:=g1) (g2:=g2) (g3:=g3) (f1:=f1) (f2:=f2) (f3:=f3) (nm:=nm) (params:=params) (regs:=regs) (b1:=b1) (b2:=b2) (b3:=b3) (a1:=a1) (a2:=a2) (a3:=a3) (op:=op) (dst:=dst) (an:=an) (bn:=bn) (fn:=fn) (ar:=ar) (br:=br) (p:=p) (c:=c) (l:=L.length) ?hB ?hX h1 h2) (JZ ?hB ?hX h1 h2) (V0 (call:=op == 20) P L ?hB ?hX ?hC hf h1 h2 ?hP hl2 ?hL)).mono ?fin
  case g0=>exact ((blk (qh (by simp))).1 0).trans rfl
  case g1=>exact ((blk (qh (by simp))).1 1).trans rfl
  case g2=>exact ((blk (qh (by simp))).1 2).trans rfl
  case hB=>(repeat (first|exact qh (by simp)|refine qj hb3 (by first|(simp;done)|(simp;omega)) ?_|refine qg ?_))
  case hX=>
   (try (have g:=‹(!dst == -1)=false›;simp only [Bool.not_eq_false',beq_iff_eq] at g;subst g))
   (try (have g:=‹an=0›;subst g))
   (try (have g:=‹bn=0›;subst g))
   (try (have g:=‹fn=0›;subst g))
   (try (have g:=‹op=20›;subst g))
   (try (have g:=Bool.eq_false_iff.2 ‹¬ar=true›;subst g))
   (try (have g:=Bool.eq_false_iff.2 ‹¬br=true›;subst g))
   repeat (first|exact qh (by simp)|refine qj hb3 (by first|(simp;done)|(simp;omega)) ?_|refine qg ?_)
  case hC=>
   first|refine Eq.trans ((blk (qg (qj hb3 (by first|(simp;done)|(simp;omega)) (qh (by simp))))).1 0) ?_|refine Eq.trans ((blk (qg (qh (by simp)))).1 0) ?_
   first|rfl|(have g:=‹op=20›;subst g;rfl)|(have g:=‹(!op == 20)=false›;simp only [Bool.not_eq_false'] at g;rw [g];rfl)|(have g:=‹(!op == 20)=true›;simp only [Bool.not_eq_true'] at g;rw [g];rfl)
  case hL=>exact HL.out.to (by decide) bZ (fun _ _ _ h=>h)
  case hP=>
   rcases HP.out with g|⟨fb,fo,g,k⟩
   ·exact .inl g
   refine .inr ⟨fb,fo,g,fun i hi=>?_⟩
   refine Eq.trans (Below.cell (B:=w.heap.size) (w:=w) ?_ (p:=⟨fb,fo+i*4+1,none⟩) (qd (k i hi))) (k i hi)
   exact bZ
  case fin=>
   rintro e w4 ⟨rfl,hb4⟩
   rw [HVV.out]
   go_wp2
   go_ret
   refine ⟨by rw [hE];rfl,?_⟩
   exact bZ

theorem ins_any (g1 f1 b1 a1 p:Option Addr) (g2 g3 f2 f3 b2 b3 a2 a3 c:Nat) (nm:ByteArray) (params regs op dst an bn fn:Int) (ar br:Bool) (P:Nat→Int) (L:List (Bool×Int)) (w:World)
  (hf:f2≤9223372036854775807) (h1:0≤regs) (h2:regs≤9223372036854775807)
  (hP:f2=0∨∃fb fo,f1=some ⟨fb,fo,none⟩∧∀i,i<f2→w.cell? ⟨fb,fo+i*4+1,none⟩=some (.int .i64 (P i))) (hl2:L.length≤9223372036854775807) (hL:SliceAt w 2 ZG p L) :
  Calls Tryz.prog 97 #[.agg #[.slice g1 g2 g3,.slice f1 f2 f3,.string nm,.int .i64 params,.int .i64 regs,.slice b1 b2 b3,.slice a1 a2 a3],.agg #[.int .i64 op,.int .i64 dst,.bool ar,.int .i64 an,.bool br,.int .i64 bn,.int .i64 fn,.slice p L.length c]] w fun e w'=>e = .returned (.int .i64 (vS regs f2 P op dst an bn fn ar br L))∧Below w.heap.size w w':=by
 by_cases h:1≤op∧op≤22
 ·cases hd:shD op
  ·exact ins_d0 _ _ _ _ _ _ _ _ _ _ _ _ _ _ _ _ _ _ _ _ _ _ _ _ _ _ _ P L w h hf h1 h2 hP hl2 hL hd rfl rfl rfl
  exact ins_d1 _ _ _ _ _ _ _ _ _ _ _ _ _ _ _ _ _ _ _ _ _ _ _ _ _ _ _ P L w h hf h1 h2 hP hl2 hL hd rfl rfl rfl
 exact ins_kind _ _ _ _ _ _ _ _ _ _ _ _ _ _ _ _ _ _ _ _ _ _ _ _ P L w h

theorem q7 {p:Prop} (h:p):Hid p:=h

theorem q8 {w:World} {b:Nat} {o:Obj} (h:w.heap[b]?=some o):b<w.heap.size:=by
 rcases yq b w.heap.size with g|g
 ·exact g
 rw [Array.getElem?_eq_none g] at h;cases h

theorem SliceAt.mono {α:Type} {w w':World} {size:Nat} {R R':List Value→α→Prop} {p:Option Addr} {xs:List α} (h:SliceAt w size R p xs) (hb:Below w.heap.size w w') (_hs:0<size) (hR:∀cs x,R cs x→R' cs x):SliceAt w' size R' p xs:=by
 rcases h with h|⟨b,o,hp,h⟩
 ·exact .inl h
 refine .inr ⟨b,o,hp,fun i hi=>?_⟩
 obtain ⟨cs,hl,hc,hr⟩:=h i hi
 refine ⟨cs,hl,fun j hj=>?_,hR _ _ hr⟩
 have hc0:=hc j hj
 rw [zj (by omega)] at hc0
 rw [hb.cell (p:=⟨b,o+i*size+j,none⟩) (qd hc0),hc j hj]
theorem SlF.mono {α:Type} {w w':World} {size bytes:Nat} {R R':List Value→α→Prop} {v:Value} {xs:List α} (h:SlF w size bytes R v xs) (hb:Below w.heap.size w w') (hs:0<size) (hR:∀cs x,R cs x→R' cs x):SlF w' size bytes R' v xs:=by
 obtain ⟨p,c,h1,h2,h3,h4,h5⟩:=h
 exact ⟨p,c,h1,h2,h3,h4,h5.mono hb hs hR⟩
theorem InsR.below {w w':World} {cs:List Value} {x:InsL} (h:InsR w cs x) (hb:Below w.heap.size w w'):InsR w' cs x:=by
 obtain ⟨v,h0,h1,h2,h3,h4,h5,h6⟩:=h
 exact ⟨v,h0,h1,h2,h3,h4,h5,h6.mono hb (by omega) fun _ _ h=>h⟩
theorem PhiR.below {w w':World} {cs:List Value} {x:PhiL} (h:PhiR w cs x) (hb:Below w.heap.size w w'):PhiR w' cs x:=by
 obtain ⟨v,h0,h1,h6⟩:=h
 exact ⟨v,h0,h1,h6.mono hb (by omega) fun _ _ h=>h⟩
theorem BlkR.below {w w':World} {cs:List Value} {x:BlkL} (h:BlkR w cs x) (hb:Below w.heap.size w w'):BlkR w' cs x:=by
 obtain ⟨v1,v2,v3,h0,h1,h2,h3,h4,h5⟩:=h
 exact ⟨v1,v2,v3,h0,h1,h2,h3.mono hb (by omega) fun _ _ h=>h.below hb,h4.mono hb (by omega) fun _ _ h=>h.below hb,h5.mono hb (by omega) fun _ _ h=>h⟩
theorem FunR.below {w w':World} {cs:List Value} {x:FunL} (h:FunR w cs x) (hb:Below w.heap.size w w'):FunR w' cs x:=by
 obtain ⟨v,h0,h1,h2,h3,h4⟩:=h
 exact ⟨v,h0,h1,h2,h3,h4.mono hb (by omega) fun _ _ h=>h.below hb⟩
theorem GloR.below {w w':World} {cs:List Value} {x:GloL} (h:GloR w cs x) (hb:Below w.heap.size w w'):GloR w' cs x:=by
 obtain ⟨v,h0,h1,h2,h3⟩:=h
 exact ⟨v,h0,h1,h2,h3.mono hb (by omega) fun _ _ h=>h⟩

theorem vT {w w':World} {p:Option Addr} {xs:List GloL} (h:SliceAt w 3 (GloR w) p xs) (hb:Below w.heap.size w w'):SliceAt w' 3 (GloR w') p xs:=h.mono hb (by omega) fun _ _ h=>h.below hb
theorem vU {w w':World} {p:Option Addr} {xs:List FunL} (h:SliceAt w 4 (FunR w) p xs) (hb:Below w.heap.size w w'):SliceAt w' 4 (FunR w') p xs:=h.mono hb (by omega) fun _ _ h=>h.below hb
theorem jN {w w':World} {p:Option Addr} {xs:List BlkL} (h:SliceAt w 6 (BlkR w) p xs) (hb:Below w.heap.size w w'):SliceAt w' 6 (BlkR w') p xs:=h.mono hb (by omega) fun _ _ h=>h.below hb
theorem SlF.out {α:Type} {w:World} {size bytes:Nat} {R:List Value→α→Prop} {v:Value} {xs:List α} (h:SlF w size bytes R v xs):∃p c,v = .slice p xs.length c∧xs.length*bytes≤140737488351232∧SliceAt w size R p xs:=by
 obtain ⟨p,c,h1,_,_,h4,h5⟩:=h
 exact ⟨p,c,h1,by unfold reachBytes at h4;exact h4,h5⟩

theorem ZJ {w w':World} {p:Option Addr} {xs:List Int} (h:SliceAt w 1 kh p xs) (hb:Below w.heap.size w w') {i:Nat} (hi:i<xs.length) :
  ∃b o,p=some ⟨b,o,none⟩∧w'.cell? ⟨b,o+i,none⟩=some (.int .i64 xs[i])∧I64 xs[i]:=by
 rcases h with rfl|⟨b,o,hp,h⟩
 ·simp at hi
 obtain ⟨cs,_,hc,⟨rfl,hw⟩⟩:=h i hi
 have h0:=hc 0 (by omega)
 simp only [Nat.mul_one,yJ,zB] at h0
 exact ⟨b,o,hp,(hb.cell (p:=⟨b,o+i,none⟩) (qd h0)).trans h0,hw⟩
theorem KZ {w w':World} {p:Option Addr} {xs:List (Bool×Int)} (h:SliceAt w 2 ZG p xs) (hb:Below w.heap.size w w') {i:Nat} (hi:i<xs.length) :
  ∃b o,p=some ⟨b,o,none⟩∧w'.cell? ⟨b,o+i*2,none⟩=some (.bool xs[i].1)∧w'.cell? ⟨b,o+i*2+1,none⟩=some (.int .i64 xs[i].2)∧I64 xs[i].2:=by
 rcases h with rfl|⟨b,o,hp,h⟩
 ·simp at hi
 obtain ⟨cs,_,hc,⟨rfl,hw⟩⟩:=h i hi
 have h0:w.cell? ⟨b,o+i*2,none⟩=some (.bool xs[i].1):=hc 0 (by omega)
 have h1:w.cell? ⟨b,o+i*2+1,none⟩=some (.int .i64 xs[i].2):=hc 1 (by omega)
 have hl:=qd h0
 exact ⟨b,o,hp,(hb.cell (p:=⟨b,_,none⟩) hl).trans h0,(hb.cell (p:=⟨b,_,none⟩) hl).trans h1,hw⟩
theorem V1 {w w':World} {p:Option Addr} {xs:List PhiL} (h:SliceAt w 2 (PhiR w) p xs) (hb:Below w.heap.size w w') {i:Nat} (hi:i<xs.length) :
  ∃b o q c,p=some ⟨b,o,none⟩∧w'.cell? ⟨b,o+i*2,none⟩=some (.int .i64 xs[i].dst)∧w'.cell? ⟨b,o+i*2+1,none⟩=some (.slice q xs[i].src.length c)∧I64 xs[i].dst∧xs[i].src.length*16≤140737488351232∧SliceAt w' 2 ZG q xs[i].src:=by
 rcases h with rfl|⟨b,o,hp,h⟩
 ·simp at hi
 obtain ⟨cs,_,hc,hr⟩:=h i hi
 obtain ⟨v,rfl,hw,hs⟩:=hr
 obtain ⟨q,c,rfl,hl2,hs2⟩:=hs.out
 have h0:w.cell? ⟨b,o+i*2,none⟩=some (.int .i64 xs[i].dst):=hc 0 (by omega)
 have h1:w.cell? ⟨b,o+i*2+1,none⟩=some (.slice q xs[i].src.length c):=hc 1 (by omega)
 have hl:=qd h0
 exact ⟨b,o,q,c,hp,(hb.cell (p:=⟨b,_,none⟩) hl).trans h0,(hb.cell (p:=⟨b,_,none⟩) hl).trans h1,hw,hl2,hs2.mono hb (by omega) fun _ _ h=>h⟩
theorem V2 {w w':World} {p:Option Addr} {xs:List InsL} (h:SliceAt w 8 (InsR w) p xs) (hb:Below w.heap.size w w') {i:Nat} (hi:i<xs.length) :
  ∃b o q c,p=some ⟨b,o,none⟩∧w'.cell? ⟨b,o+i*8,none⟩=some (.int .i64 xs[i].op)∧w'.cell? ⟨b,o+i*8+1,none⟩=some (.int .i64 xs[i].dst)∧w'.cell? ⟨b,o+i*8+2,none⟩=some (.bool xs[i].ar)∧w'.cell? ⟨b,o+i*8+3,none⟩=some (.int .i64 xs[i].an)∧w'.cell? ⟨b,o+i*8+4,none⟩=some (.bool xs[i].br)∧w'.cell? ⟨b,o+i*8+5,none⟩=some (.int .i64 xs[i].bn)∧w'.cell? ⟨b,o+i*8+6,none⟩=some (.int .i64 xs[i].fn)∧w'.cell? ⟨b,o+i*8+7,none⟩=some (.slice q xs[i].args.length c)∧I64 xs[i].op∧I64 xs[i].dst∧I64 xs[i].an∧I64 xs[i].bn∧I64 xs[i].fn∧xs[i].args.length*16≤140737488351232∧SliceAt w' 2 ZG q xs[i].args:=by
 rcases h with rfl|⟨b,o,hp,h⟩
 ·simp at hi
 obtain ⟨cs,_,hc,hr⟩:=h i hi
 obtain ⟨v,rfl,w1,w2,w3,w4,w5,hs⟩:=hr
 obtain ⟨q,c,rfl,hl2,hs2⟩:=hs.out
 have h0:w.cell? ⟨b,o+i*8,none⟩=some (.int .i64 xs[i].op):=hc 0 (by omega)
 have hl:=qd h0
 have g:∀j,j<8→w'.cell? ⟨b,o+i*8+j,none⟩=w.cell? ⟨b,o+i*8+j,none⟩:=fun j _=>hb.cell (p:=⟨b,_,none⟩) hl
 exact ⟨b,o,q,c,hp,(g 0 (by omega)).trans h0,(g 1 (by omega)).trans (hc 1 (by omega)),(g 2 (by omega)).trans (hc 2 (by omega)),(g 3 (by omega)).trans (hc 3 (by omega)),(g 4 (by omega)).trans (hc 4 (by omega)),(g 5 (by omega)).trans (hc 5 (by omega)),(g 6 (by omega)).trans (hc 6 (by omega)),(g 7 (by omega)).trans (hc 7 (by omega)),w1,w2,w3,w4,w5,hl2,hs2.mono hb (by omega) fun _ _ h=>h⟩
theorem ke {w w':World} {p:Option Addr} {xs:List BlkL} (h:SliceAt w 6 (BlkR w) p xs) (hb:Below w.heap.size w w') {i:Nat} (hi:i<xs.length) :
  ∃b o q1 c1 q2 c2 q3 c3,p=some ⟨b,o,none⟩∧w'.cell? ⟨b,o+i*6,none⟩=some (.slice q1 xs[i].phis.length c1)∧w'.cell? ⟨b,o+i*6+1,none⟩=some (.slice q2 xs[i].list.length c2)∧w'.cell? ⟨b,o+i*6+2,none⟩=some (.int .i64 xs[i].fin.kind)∧w'.cell? ⟨b,o+i*6+3,none⟩=some (.bool xs[i].fin.onr)∧w'.cell? ⟨b,o+i*6+4,none⟩=some (.int .i64 xs[i].fin.onn)∧w'.cell? ⟨b,o+i*6+5,none⟩=some (.slice q3 xs[i].fin.to.length c3)∧I64 xs[i].fin.kind∧I64 xs[i].fin.onn∧
   xs[i].phis.length*32≤140737488351232∧xs[i].list.length*80≤140737488351232∧xs[i].fin.to.length*8≤140737488351232∧SliceAt w' 2 (PhiR w') q1 xs[i].phis∧SliceAt w' 8 (InsR w') q2 xs[i].list∧SliceAt w' 1 kh q3 xs[i].fin.to:=by
 rcases h with rfl|⟨b,o,hp,h⟩
 ·simp at hi
 obtain ⟨cs,_,hc,hr⟩:=h i hi
 obtain ⟨v1,v2,v3,rfl,w1,w2,hs1,hs2,hs3⟩:=hr
 obtain ⟨q1,c1,rfl,l1,t1⟩:=hs1.out
 obtain ⟨q2,c2,rfl,l2,t2⟩:=hs2.out
 obtain ⟨q3,c3,rfl,l3,t3⟩:=hs3.out
 have h0:w.cell? ⟨b,o+i*6,none⟩=some (.slice q1 xs[i].phis.length c1):=hc 0 (by omega)
 have hl:=qd h0
 have g:∀j,j<6→w'.cell? ⟨b,o+i*6+j,none⟩=w.cell? ⟨b,o+i*6+j,none⟩:=fun j _=>hb.cell (p:=⟨b,_,none⟩) hl
 exact ⟨b,o,q1,c1,q2,c2,q3,c3,hp,(g 0 (by omega)).trans h0,(g 1 (by omega)).trans (hc 1 (by omega)),(g 2 (by omega)).trans (hc 2 (by omega)),(g 3 (by omega)).trans (hc 3 (by omega)),(g 4 (by omega)).trans (hc 4 (by omega)),(g 5 (by omega)).trans (hc 5 (by omega)),w1,w2,l1,l2,l3,t1.mono hb (by omega) fun _ _ h=>h.below hb,t2.mono hb (by omega) fun _ _ h=>h.below hb,t3.mono hb (by omega) fun _ _ h=>h⟩
theorem Ze {w w':World} {p:Option Addr} {xs:List FunL} (h:SliceAt w 4 (FunR w) p xs) (hb:Below w.heap.size w w') {i:Nat} (hi:i<xs.length) :
  ∃b o q c,p=some ⟨b,o,none⟩∧w'.cell? ⟨b,o+i*4,none⟩=some (.string xs[i].name)∧w'.cell? ⟨b,o+i*4+1,none⟩=some (.int .i64 xs[i].params)∧w'.cell? ⟨b,o+i*4+2,none⟩=some (.int .i64 xs[i].regs)∧w'.cell? ⟨b,o+i*4+3,none⟩=some (.slice q xs[i].blocks.length c)∧
   xs[i].name.size≤140737488351232∧I64 xs[i].params∧I64 xs[i].regs∧xs[i].blocks.length*96≤140737488351232∧SliceAt w' 6 (BlkR w') q xs[i].blocks:=by
 rcases h with rfl|⟨b,o,hp,h⟩
 ·simp at hi
 obtain ⟨cs,_,hc,hr⟩:=h i hi
 obtain ⟨v,rfl,w0,w1,w2,hs⟩:=hr
 obtain ⟨q,c,rfl,hl2,hs2⟩:=hs.out
 have h0:w.cell? ⟨b,o+i*4,none⟩=some (.string xs[i].name):=hc 0 (by omega)
 have hl:=qd h0
 have g:∀j,j<4→w'.cell? ⟨b,o+i*4+j,none⟩=w.cell? ⟨b,o+i*4+j,none⟩:=fun j _=>hb.cell (p:=⟨b,_,none⟩) hl
 exact ⟨b,o,q,c,hp,(g 0 (by omega)).trans h0,(g 1 (by omega)).trans (hc 1 (by omega)),(g 2 (by omega)).trans (hc 2 (by omega)),(g 3 (by omega)).trans (hc 3 (by omega)),by unfold reachBytes at w0;omega,w1,w2,hl2,hs2.mono hb (by omega) fun _ _ h=>h.below hb⟩
theorem gloGet {w w':World} {p:Option Addr} {xs:List GloL} (h:SliceAt w 3 (GloR w) p xs) (hb:Below w.heap.size w w') {i:Nat} (hi:i<xs.length) :
  ∃b o q c,p=some ⟨b,o,none⟩∧w'.cell? ⟨b,o+i*3,none⟩=some (.string xs[i].name)∧w'.cell? ⟨b,o+i*3+1,none⟩=some (.int .i64 xs[i].size)∧w'.cell? ⟨b,o+i*3+2,none⟩=some (.slice q xs[i].init.length c)∧
   xs[i].name.size≤140737488351232∧I64 xs[i].size∧xs[i].init.length*8≤140737488351232∧SliceAt w' 1 kh q xs[i].init:=by
 rcases h with rfl|⟨b,o,hp,h⟩
 ·simp at hi
 obtain ⟨cs,_,hc,hr⟩:=h i hi
 obtain ⟨v,rfl,w0,w1,hs⟩:=hr
 obtain ⟨q,c,rfl,hl2,hs2⟩:=hs.out
 have h0:w.cell? ⟨b,o+i*3,none⟩=some (.string xs[i].name):=hc 0 (by omega)
 have hl:=qd h0
 have g:∀j,j<3→w'.cell? ⟨b,o+i*3+j,none⟩=w.cell? ⟨b,o+i*3+j,none⟩:=fun j _=>hb.cell (p:=⟨b,_,none⟩) hl
 exact ⟨b,o,q,c,hp,(g 0 (by omega)).trans h0,(g 1 (by omega)).trans (hc 1 (by omega)),(g 2 (by omega)).trans (hc 2 (by omega)),by unfold reachBytes at w0;omega,w1,hl2,hs2.mono hb (by omega) fun _ _ h=>h⟩



def qQ (T:List (List Int)):Nat→List (Nat×Nat)
 | 0=>[]
 | i+1=>qQ T i++(T.getD i []).map fun t=>(t.toNat,i)
def qU (ps:List (Nat×Nat)) (t:Nat):List Nat:=(ps.filter (·.1 == t)).map (·.2)

theorem YS (ps:List (Nat×Nat)) (t i:Nat):qU (ps++[(t,i)]) t=qU ps t++[i]:=by
 simp [qU,List.filter_append]
theorem K4 (ps:List (Nat×Nat)) {t u:Nat} (i:Nat) (h:u≠t):qU (ps++[(t,i)]) u=qU ps u:=by
 have h2:(t == u)=false:=by simp;omega
 simp [qU,List.filter_append,h2]
theorem Zx (ps:List (Nat×Nat)) (t:Nat):(qU ps t).length≤ps.length:=by
 unfold qU;rw [yT];exact List.length_filter_le _ _
theorem Qt (T:List (List Int)) (k n:Nat) (hk:k≤n) (h:∀i,i<n→(T.getD i []).length≤2):(qQ T k).length≤2*k:=by
 induction k with
 | zero=>simp [qQ]
 | succ k ih=>
  have:=ih (by omega)
  have:=h k (by omega)
  simp only [qQ,yN,yT]
  omega

structure Rows2 (w:World) (B T:Nat) (n:Nat) (ts ti:TypeId) (ps:List (Nat×Nat)) (f:Nat→Value):Prop where
 tab:w.rowIs T ts n f
 row:∀j,j<n→w.ownsRow B ti 1 (f j) (qU ps j).length ((qU ps j).map fun i:Nat=>.int .i64 (i:Int))
 two:∀j k,j<n→k<n→j≠k→(f j).ownBlock=none∨(f j).ownBlock≠(f k).ownBlock
 low:T<B

theorem Rows2.alloc {w:World} {B T n:Nat} {ts ti:TypeId} {ps:List (Nat×Nat)} {f:Nat→Value} (h:Rows2 w B T n ts ti ps f) (o:Obj):Rows2 (w.alloc o) B T n ts ti ps f:=
 ⟨h.tab.alloc o,fun j hj=>(h.row j hj).alloc o,h.two,h.low⟩
theorem Rows2.drew {w:World} {B T n:Nat} {ts ti:TypeId} {ps:List (Nat×Nat)} {f:Nat→Value} (h:Rows2 w B T n ts ti ps f):Rows2 w.drew B T n ts ti ps f:=
 ⟨h.tab.drew,fun j hj=>(h.row j hj).drew,h.two,h.low⟩

theorem Rows2.made (w:World) (n:Nat) (ts ti:TypeId):Rows2 (w.alloc (.cells (madeCells #[.slice none 0 0] n) ts)) (w.heap.size+1) w.heap.size n ts ti [] (fun _=>.slice none 0 0):=
 ⟨World.rowIs_made w _ n ts,fun j _=>World.ownsRow_nil _ _ _ _,fun _ _ _ _ _=>.inl rfl,by omega⟩

theorem Rows2.put {w w':World} {B T n:Nat} {ts ti:TypeId} {ps:List (Nat×Nat)} {f:Nat→Value} (h:Rows2 w B T n ts ti ps f) (hB:B≤w.heap.size) {t i:Nat} (ht:t<n) {v':Value}
  (hown:w'.ownsRow B ti 1 v' ((qU ps t).length+1) (((qU ps t).map fun i:Nat=>.int .i64 (i:Int))++[.int .i64 (i:Int)])) (hg:w.grownBy w' (f t).ownBlock)
  (hv:v'.ownBlock=(f t).ownBlock∨v'.ownBlock=some w.heap.size) :
  Rows2 (w'.setCell ⟨T,t,none⟩ v') B T n ts ti (ps++[(t,i)]) (fun j=>if j=t then v' else f j):=by
 have hlow:∀j,j<n→∀k,(f j).ownBlock=some k→B≤k∧k<w.heap.size:=fun j hj k hk=>(h.row j hj).lt k hk
 have hT:some T≠(f t).ownBlock:=fun e=>by have:=(hlow t ht T e.symm).1;have:=h.low;omega
 have hTw:T<w.heap.size:=by have:=h.low;omega
 have keep:∀(v:Value) (m:Nat) (xs:List Value),w'.ownsRow B ti 1 v m xs→(w'.setCell ⟨T,t,none⟩ v').ownsRow B ti 1 v m xs:=fun v m xs ho=>by
  refine ho.kept (row:=some T) ⟨rfl,rfl,rfl,by simp [World.setCell],fun k hk hne=>?_⟩ ?_
  ·exact Below.heap_setCell _ _ _ _ (fun e=>hne (by rw [e]))
  cases hb:v.ownBlock with
  | none=>exact .inl rfl
  | some k=>exact .inr (fun e=>by have h1:=(ho.lt k hb).1;have h2:=h.low;injection e with e;omega)
 refine ⟨?_,fun j hj=>?_,fun j k hj hk hjk=>?_,h.low⟩
 ·exact (h.tab.of_block (hg.block T hTw hT)).set t v'
 ·by_cases hjt:j=t
  ·subst hjt
   simp only [if_true]
   rw [YS,yN,yW]
   exact keep _ _ _ hown
  simp only [zQ hjt]
  rw [K4 _ _ hjt]
  exact keep _ _ _ ((h.row j hj).kept hg (h.two j t hj ht hjt))
 show (if j=t then v' else f j).ownBlock=none∨(if j=t then v' else f j).ownBlock≠(if k=t then v' else f k).ownBlock
 by_cases hjt:j=t
 ·have hkt:k≠t:=fun e=>hjk (hjt.trans e.symm)
  rw [zZ hjt,zQ hkt]
  rcases hv with e|e
  ·rw [e];exact h.two t k ht hk (fun e=>hkt e.symm)
  refine .inr (fun g=>?_)
  have:=(hlow k hk _ (g.symm.trans e)).2
  omega
 rw [zQ hjt]
 by_cases hkt:k=t
 ·rw [zZ hkt]
  rcases hv with e|e
  ·rw [e];exact h.two j t hj ht hjt
  cases hb:(f j).ownBlock with
  | none=>exact .inl rfl
  | some q=>exact .inr (fun g=>by have:=(hlow j hj q hb).2;rw [e] at g;injection g with g;omega)
 rw [zQ hkt];exact h.two j k hj hk hjk
theorem Rows2.atTab {w w':World} {B T n:Nat} {ts ti:TypeId} {ps:List (Nat×Nat)} {f:Nat→Value} (h:Rows2 w B T n ts ti ps f) {t:Nat} (ht:t<n) (hg:w.grownBy w' (f t).ownBlock):w'.cell? ⟨T,t,none⟩=some (f t)∧w'.frozen? ⟨T,t,none⟩=false:=by
 have hT:some T≠(f t).ownBlock:=fun e=>by have:=((h.row t ht).lt T e.symm).1;have:=h.low;omega
 have hb:=hg.block T h.tab.lt hT
 exact ⟨(zN (a:=⟨T,t,none⟩) hb).trans (h.tab.cell ht),(yB (a:=⟨T,t,none⟩) hb).trans (h.tab.frozen t)⟩
end Go.Proofs.YtbnnhmcloecijaaGreatDoor
