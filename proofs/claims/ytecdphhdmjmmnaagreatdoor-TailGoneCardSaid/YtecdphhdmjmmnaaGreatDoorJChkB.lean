/-
  The contracts of slices.Index and slices.Contains on texts.
-/
import Derived.Test.YtecdphhdmjmmnaaGreatDoorJChkG
import Derived.Deep.OwnRows
import Derived.OwnWalk
import Derived.Maps.AppendAt
set_option maxRecDepth 100000
set_option maxHeartbeats 16000000
namespace Go.Proofs.YtecdphhdmjmmnaaGreatDoor
open Go.RowKit

def shD (op:Int):Bool:=decide (1≤op∧op≤22∧op≠19∧op≠22)
def shA (op:Int):Bool:=decide (1≤op∧op≤22∧op≠20∧op≠21)
def shB (op:Int):Bool:=decide ((2≤op∧op≤15)∨op=19)

theorem kt (op:Int) (w:World) (h:1≤op∧op≤22) :
  Calls Tryz.prog 89 #[.int .i64 op] w fun e w'=>e = .returned (.agg #[.bool (shD op),.bool (shA op),.bool (shB op)])∧w'=w.alloc (.cells #[.bool (shD op),.bool (shA op),.bool (shB op)] 139):=by
 obtain hc|hc:(2≤op∧op≤15)∨(op=1∨op=16∨op=17∨op=18∨op=19∨op=20∨op=21∨op=22):=by omega
 ·have hD:shD op=true:=by simp[shD];omega
  have hA:shA op=true:=by simp[shA];omega
  have hB:shB op=true:=by simp[shB];omega
  rw[hD,hA,hB]
  have h1:(op == 1)=false:=by rw[beq_eq_false_iff_ne];omega
  have h2:(op == 16)=false:=by rw[beq_eq_false_iff_ne];omega
  have h3:(op == 17)=false:=by rw[beq_eq_false_iff_ne];omega
  have h4:(op == 18)=false:=by rw[beq_eq_false_iff_ne];omega
  go_enter Tryz.func89,Tryz.ntmps89
  go_wp2
  all_goals (refine bodyPost_ret ?_ rfl ⟨rfl,rfl⟩;simp[results,Tryz.results89,go_sem])
 rcases hc with rfl|rfl|rfl|rfl|rfl|rfl|rfl|rfl
 all_goals
  go_enter Tryz.func89,Tryz.ntmps89
  go_wp2
  (refine bodyPost_ret ?_ rfl ⟨rfl,rfl⟩;simp[results,Tryz.results89,go_sem,shD,shA,shB])

def jF (regs:Int) (nf:Nat) (P:Nat→Int) (op dst an bn fn:Int) (ar br:Bool) (L:List (Bool×Int)):Int:=
 if ¬(1≤op∧op≤22)then 4
 else if(shD op=false∧dst≠-1)∨(shA op=false∧¬(ar=false∧an=0))∨(shB op=false∧¬(br=false∧bn=0))∨(op≠20∧(fn≠0∨0<L.length))then 5
 else if shD op=true∧¬(op=20∧dst = -1)∧vE regs dst≠0 then vE regs dst
 else qr [zP regs ar an,zP regs br bn,xL regs nf P (op == 20) fn L]

theorem ins_kind (g1 f1 b1 a1 p:Option Addr) (g2 g3 f2 f3 b2 b3 a2 a3 c:Nat) (nm:ByteArray) (params regs op dst an bn fn:Int) (ar br:Bool) (P:Nat→Int) (L:List (Bool×Int)) (w:World) (h:¬(1≤op∧op≤22)) :
  Calls Tryz.prog 57 #[.agg #[.slice g1 g2 g3,.slice f1 f2 f3,.string nm,.int .i64 params,.int .i64 regs,.slice b1 b2 b3,.slice a1 a2 a3],.agg #[.int .i64 op,.int .i64 dst,.bool ar,.int .i64 an,.bool br,.int .i64 bn,.int .i64 fn,.slice p L.length c]] w fun e w'=>e = .returned (.int .i64 (jF regs f2 P op dst an bn fn ar br L))∧Below w.heap.size w w':=by
 have hw:zJ op 1 22=false:=by simp only[zJ,decide_eq_false_iff_not];exact h
 have HV:Hid (jF regs f2 P op dst an bn fn ar br L=4):=by show _=_;unfold jF;rw[if_pos h]
 clear h
 go_enter Tryz.func57,Tryz.ntmps57
 go_wp2_with (go_at_call 27;refine(qC _ _ _ _).mono ?_;rintro e w1 ⟨rfl,rfl⟩)
 go_ret
 refine⟨by rw[HV.out];rfl,?_⟩
 exact bZ

theorem jg {regs:Int} {nf:Nat} {P:Nat→Int} {op dst an bn fn:Int} {ar br:Bool} {L:List (Bool×Int)} (h:1≤op∧op≤22)
  (g:(shD op=false∧dst≠-1)∨(shA op=false∧¬(ar=false∧an=0))∨(shB op=false∧¬(br=false∧bn=0))∨(op≠20∧(fn≠0∨0<L.length))):jF regs nf P op dst an bn fn ar br L=5:=by
 unfold jF;rw[if_neg (fun x=>x h),if_pos g]
theorem insE_2 {regs:Int} {nf:Nat} {P:Nat→Int} {op dst an bn fn:Int} {ar br:Bool} {L:List (Bool×Int)} (h:1≤op∧op≤22)
  (gd:shD op=true∨dst = -1) (ga:shA op=true∨(¬ar=true∧an=0)) (gb:shB op=true∨(¬br=true∧bn=0)) (gf:(!op == 20)=false∨(fn=0∧¬0<L.length)) :
  jF regs nf P op dst an bn fn ar br L=if shD op=true∧¬(op=20∧dst = -1)∧vE regs dst≠0 then vE regs dst else qr [zP regs ar an,zP regs br bn,xL regs nf P (op == 20) fn L]:=by
 unfold jF
 rw[if_neg (fun x=>x h),if_neg]
 rintro(⟨x,y⟩|⟨x,y⟩|⟨x,y⟩|⟨x,y⟩)
 ·rcases gd with g|g
  ·rw[x]at g;cases g
  exact y g
 ·rcases ga with g|⟨g,k⟩
  ·rw[x]at g;cases g
  exact y ⟨by simpa using g,k⟩
 ·rcases gb with g|⟨g,k⟩
  ·rw[x]at g;cases g
  exact y ⟨by simpa using g,k⟩
 rcases gf with g|⟨g,k⟩
 ·simp at g;exact x g
 rcases y with y|y
 ·exact y g
 exact k y

theorem ins_d0 (g1 f1 b1 a1 p:Option Addr) (g2 g3 f2 f3 b2 b3 a2 a3 c:Nat) (nm:ByteArray) (params regs op dst an bn fn:Int) (ar br d a b:Bool) (P:Nat→Int) (L:List (Bool×Int)) (w:World) (h:1≤op∧op≤22)
  (hf:f2≤9223372036854775807) (h1:0≤regs) (h2:regs≤9223372036854775807)
  (hP:f2=0∨∃fb fo,f1=some ⟨fb,fo,none⟩∧∀i,i<f2→w.cell? ⟨fb,fo+i*4+1,none⟩=some (.int .i64 (P i))) (hl2:L.length≤9223372036854775807) (hL:SliceAt w 2 kR p L)
  (hd:shD op=d) (ha:shA op=a) (hb:shB op=b) (hd0:d=false) :
  Calls Tryz.prog 57 #[.agg #[.slice g1 g2 g3,.slice f1 f2 f3,.string nm,.int .i64 params,.int .i64 regs,.slice b1 b2 b3,.slice a1 a2 a3],.agg #[.int .i64 op,.int .i64 dst,.bool ar,.int .i64 an,.bool br,.int .i64 bn,.int .i64 fn,.slice p L.length c]] w fun e w'=>e = .returned (.int .i64 (jF regs f2 P op dst an bn fn ar br L))∧Below w.heap.size w w':=by
 have hw:zJ op 1 22=true:=by simp only[zJ,decide_eq_true_eq];exact h
 have hs:=fun w=>kt op w h
 have E1:Hid (¬dst = -1→jF regs f2 P op dst an bn fn ar br L=5):=fun x=>jg h (.inl ⟨hd.trans hd0,x⟩)
 have E2:Hid (¬a=true→ar=true→jF regs f2 P op dst an bn fn ar br L=5):=fun x y=>jg h (.inr (.inl ⟨by rw[ha];simpa using x,by rw[y];simp⟩))
 have E3:Hid (¬a=true→¬an=0→jF regs f2 P op dst an bn fn ar br L=5):=fun x y=>jg h (.inr (.inl ⟨by rw[ha];simpa using x,fun z=>y z.2⟩))
 have E4:Hid (¬b=true→br=true→jF regs f2 P op dst an bn fn ar br L=5):=fun x y=>jg h (.inr (.inr (.inl ⟨by rw[hb];simpa using x,by rw[y];simp⟩)))
 have E5:Hid (¬b=true→¬bn=0→jF regs f2 P op dst an bn fn ar br L=5):=fun x y=>jg h (.inr (.inr (.inl ⟨by rw[hb];simpa using x,fun z=>y z.2⟩)))
 have E6:Hid ((!op == 20)=true→¬fn=0→jF regs f2 P op dst an bn fn ar br L=5):=fun x y=>jg h (.inr (.inr (.inr ⟨by simpa using x,.inl y⟩)))
 have E7:Hid (((!op == 20)=true∧0<L.length)→jF regs f2 P op dst an bn fn ar br L=5):=fun x=>jg h (.inr (.inr (.inr ⟨by simpa using x.1,.inr x.2⟩)))
 have E8:Hid (dst = -1→(a=true∨(¬ar=true∧an=0))→(b=true∨(¬br=true∧bn=0))→((!op == 20)=false∨(fn=0∧¬0<L.length))→jF regs f2 P op dst an bn fn ar br L=qr [zP regs ar an,zP regs br bn,xL regs f2 P (op == 20) fn L]):=fun x y z u=>by
  rw[insE_2 h (.inr x) (by rw[ha];exact y) (by rw[hb];exact z) u,if_neg]
  rw[hd,hd0];simp
 rw[hd,ha,hb]at hs
 have HS:Hid (∀w,Calls Tryz.prog 89 #[.int .i64 op] w fun e w'=>e = .returned (.agg #[.bool d,.bool a,.bool b])∧w'=w.alloc (.cells #[.bool d,.bool a,.bool b] 139)):=hs
 have HP:Hid (f2=0∨∃fb fo,f1=some ⟨fb,fo,none⟩∧∀i,i<f2→w.cell? ⟨fb,fo+i*4+1,none⟩=some (.int .i64 (P i))):=hP
 have HL:Hid (SliceAt w 2 kR p L):=hL
 subst hd0
 generalize hl:L.length=l at *
 have HZ:Hid (L.length=l):=hl
 clear hs hd ha hb h hP hL hl
 go_enter Tryz.func57,Tryz.ntmps57
 go_wp2_with (first|(go_at_call 27;refine(qC _ _ _ _).mono ?_;rintro e w1 ⟨rfl,rfl⟩)|(go_at_call 89;refine(HS.out _).mono ?_;rintro e w1 ⟨rfl,rfl⟩))
 all_goals first
  | (go_ret;(have hE:jF regs f2 P op dst an bn fn ar br L=5:=by first|exact E1.out ‹¬dst = -1›|exact E2.out ‹¬a=true› ‹ar=true›|exact E3.out ‹¬a=true› ‹¬an=0›|exact E4.out ‹¬b=true› ‹br=true›|exact E5.out ‹¬b=true› ‹¬bn=0›|exact E6.out ‹(!op == 20)=true› ‹¬fn=0›|exact E7.out ‹(!op == 20)=true∧0<l›);refine⟨by rw[hE];rfl,?_⟩;exact bZ)
  | skip
 all_goals
  have hE:jF regs f2 P op dst an bn fn ar br L=qr [zP regs ar an,zP regs br bn,xL regs f2 P (op == 20) fn L]:=by
   refine E8.out ‹dst = -1› ?_ ?_ ?_
   ·first|exact .inl ‹a=true›|exact .inr ⟨‹¬ar=true›,‹an=0›⟩
   ·first|exact .inl ‹b=true›|exact .inr ⟨‹¬br=true›,‹bn=0›⟩
   first|exact .inl ‹(!op == 20)=false›|(refine .inl ?_;have g:=‹op=20›;simp[g];done)|exact .inr ⟨‹fn=0›,‹¬0<l›⟩|(rcases ‹(!op == 20)=false∨¬0<l› with g|g;(exact .inl g);exact .inr ⟨‹fn=0›,g⟩)
  clear E1 E2 E3 E4 E5 E6 E7 E8 HS
  (have g:=HZ.out;subst g)
  generalize hv:qr [zP regs ar an,zP regs br bn,xL regs f2 P (op == 20) fn L]=v at hE
  have HVV:Hid (qr [zP regs ar an,zP regs br bn,xL regs f2 P (op == 20) fn L]=v):=hv
  clear hv
  refine(ZU _ _ _ ⟨w.heap.size,0,none⟩ ⟨w.heap.size+1,0,none⟩ ⟨w.heap.size+1+1+1+1,0,none⟩ _ _ _ _ ?g0 ?g1 ?g2 (ZV (g1:=g1) (g2:=g2) (g3:=g3) (f1:=f1) (f2:=f2) (f3:=f3) (nm:=nm) (params:=params) (regs:=regs) (b1:=b1) (b2:=b2) (b3:=b3) (a1:=a1) (a2:=a2) (a3:=a3) (op:=op) (dst:=dst) (an:=an) (bn:=bn) (fn:=fn) (ar:=ar) (br:=br) (p:=p) (c:=c) (l:=L.length) ?hB ?hX h1 h2) (ZW ?hB ?hX h1 h2) (ZX (call:=op == 20) P L ?hB ?hX ?hC hf h1 h2 ?hP hl2 ?hL)).mono ?fin
  case g0=>exact((blk (qh (by simp))).1 0).trans rfl
  case g1=>exact((blk (qh (by simp))).1 1).trans rfl
  case g2=>exact((blk (qh (by simp))).1 2).trans rfl
  case hB=>(repeat (first|exact qh (by simp)|refine qj ?_))
  case hX=>
   (try (have g:=‹dst = -1›;subst g))
   (try (have g:=‹an=0›;subst g))
   (try (have g:=‹bn=0›;subst g))
   (try (have g:=‹fn=0›;subst g))
   (try (have g:=‹op=20›;subst g))
   (try (have g:=Bool.eq_false_iff.2 ‹¬ar=true›;subst g))
   (try (have g:=Bool.eq_false_iff.2 ‹¬br=true›;subst g))
   repeat (first|exact qh (by simp)|refine qj ?_)
  case hC=>
   refine Eq.trans ((blk (qj (qh (by simp)))).1 0) ?_
   first|rfl|(have g:=‹op=20›;subst g;rfl)|(have g:=‹(!op == 20)=false›;simp only[Bool.not_eq_false']at g;rw[g];rfl)|(have g:=‹(!op == 20)=true›;simp only[Bool.not_eq_true']at g;rw[g];rfl)
  case hL=>exact HL.out.to (by decide) bZ (fun _ _ _ h=>h)
  case hP=>
   rcases HP.out with g|⟨fb,fo,g,k⟩
   ·exact .inl g
   refine .inr ⟨fb,fo,g,fun i hi=>?_⟩
   refine Eq.trans (Below.cell (B:=w.heap.size) (w:=w) ?_ (p:=⟨fb,fo+i*4+1,none⟩) (q8 (k i hi))) (k i hi)
   exact bZ
  case fin=>
   rintro e w4 ⟨rfl,hb4⟩
   rw[HVV.out]
   go_wp2
   go_ret
   refine⟨by rw[hE];rfl,?_⟩
   exact bZ

theorem ins_d1 (g1 f1 b1 a1 p:Option Addr) (g2 g3 f2 f3 b2 b3 a2 a3 c:Nat) (nm:ByteArray) (params regs op dst an bn fn:Int) (ar br d a b:Bool) (P:Nat→Int) (L:List (Bool×Int)) (w:World) (h:1≤op∧op≤22)
  (hf:f2≤9223372036854775807) (h1:0≤regs) (h2:regs≤9223372036854775807)
  (hP:f2=0∨∃fb fo,f1=some ⟨fb,fo,none⟩∧∀i,i<f2→w.cell? ⟨fb,fo+i*4+1,none⟩=some (.int .i64 (P i))) (hl2:L.length≤9223372036854775807) (hL:SliceAt w 2 kR p L)
  (hd:shD op=d) (ha:shA op=a) (hb:shB op=b) (hd0:d=true) :
  Calls Tryz.prog 57 #[.agg #[.slice g1 g2 g3,.slice f1 f2 f3,.string nm,.int .i64 params,.int .i64 regs,.slice b1 b2 b3,.slice a1 a2 a3],.agg #[.int .i64 op,.int .i64 dst,.bool ar,.int .i64 an,.bool br,.int .i64 bn,.int .i64 fn,.slice p L.length c]] w fun e w'=>e = .returned (.int .i64 (jF regs f2 P op dst an bn fn ar br L))∧Below w.heap.size w w':=by
 have hw:zJ op 1 22=true:=by simp only[zJ,decide_eq_true_eq];exact h
 have hs:=fun w=>kt op w h
 have E2:Hid (¬a=true→ar=true→jF regs f2 P op dst an bn fn ar br L=5):=fun x y=>jg h (.inr (.inl ⟨by rw[ha];simpa using x,by rw[y];simp⟩))
 have E3:Hid (¬a=true→¬an=0→jF regs f2 P op dst an bn fn ar br L=5):=fun x y=>jg h (.inr (.inl ⟨by rw[ha];simpa using x,fun z=>y z.2⟩))
 have E4:Hid (¬b=true→br=true→jF regs f2 P op dst an bn fn ar br L=5):=fun x y=>jg h (.inr (.inr (.inl ⟨by rw[hb];simpa using x,by rw[y];simp⟩)))
 have E5:Hid (¬b=true→¬bn=0→jF regs f2 P op dst an bn fn ar br L=5):=fun x y=>jg h (.inr (.inr (.inl ⟨by rw[hb];simpa using x,fun z=>y z.2⟩)))
 have E6:Hid ((!op == 20)=true→¬fn=0→jF regs f2 P op dst an bn fn ar br L=5):=fun x y=>jg h (.inr (.inr (.inr ⟨by simpa using x,.inl y⟩)))
 have E7:Hid (((!op == 20)=true∧0<L.length)→jF regs f2 P op dst an bn fn ar br L=5):=fun x=>jg h (.inr (.inr (.inr ⟨by simpa using x.1,.inr x.2⟩)))
 have E8:Hid ((a=true∨(¬ar=true∧an=0))→(b=true∨(¬br=true∧bn=0))→((!op == 20)=false∨(fn=0∧¬0<L.length))→jF regs f2 P op dst an bn fn ar br L=if ¬(op=20∧dst = -1)∧vE regs dst≠0 then vE regs dst else qr [zP regs ar an,zP regs br bn,xL regs f2 P (op == 20) fn L]):=fun y z u=>by
  rw[insE_2 h (.inl (hd.trans hd0)) (by rw[ha];exact y) (by rw[hb];exact z) u]
  simp[hd,hd0]
 rw[hd,ha,hb]at hs
 have HS:Hid (∀w,Calls Tryz.prog 89 #[.int .i64 op] w fun e w'=>e = .returned (.agg #[.bool d,.bool a,.bool b])∧w'=w.alloc (.cells #[.bool d,.bool a,.bool b] 139)):=hs
 have HP:Hid (f2=0∨∃fb fo,f1=some ⟨fb,fo,none⟩∧∀i,i<f2→w.cell? ⟨fb,fo+i*4+1,none⟩=some (.int .i64 (P i))):=hP
 have HL:Hid (SliceAt w 2 kR p L):=hL
 subst hd0
 generalize hl:L.length=l at *
 have HZ:Hid (L.length=l):=hl
 clear hs hd ha hb h hP hL hl
 go_enter Tryz.func57,Tryz.ntmps57
 go_wp2_with (first|(go_at_call 27;refine(qC _ _ _ _).mono ?_;rintro e w1 ⟨rfl,rfl⟩)|(go_at_call 89;refine(HS.out _).mono ?_;rintro e w1 ⟨rfl,rfl⟩)|(go_at_call 88;refine(Q8 _ _ _ _ _ _ _ _ _ _ _ _ _ _ _ _ _ h1 h2).mono ?_;rintro e w3 ⟨rfl,hb3⟩;have hz3:=hb3.size;simp at hz3))
 all_goals first
  | (go_ret;(have hE:jF regs f2 P op dst an bn fn ar br L=5:=by first|exact E2.out ‹¬a=true› ‹ar=true›|exact E3.out ‹¬a=true› ‹¬an=0›|exact E4.out ‹¬b=true› ‹br=true›|exact E5.out ‹¬b=true› ‹¬bn=0›|exact E6.out ‹(!op == 20)=true› ‹¬fn=0›|exact E7.out ‹(!op == 20)=true∧0<l›);refine⟨by rw[hE];rfl,?_⟩;exact bZ)
  | skip
 all_goals try
  have hED:jF regs f2 P op dst an bn fn ar br L=vE regs dst:=by
   have gd:=‹(vE regs dst != 0)=true›
   refine(E8.out ?_ ?_ ?_).trans (if_pos ⟨?_,by simpa using gd⟩)
   ·first|exact .inl ‹a=true›|exact .inr ⟨‹¬ar=true›,‹an=0›⟩
   ·first|exact .inl ‹b=true›|exact .inr ⟨‹¬br=true›,‹bn=0›⟩
   ·first|exact .inl ‹(!op == 20)=false›|(refine .inl ?_;have g:=‹op=20›;simp[g];done)|exact .inr ⟨‹fn=0›,‹¬0<l›⟩|(rcases ‹(!op == 20)=false∨¬0<l› with g|g;(exact .inl g);exact .inr ⟨‹fn=0›,g⟩)
   first|exact fun g=>‹¬op=20› g.1|(have g:=‹(!dst == -1)=true›;simp at g;exact fun h=>g h.2)
  go_ret
  refine⟨by rw[hED];rfl,?_⟩
  exact bZ
  done
 all_goals
  have hE:jF regs f2 P op dst an bn fn ar br L=qr [zP regs ar an,zP regs br bn,xL regs f2 P (op == 20) fn L]:=by
   refine(E8.out ?_ ?_ ?_).trans (if_neg ?_)
   ·first|exact .inl ‹a=true›|exact .inr ⟨‹¬ar=true›,‹an=0›⟩
   ·first|exact .inl ‹b=true›|exact .inr ⟨‹¬br=true›,‹bn=0›⟩
   ·first|exact .inl ‹(!op == 20)=false›|(refine .inl ?_;have g:=‹op=20›;simp[g];done)|exact .inr ⟨‹fn=0›,‹¬0<l›⟩|(rcases ‹(!op == 20)=false∨¬0<l› with g|g;(exact .inl g);exact .inr ⟨‹fn=0›,g⟩)
   first|(have gd:=‹(vE regs dst != 0)=false›;exact fun g=>g.2 (by simpa using gd))|(have gd:=‹(!dst == -1)=false›;exact fun g=>g.1 ⟨‹op=20›,by simpa using gd⟩)
  clear E2 E3 E4 E5 E6 E7 E8 HS
  (have g:=HZ.out;subst g)
  generalize hv:qr [zP regs ar an,zP regs br bn,xL regs f2 P (op == 20) fn L]=v at hE
  have HVV:Hid (qr [zP regs ar an,zP regs br bn,xL regs f2 P (op == 20) fn L]=v):=hv
  clear hv
  refine(ZU _ _ _ ⟨w.heap.size,0,none⟩ ⟨w.heap.size+1,0,none⟩ ⟨w.heap.size+1+1+1+1,0,none⟩ _ _ _ _ ?g0 ?g1 ?g2 (ZV (g1:=g1) (g2:=g2) (g3:=g3) (f1:=f1) (f2:=f2) (f3:=f3) (nm:=nm) (params:=params) (regs:=regs) (b1:=b1) (b2:=b2) (b3:=b3) (a1:=a1) (a2:=a2) (a3:=a3) (op:=op) (dst:=dst) (an:=an) (bn:=bn) (fn:=fn) (ar:=ar) (br:=br) (p:=p) (c:=c) (l:=L.length) ?hB ?hX h1 h2) (ZW ?hB ?hX h1 h2) (ZX (call:=op == 20) P L ?hB ?hX ?hC hf h1 h2 ?hP hl2 ?hL)).mono ?fin
  case g0=>exact((blk (qh (by simp))).1 0).trans rfl
  case g1=>exact((blk (qh (by simp))).1 1).trans rfl
  case g2=>exact((blk (qh (by simp))).1 2).trans rfl
  case hB=>(repeat (first|exact qh (by simp)|refine qg hb3 (by first|(simp;done)|(simp;omega)) ?_|refine qj ?_))
  case hX=>
   (try (have g:=‹(!dst == -1)=false›;simp only[Bool.not_eq_false',beq_iff_eq]at g;subst g))
   (try (have g:=‹an=0›;subst g))
   (try (have g:=‹bn=0›;subst g))
   (try (have g:=‹fn=0›;subst g))
   (try (have g:=‹op=20›;subst g))
   (try (have g:=Bool.eq_false_iff.2 ‹¬ar=true›;subst g))
   (try (have g:=Bool.eq_false_iff.2 ‹¬br=true›;subst g))
   repeat (first|exact qh (by simp)|refine qg hb3 (by first|(simp;done)|(simp;omega)) ?_|refine qj ?_)
  case hC=>
   first|refine Eq.trans ((blk (qj (qg hb3 (by first|(simp;done)|(simp;omega)) (qh (by simp))))).1 0) ?_|refine Eq.trans ((blk (qj (qh (by simp)))).1 0) ?_
   first|rfl|(have g:=‹op=20›;subst g;rfl)|(have g:=‹(!op == 20)=false›;simp only[Bool.not_eq_false']at g;rw[g];rfl)|(have g:=‹(!op == 20)=true›;simp only[Bool.not_eq_true']at g;rw[g];rfl)
  case hL=>exact HL.out.to (by decide) bZ (fun _ _ _ h=>h)
  case hP=>
   rcases HP.out with g|⟨fb,fo,g,k⟩
   ·exact .inl g
   refine .inr ⟨fb,fo,g,fun i hi=>?_⟩
   refine Eq.trans (Below.cell (B:=w.heap.size) (w:=w) ?_ (p:=⟨fb,fo+i*4+1,none⟩) (q8 (k i hi))) (k i hi)
   exact bZ
  case fin=>
   rintro e w4 ⟨rfl,hb4⟩
   rw[HVV.out]
   go_wp2
   go_ret
   refine⟨by rw[hE];rfl,?_⟩
   exact bZ

theorem ins_any (g1 f1 b1 a1 p:Option Addr) (g2 g3 f2 f3 b2 b3 a2 a3 c:Nat) (nm:ByteArray) (params regs op dst an bn fn:Int) (ar br:Bool) (P:Nat→Int) (L:List (Bool×Int)) (w:World)
  (hf:f2≤9223372036854775807) (h1:0≤regs) (h2:regs≤9223372036854775807)
  (hP:f2=0∨∃fb fo,f1=some ⟨fb,fo,none⟩∧∀i,i<f2→w.cell? ⟨fb,fo+i*4+1,none⟩=some (.int .i64 (P i))) (hl2:L.length≤9223372036854775807) (hL:SliceAt w 2 kR p L) :
  Calls Tryz.prog 57 #[.agg #[.slice g1 g2 g3,.slice f1 f2 f3,.string nm,.int .i64 params,.int .i64 regs,.slice b1 b2 b3,.slice a1 a2 a3],.agg #[.int .i64 op,.int .i64 dst,.bool ar,.int .i64 an,.bool br,.int .i64 bn,.int .i64 fn,.slice p L.length c]] w fun e w'=>e = .returned (.int .i64 (jF regs f2 P op dst an bn fn ar br L))∧Below w.heap.size w w':=by
 by_cases h:1≤op∧op≤22
 ·cases hd:shD op
  ·exact ins_d0 _ _ _ _ _ _ _ _ _ _ _ _ _ _ _ _ _ _ _ _ _ _ _ _ _ _ _ P L w h hf h1 h2 hP hl2 hL hd rfl rfl rfl
  exact ins_d1 _ _ _ _ _ _ _ _ _ _ _ _ _ _ _ _ _ _ _ _ _ _ _ _ _ _ _ P L w h hf h1 h2 hP hl2 hL hd rfl rfl rfl
 exact ins_kind _ _ _ _ _ _ _ _ _ _ _ _ _ _ _ _ _ _ _ _ _ _ _ _ P L w h

theorem q7 {p:Prop} (h:p):Hid p:=h

theorem q9 {w:World} {b:Nat} {o:Obj} (h:w.heap[b]?=some o):b<w.heap.size:=by
 rcases Nat.lt_or_ge b w.heap.size with g|g
 ·exact g
 rw[Array.getElem?_eq_none g]at h;cases h

theorem SliceAt.mono {α:Type} {w w':World} {size:Nat} {R R':List Value→α→Prop} {p:Option Addr} {xs:List α} (h:SliceAt w size R p xs) (hb:Below w.heap.size w w') (_hs:0<size) (hR:∀cs x,R cs x→R' cs x):SliceAt w' size R' p xs:=by
 rcases h with h|⟨b,o,hp,h⟩
 ·exact .inl h
 refine .inr ⟨b,o,hp,fun i hi=>?_⟩
 obtain⟨cs,hl,hc,hr⟩:=h i hi
 refine⟨cs,hl,fun j hj=>?_,hR _ _ hr⟩
 have hc0:=hc j hj
 rw[List.getElem?_eq_getElem (by omega)]at hc0
 rw[hb.cell (p:=⟨b,o+i*size+j,none⟩) (q8 hc0),hc j hj]
theorem SlF.mono {α:Type} {w w':World} {size bytes:Nat} {R R':List Value→α→Prop} {v:Value} {xs:List α} (h:SlF w size bytes R v xs) (hb:Below w.heap.size w w') (hs:0<size) (hR:∀cs x,R cs x→R' cs x):SlF w' size bytes R' v xs:=by
 obtain⟨p,c,h1,h2,h3,h4,h5⟩:=h
 exact⟨p,c,h1,h2,h3,h4,h5.mono hb hs hR⟩
theorem InsR.below {w w':World} {cs:List Value} {x:InsL} (h:InsR w cs x) (hb:Below w.heap.size w w'):InsR w' cs x:=by
 obtain⟨v,h0,h1,h2,h3,h4,h5,h6⟩:=h
 exact⟨v,h0,h1,h2,h3,h4,h5,h6.mono hb (by omega) fun _ _ h=>h⟩
theorem PhiR.below {w w':World} {cs:List Value} {x:PhiL} (h:PhiR w cs x) (hb:Below w.heap.size w w'):PhiR w' cs x:=by
 obtain⟨v,h0,h1,h6⟩:=h
 exact⟨v,h0,h1,h6.mono hb (by omega) fun _ _ h=>h⟩
theorem BlkR.below {w w':World} {cs:List Value} {x:BlkL} (h:BlkR w cs x) (hb:Below w.heap.size w w'):BlkR w' cs x:=by
 obtain⟨v1,v2,v3,h0,h1,h2,h3,h4,h5⟩:=h
 exact⟨v1,v2,v3,h0,h1,h2,h3.mono hb (by omega) fun _ _ h=>h.below hb,h4.mono hb (by omega) fun _ _ h=>h.below hb,h5.mono hb (by omega) fun _ _ h=>h⟩
theorem FunR.below {w w':World} {cs:List Value} {x:FunL} (h:FunR w cs x) (hb:Below w.heap.size w w'):FunR w' cs x:=by
 obtain⟨v,h0,h1,h2,h3,h4⟩:=h
 exact⟨v,h0,h1,h2,h3,h4.mono hb (by omega) fun _ _ h=>h.below hb⟩
theorem GloR.below {w w':World} {cs:List Value} {x:GloL} (h:GloR w cs x) (hb:Below w.heap.size w w'):GloR w' cs x:=by
 obtain⟨v,h0,h1,h2,h3⟩:=h
 exact⟨v,h0,h1,h2,h3.mono hb (by omega) fun _ _ h=>h⟩

theorem jw {w w':World} {p:Option Addr} {xs:List GloL} (h:SliceAt w 3 (GloR w) p xs) (hb:Below w.heap.size w w'):SliceAt w' 3 (GloR w') p xs:=h.mono hb (by omega) fun _ _ h=>h.below hb
theorem jx {w w':World} {p:Option Addr} {xs:List FunL} (h:SliceAt w 4 (FunR w) p xs) (hb:Below w.heap.size w w'):SliceAt w' 4 (FunR w') p xs:=h.mono hb (by omega) fun _ _ h=>h.below hb
theorem xp {w w':World} {p:Option Addr} {xs:List BlkL} (h:SliceAt w 6 (BlkR w) p xs) (hb:Below w.heap.size w w'):SliceAt w' 6 (BlkR w') p xs:=h.mono hb (by omega) fun _ _ h=>h.below hb
theorem SlF.out {α:Type} {w:World} {size bytes:Nat} {R:List Value→α→Prop} {v:Value} {xs:List α} (h:SlF w size bytes R v xs):∃p c,v = .slice p xs.length c∧xs.length*bytes≤140737488351232∧SliceAt w size R p xs:=by
 obtain⟨p,c,h1,_,_,h4,h5⟩:=h
 exact⟨p,c,h1,by unfold reachBytes at h4;exact h4,h5⟩

theorem ZY {w w':World} {p:Option Addr} {xs:List Int} (h:SliceAt w 1 ju p xs) (hb:Below w.heap.size w w') {i:Nat} (hi:i<xs.length) :
  ∃b o,p=some ⟨b,o,none⟩∧w'.cell? ⟨b,o+i,none⟩=some (.int .i64 xs[i])∧I64 xs[i]:=by
 rcases h with rfl|⟨b,o,hp,h⟩
 ·simp at hi
 obtain⟨cs,_,hc,⟨rfl,hw⟩⟩:=h i hi
 have h0:=hc 0 (by omega)
 simp only[Nat.mul_one,Nat.add_zero,List.getElem?_cons_zero]at h0
 exact⟨b,o,hp,(hb.cell (p:=⟨b,o+i,none⟩) (q8 h0)).trans h0,hw⟩
theorem ZZ {w w':World} {p:Option Addr} {xs:List (Bool×Int)} (h:SliceAt w 2 kR p xs) (hb:Below w.heap.size w w') {i:Nat} (hi:i<xs.length) :
  ∃b o,p=some ⟨b,o,none⟩∧w'.cell? ⟨b,o+i*2,none⟩=some (.bool xs[i].1)∧w'.cell? ⟨b,o+i*2+1,none⟩=some (.int .i64 xs[i].2)∧I64 xs[i].2:=by
 rcases h with rfl|⟨b,o,hp,h⟩
 ·simp at hi
 obtain⟨cs,_,hc,⟨rfl,hw⟩⟩:=h i hi
 have h0:w.cell? ⟨b,o+i*2,none⟩=some (.bool xs[i].1):=hc 0 (by omega)
 have h1:w.cell? ⟨b,o+i*2+1,none⟩=some (.int .i64 xs[i].2):=hc 1 (by omega)
 have hl:=q8 h0
 exact⟨b,o,hp,(hb.cell (p:=⟨b,_,none⟩) hl).trans h0,(hb.cell (p:=⟨b,_,none⟩) hl).trans h1,hw⟩
theorem phiGet {w w':World} {p:Option Addr} {xs:List PhiL} (h:SliceAt w 2 (PhiR w) p xs) (hb:Below w.heap.size w w') {i:Nat} (hi:i<xs.length) :
  ∃b o q c,p=some ⟨b,o,none⟩∧w'.cell? ⟨b,o+i*2,none⟩=some (.int .i64 xs[i].dst)∧w'.cell? ⟨b,o+i*2+1,none⟩=some (.slice q xs[i].src.length c)∧I64 xs[i].dst∧xs[i].src.length*16≤140737488351232∧SliceAt w' 2 kR q xs[i].src:=by
 rcases h with rfl|⟨b,o,hp,h⟩
 ·simp at hi
 obtain⟨cs,_,hc,hr⟩:=h i hi
 obtain⟨v,rfl,hw,hs⟩:=hr
 obtain⟨q,c,rfl,hl2,hs2⟩:=hs.out
 have h0:w.cell? ⟨b,o+i*2,none⟩=some (.int .i64 xs[i].dst):=hc 0 (by omega)
 have h1:w.cell? ⟨b,o+i*2+1,none⟩=some (.slice q xs[i].src.length c):=hc 1 (by omega)
 have hl:=q8 h0
 exact⟨b,o,q,c,hp,(hb.cell (p:=⟨b,_,none⟩) hl).trans h0,(hb.cell (p:=⟨b,_,none⟩) hl).trans h1,hw,hl2,hs2.mono hb (by omega) fun _ _ h=>h⟩
theorem QS {w w':World} {p:Option Addr} {xs:List InsL} (h:SliceAt w 8 (InsR w) p xs) (hb:Below w.heap.size w w') {i:Nat} (hi:i<xs.length) :
  ∃b o q c,p=some ⟨b,o,none⟩∧w'.cell? ⟨b,o+i*8,none⟩=some (.int .i64 xs[i].op)∧w'.cell? ⟨b,o+i*8+1,none⟩=some (.int .i64 xs[i].dst)∧w'.cell? ⟨b,o+i*8+2,none⟩=some (.bool xs[i].ar)∧w'.cell? ⟨b,o+i*8+3,none⟩=some (.int .i64 xs[i].an)∧w'.cell? ⟨b,o+i*8+4,none⟩=some (.bool xs[i].br)∧w'.cell? ⟨b,o+i*8+5,none⟩=some (.int .i64 xs[i].bn)∧w'.cell? ⟨b,o+i*8+6,none⟩=some (.int .i64 xs[i].fn)∧w'.cell? ⟨b,o+i*8+7,none⟩=some (.slice q xs[i].args.length c)∧I64 xs[i].op∧I64 xs[i].dst∧I64 xs[i].an∧I64 xs[i].bn∧I64 xs[i].fn∧xs[i].args.length*16≤140737488351232∧SliceAt w' 2 kR q xs[i].args:=by
 rcases h with rfl|⟨b,o,hp,h⟩
 ·simp at hi
 obtain⟨cs,_,hc,hr⟩:=h i hi
 obtain⟨v,rfl,w1,w2,w3,w4,w5,hs⟩:=hr
 obtain⟨q,c,rfl,hl2,hs2⟩:=hs.out
 have h0:w.cell? ⟨b,o+i*8,none⟩=some (.int .i64 xs[i].op):=hc 0 (by omega)
 have hl:=q8 h0
 have g:∀j,j<8→w'.cell? ⟨b,o+i*8+j,none⟩=w.cell? ⟨b,o+i*8+j,none⟩:=fun j _=>hb.cell (p:=⟨b,_,none⟩) hl
 exact⟨b,o,q,c,hp,(g 0 (by omega)).trans h0,(g 1 (by omega)).trans (hc 1 (by omega)),(g 2 (by omega)).trans (hc 2 (by omega)),(g 3 (by omega)).trans (hc 3 (by omega)),(g 4 (by omega)).trans (hc 4 (by omega)),(g 5 (by omega)).trans (hc 5 (by omega)),(g 6 (by omega)).trans (hc 6 (by omega)),(g 7 (by omega)).trans (hc 7 (by omega)),w1,w2,w3,w4,w5,hl2,hs2.mono hb (by omega) fun _ _ h=>h⟩
theorem zp {w w':World} {p:Option Addr} {xs:List BlkL} (h:SliceAt w 6 (BlkR w) p xs) (hb:Below w.heap.size w w') {i:Nat} (hi:i<xs.length) :
  ∃b o q1 c1 q2 c2 q3 c3,p=some ⟨b,o,none⟩∧w'.cell? ⟨b,o+i*6,none⟩=some (.slice q1 xs[i].phis.length c1)∧w'.cell? ⟨b,o+i*6+1,none⟩=some (.slice q2 xs[i].list.length c2)∧w'.cell? ⟨b,o+i*6+2,none⟩=some (.int .i64 xs[i].fin.kind)∧w'.cell? ⟨b,o+i*6+3,none⟩=some (.bool xs[i].fin.onr)∧w'.cell? ⟨b,o+i*6+4,none⟩=some (.int .i64 xs[i].fin.onn)∧w'.cell? ⟨b,o+i*6+5,none⟩=some (.slice q3 xs[i].fin.to.length c3)∧I64 xs[i].fin.kind∧I64 xs[i].fin.onn∧
   xs[i].phis.length*32≤140737488351232∧xs[i].list.length*80≤140737488351232∧xs[i].fin.to.length*8≤140737488351232∧SliceAt w' 2 (PhiR w') q1 xs[i].phis∧SliceAt w' 8 (InsR w') q2 xs[i].list∧SliceAt w' 1 ju q3 xs[i].fin.to:=by
 rcases h with rfl|⟨b,o,hp,h⟩
 ·simp at hi
 obtain⟨cs,_,hc,hr⟩:=h i hi
 obtain⟨v1,v2,v3,rfl,w1,w2,hs1,hs2,hs3⟩:=hr
 obtain⟨q1,c1,rfl,l1,t1⟩:=hs1.out
 obtain⟨q2,c2,rfl,l2,t2⟩:=hs2.out
 obtain⟨q3,c3,rfl,l3,t3⟩:=hs3.out
 have h0:w.cell? ⟨b,o+i*6,none⟩=some (.slice q1 xs[i].phis.length c1):=hc 0 (by omega)
 have hl:=q8 h0
 have g:∀j,j<6→w'.cell? ⟨b,o+i*6+j,none⟩=w.cell? ⟨b,o+i*6+j,none⟩:=fun j _=>hb.cell (p:=⟨b,_,none⟩) hl
 exact⟨b,o,q1,c1,q2,c2,q3,c3,hp,(g 0 (by omega)).trans h0,(g 1 (by omega)).trans (hc 1 (by omega)),(g 2 (by omega)).trans (hc 2 (by omega)),(g 3 (by omega)).trans (hc 3 (by omega)),(g 4 (by omega)).trans (hc 4 (by omega)),(g 5 (by omega)).trans (hc 5 (by omega)),w1,w2,l1,l2,l3,t1.mono hb (by omega) fun _ _ h=>h.below hb,t2.mono hb (by omega) fun _ _ h=>h.below hb,t3.mono hb (by omega) fun _ _ h=>h⟩
theorem vU {w w':World} {p:Option Addr} {xs:List FunL} (h:SliceAt w 4 (FunR w) p xs) (hb:Below w.heap.size w w') {i:Nat} (hi:i<xs.length) :
  ∃b o q c,p=some ⟨b,o,none⟩∧w'.cell? ⟨b,o+i*4,none⟩=some (.string xs[i].name)∧w'.cell? ⟨b,o+i*4+1,none⟩=some (.int .i64 xs[i].params)∧w'.cell? ⟨b,o+i*4+2,none⟩=some (.int .i64 xs[i].regs)∧w'.cell? ⟨b,o+i*4+3,none⟩=some (.slice q xs[i].blocks.length c)∧
   xs[i].name.size≤140737488351232∧I64 xs[i].params∧I64 xs[i].regs∧xs[i].blocks.length*96≤140737488351232∧SliceAt w' 6 (BlkR w') q xs[i].blocks:=by
 rcases h with rfl|⟨b,o,hp,h⟩
 ·simp at hi
 obtain⟨cs,_,hc,hr⟩:=h i hi
 obtain⟨v,rfl,w0,w1,w2,hs⟩:=hr
 obtain⟨q,c,rfl,hl2,hs2⟩:=hs.out
 have h0:w.cell? ⟨b,o+i*4,none⟩=some (.string xs[i].name):=hc 0 (by omega)
 have hl:=q8 h0
 have g:∀j,j<4→w'.cell? ⟨b,o+i*4+j,none⟩=w.cell? ⟨b,o+i*4+j,none⟩:=fun j _=>hb.cell (p:=⟨b,_,none⟩) hl
 exact⟨b,o,q,c,hp,(g 0 (by omega)).trans h0,(g 1 (by omega)).trans (hc 1 (by omega)),(g 2 (by omega)).trans (hc 2 (by omega)),(g 3 (by omega)).trans (hc 3 (by omega)),by unfold reachBytes at w0;omega,w1,w2,hl2,hs2.mono hb (by omega) fun _ _ h=>h.below hb⟩
theorem gloGet {w w':World} {p:Option Addr} {xs:List GloL} (h:SliceAt w 3 (GloR w) p xs) (hb:Below w.heap.size w w') {i:Nat} (hi:i<xs.length) :
  ∃b o q c,p=some ⟨b,o,none⟩∧w'.cell? ⟨b,o+i*3,none⟩=some (.string xs[i].name)∧w'.cell? ⟨b,o+i*3+1,none⟩=some (.int .i64 xs[i].size)∧w'.cell? ⟨b,o+i*3+2,none⟩=some (.slice q xs[i].init.length c)∧
   xs[i].name.size≤140737488351232∧I64 xs[i].size∧xs[i].init.length*8≤140737488351232∧SliceAt w' 1 ju q xs[i].init:=by
 rcases h with rfl|⟨b,o,hp,h⟩
 ·simp at hi
 obtain⟨cs,_,hc,hr⟩:=h i hi
 obtain⟨v,rfl,w0,w1,hs⟩:=hr
 obtain⟨q,c,rfl,hl2,hs2⟩:=hs.out
 have h0:w.cell? ⟨b,o+i*3,none⟩=some (.string xs[i].name):=hc 0 (by omega)
 have hl:=q8 h0
 have g:∀j,j<3→w'.cell? ⟨b,o+i*3+j,none⟩=w.cell? ⟨b,o+i*3+j,none⟩:=fun j _=>hb.cell (p:=⟨b,_,none⟩) hl
 exact⟨b,o,q,c,hp,(g 0 (by omega)).trans h0,(g 1 (by omega)).trans (hc 1 (by omega)),(g 2 (by omega)).trans (hc 2 (by omega)),by unfold reachBytes at w0;omega,w1,hl2,hs2.mono hb (by omega) fun _ _ h=>h⟩



def qG (T:List (List Int)):Nat→List (Nat×Nat)
 | 0=>[]
 | i+1=>qG T i++(T.getD i []).map fun t=>(t.toNat,i)
def qN (ps:List (Nat×Nat)) (t:Nat):List Nat:=(ps.filter (·.1 == t)).map (·.2)

theorem Vr (ps:List (Nat×Nat)) (t i:Nat):qN (ps++[(t,i)]) t=qN ps t++[i]:=by
 simp[qN,List.filter_append]
theorem XX (ps:List (Nat×Nat)) {t u:Nat} (i:Nat) (h:u≠t):qN (ps++[(t,i)]) u=qN ps u:=by
 have h2:(t == u)=false:=by simp;omega
 simp[qN,List.filter_append,h2]
theorem kY (ps:List (Nat×Nat)) (t:Nat):(qN ps t).length≤ps.length:=by
 unfold qN;rw[List.length_map];exact List.length_filter_le _ _
theorem vV (T:List (List Int)) (k n:Nat) (hk:k≤n) (h:∀i,i<n→(T.getD i []).length≤2):(qG T k).length≤2*k:=by
 induction k with
 | zero=>simp[qG]
 | succ k ih=>
  have:=ih (by omega)
  have:=h k (by omega)
  simp only[qG,List.length_append,List.length_map]
  omega

structure Rows2 (w:World) (B T:Nat) (n:Nat) (ts ti:TypeId) (ps:List (Nat×Nat)) (f:Nat→Value):Prop where
 tab:w.rowIs T ts n f
 row:∀j,j<n→w.ownsRow B ti 1 (f j) (qN ps j).length ((qN ps j).map fun i:Nat=>.int .i64 (i:Int))
 two:∀j k,j<n→k<n→j≠k→(f j).ownBlock=none∨(f j).ownBlock≠(f k).ownBlock
 low:T<B

theorem Rows2.alloc {w:World} {B T n:Nat} {ts ti:TypeId} {ps:List (Nat×Nat)} {f:Nat→Value} (h:Rows2 w B T n ts ti ps f) (o:Obj):Rows2 (w.alloc o) B T n ts ti ps f:=
 ⟨h.tab.alloc o,fun j hj=>(h.row j hj).alloc o,h.two,h.low⟩
theorem Rows2.drew {w:World} {B T n:Nat} {ts ti:TypeId} {ps:List (Nat×Nat)} {f:Nat→Value} (h:Rows2 w B T n ts ti ps f):Rows2 w.drew B T n ts ti ps f:=
 ⟨h.tab.drew,fun j hj=>(h.row j hj).drew,h.two,h.low⟩

theorem Rows2.made (w:World) (n:Nat) (ts ti:TypeId):Rows2 (w.alloc (.cells (madeCells #[.slice none 0 0] n) ts)) (w.heap.size+1) w.heap.size n ts ti [] (fun _=>.slice none 0 0):=
 ⟨World.rowIs_made w _ n ts,fun j _=>World.ownsRow_nil _ _ _ _,fun _ _ _ _ _=>.inl rfl,by omega⟩

theorem Rows2.put {w w':World} {B T n:Nat} {ts ti:TypeId} {ps:List (Nat×Nat)} {f:Nat→Value} (h:Rows2 w B T n ts ti ps f) (hB:B≤w.heap.size) {t i:Nat} (ht:t<n) {v':Value}
  (hown:w'.ownsRow B ti 1 v' ((qN ps t).length+1) (((qN ps t).map fun i:Nat=>.int .i64 (i:Int))++[.int .i64 (i:Int)])) (hg:w.grownBy w' (f t).ownBlock)
  (hv:v'.ownBlock=(f t).ownBlock∨v'.ownBlock=some w.heap.size) :
  Rows2 (w'.setCell ⟨T,t,none⟩ v') B T n ts ti (ps++[(t,i)]) (fun j=>if j=t then v' else f j):=by
 have hlow:∀j,j<n→∀k,(f j).ownBlock=some k→B≤k∧k<w.heap.size:=fun j hj k hk=>(h.row j hj).lt k hk
 have hT:some T≠(f t).ownBlock:=fun e=>by have:=(hlow t ht T e.symm).1;have:=h.low;omega
 have hTw:T<w.heap.size:=by have:=h.low;omega
 have keep:∀(v:Value) (m:Nat) (xs:List Value),w'.ownsRow B ti 1 v m xs→(w'.setCell ⟨T,t,none⟩ v').ownsRow B ti 1 v m xs:=fun v m xs ho=>by
  refine ho.kept (row:=some T) ⟨rfl,rfl,rfl,by simp[World.setCell],fun k hk hne=>?_⟩ ?_
  ·exact Below.heap_setCell _ _ _ _ (fun e=>hne (by rw[e]))
  cases hb:v.ownBlock with
  | none=>exact .inl rfl
  | some k=>exact .inr (fun e=>by have h1:=(ho.lt k hb).1;have h2:=h.low;injection e with e;omega)
 refine⟨?_,fun j hj=>?_,fun j k hj hk hjk=>?_,h.low⟩
 ·exact(h.tab.of_block (hg.block T hTw hT)).set t v'
 ·by_cases hjt:j=t
  ·subst hjt
   simp only[if_true]
   rw[Vr,List.length_append,List.map_append]
   exact keep _ _ _ hown
  simp only[if_neg hjt]
  rw[XX _ _ hjt]
  exact keep _ _ _ ((h.row j hj).kept hg (h.two j t hj ht hjt))
 show(if j=t then v' else f j).ownBlock=none∨(if j=t then v' else f j).ownBlock≠(if k=t then v' else f k).ownBlock
 by_cases hjt:j=t
 ·have hkt:k≠t:=fun e=>hjk (hjt.trans e.symm)
  rw[if_pos hjt,if_neg hkt]
  rcases hv with e|e
  ·rw[e];exact h.two t k ht hk (fun e=>hkt e.symm)
  refine .inr (fun g=>?_)
  have:=(hlow k hk _ (g.symm.trans e)).2
  omega
 rw[if_neg hjt]
 by_cases hkt:k=t
 ·rw[if_pos hkt]
  rcases hv with e|e
  ·rw[e];exact h.two j t hj ht hjt
  cases hb:(f j).ownBlock with
  | none=>exact .inl rfl
  | some q=>exact .inr (fun g=>by have:=(hlow j hj q hb).2;rw[e]at g;injection g with g;omega)
 rw[if_neg hkt];exact h.two j k hj hk hjk
theorem Rows2.atTab {w w':World} {B T n:Nat} {ts ti:TypeId} {ps:List (Nat×Nat)} {f:Nat→Value} (h:Rows2 w B T n ts ti ps f) {t:Nat} (ht:t<n) (hg:w.grownBy w' (f t).ownBlock):w'.cell? ⟨T,t,none⟩=some (f t)∧w'.frozen? ⟨T,t,none⟩=false:=by
 have hT:some T≠(f t).ownBlock:=fun e=>by have:=((h.row t ht).lt T e.symm).1;have:=h.low;omega
 have hb:=hg.block T h.tab.lt hT
 exact⟨(World.cell?_of_block (a:=⟨T,t,none⟩) hb).trans (h.tab.cell ht),(World.frozen?_of_block (a:=⟨T,t,none⟩) hb).trans (h.tab.frozen t)⟩

theorem X0:Tryz.prog.underlying 44=some (.slice 3):=by kernel_rfl
theorem X1:Tryz.prog.underlying 59=some (.slice 44):=by kernel_rfl
theorem XY:(Tryz.prog.info? 3).map (fun i=>(i.zero,i.size,i.bytes))=some (some (.int .i64 0),1,8):=by kernel_rfl
theorem JG:(Tryz.prog.info? 44).map (fun i=>(i.zero,i.size,i.bytes))=some (some (.slice none 0 0),1,24):=by kernel_rfl

def XZ (w:World) (b o i:Nat) (to:List Int):Prop:=
 ∃p1 l1 c1 p2 l2 c2 k r m p c,w.cell? ⟨b,o+i*6,none⟩=some (.slice p1 l1 c1)∧w.cell? ⟨b,o+i*6+1,none⟩=some (.slice p2 l2 c2)∧w.cell? ⟨b,o+i*6+2,none⟩=some (.int .i64 k)∧
  w.cell? ⟨b,o+i*6+3,none⟩=some (.bool r)∧w.cell? ⟨b,o+i*6+4,none⟩=some (.int .i64 m)∧w.cell? ⟨b,o+i*6+5,none⟩=some (.slice p to.length c)∧SliceAt w 1 ju p to

theorem ahead_any (nm:ByteArray) (params regs:Int) (bb bo bc n:Nat) (TS:List (List Int)) (w:World) (hn:n≤40)
  (hB:∀i,i<n→XZ w bb bo i (TS.getD i []))
  (hE:∀i,i<n→(TS.getD i []).length≤2∧∀t∈TS.getD i [],1≤t∧t<n) :
  Calls Tryz.prog 55 #[.agg #[.string nm,.int .i64 params,.int .i64 regs,.slice (some ⟨bb,bo,none⟩) n bc]] w fun e w'=>
   (∃f:Nat→Value,e = .returned (.slice (some ⟨w.heap.size+1,0,none⟩) n n)∧Rows2 w' (w.heap.size+1+1) (w.heap.size+1) n 44 3 (qG TS n) f)∧Below w.heap.size w w':=by
 obtain⟨i1,k1,k2,k3,k4⟩:=info_parts XY
 obtain⟨i2,l1,l2,l3,l4⟩:=info_parts JG
 have hmk:=run_make_row 59 44 i2 (.slice none 0 0) X1 l1 l2 l3 rfl .i64 .i64 n (by rw[l4];omega) (by omega)
 have HB:Hid (∀i,i<n→XZ w bb bo i (TS.getD i [])):=hB
 have HE:Hid (∀i,i<n→(TS.getD i []).length≤2∧∀t∈TS.getD i [],1≤t∧t<n):=hE
 clear hB hE
 go_enter Tryz.func55,Tryz.ntmps55
 go_wp2
 go_loopw [15] (fun i wr=>∃k:Nat,k≤n∧i = .int .i64 k∧(∃f,Rows2 wr (w.heap.size+1+1) (w.heap.size+1) n 44 3 (qG TS k) f)∧Below w.heap.size w wr) (fun i _=>n - (intOf i).toNat)
 case atStart=>exact⟨0,by omega,rfl,⟨_,by have:=Rows2.made (w.alloc (.cells #[.string nm,.int .i64 params,.int .i64 regs,.slice (some ⟨bb,bo,none⟩) n bc] 37)) n 44 3;simpa[qG]using this⟩,by exact bZ⟩
 case round=>
  obtain⟨k,hk,rfl,⟨f,hR⟩,hb⟩:=hrel
  have HBw:Hid (Below w.heap.size w wr):=hb
  have HR:Hid (Rows2 wr (w.heap.size+1+1) (w.heap.size+1) n 44 3 (qG TS k) f):=hR
  have hsz:w.heap.size+1<wr.heap.size:=hR.tab.lt
  clear hb hR
  by_cases hlt:k<n
  rotate_left
  ·go_wp2
   go_ret
   obtain rfl:k=n:=by omega
   exact⟨⟨f,rfl,HR.out⟩,HBw.out⟩
  obtain⟨p1,m1,c1,p2,m2,c2,kk,r,m,p,c,e0,e1,e2,e3,e4,e5,hto⟩:=HB.out k hlt
  have hbb:=q8 e0
  rw[←HBw.out.cell (p:=⟨bb,bo+k*6,none⟩) hbb]at e0
  rw[←HBw.out.cell (p:=⟨bb,bo+k*6+1,none⟩) hbb]at e1
  rw[←HBw.out.cell (p:=⟨bb,bo+k*6+2,none⟩) hbb]at e2
  rw[←HBw.out.cell (p:=⟨bb,bo+k*6+3,none⟩) hbb]at e3
  rw[←HBw.out.cell (p:=⟨bb,bo+k*6+4,none⟩) hbb]at e4
  rw[←HBw.out.cell (p:=⟨bb,bo+k*6+5,none⟩) hbb]at e5
  obtain⟨hl2,hts⟩:=HE.out k hlt
  have HTO:Hid (SliceAt w 1 ju p (TS.getD k [])):=hto
  have HTS:Hid (∀t∈TS.getD k [],1≤t∧t<n):=hts
  clear hto hts
  generalize hto:TS.getD k []=to at *
  have HK:Hid (TS.getD k []=to):=hto
  clear hto
  go_wp2
  go_loopw [24] (fun i wq=>∃j:Nat,j≤to.length∧i = .int .i64 j∧(∃f,Rows2 wq (w.heap.size+1+1) (w.heap.size+1) n 44 3 (qG TS k++(to.map fun t=>(t.toNat,k)).take j) f)∧Below w.heap.size w wq) (fun i _=>to.length - (intOf i).toNat)
  case atStart=>exact⟨0,by omega,rfl,⟨f,by simpa using HR.out.alloc _⟩,by have:=HBw.out;exact this.alloc (by omega) _⟩
  case round=>
   clear HR HBw e0 e1 e2 e3 e4 e5
   obtain⟨j,hj,rfl,⟨f,hR⟩,hb⟩:=hrel
   have HBw:Hid (Below w.heap.size w wr):=hb
   have HR:Hid (Rows2 wr (w.heap.size+1+1) (w.heap.size+1) n 44 3 (qG TS k++(to.map fun t=>(t.toNat,k)).take j) f):=hR
   have hsz:w.heap.size+1<wr.heap.size:=hR.tab.lt
   clear hb hR
   by_cases hjl:j<to.length
   rotate_left
   ·go_wp2
    obtain rfl:j=to.length:=by omega
    refine⟨⟨k+1,by omega,by go_num,⟨f,?_⟩,HBw.out⟩,by simp[intOf];omega⟩
    have HR2:=HR.out
    rw[List.take_of_length_le (by simp)]at HR2
    unfold qG
    rw[HK.out]
    exact HR2
   obtain⟨t,ht⟩:∃t:Nat,to[j]=(t:Int):=⟨to[j].toNat,by have:=(HTS.out _ (List.getElem_mem hjl)).1;omega⟩
   have htn:t<n:=by have:=(HTS.out _ (List.getElem_mem hjl)).2;omega
   obtain⟨tb,tof,hp,htc⟩:∃tb tof,p=some ⟨tb,tof,none⟩∧wr.cell? ⟨tb,tof+j,none⟩=some (.int .i64 t):=by
    rcases HTO.out with h0|⟨tb,tof,hp,hc⟩
    ·rw[h0]at hjl;simp at hjl
    refine⟨tb,tof,hp,?_⟩
    obtain⟨cs,_,hc,⟨rfl,_⟩⟩:=hc j hjl
    have h2:=hc 0 (by omega)
    simp only[Nat.mul_one,Nat.add_zero,List.getElem?_cons_zero]at h2
    rw[HBw.out.cell (p:=⟨tb,tof+j,none⟩) (q8 h2),h2,ht]
   subst hp
   have hrow:=HR.out.row t htn
   obtain⟨q,qc,hq⟩:∃q qc,f t = .slice q (qN (qG TS k++(to.map fun t=>(t.toNat,k)).take j) t).length qc:=by
    rcases hrow.2 with⟨h1,h2⟩|⟨g,cap,cur,h1,_⟩
    ·refine⟨none,0,?_⟩
     rw[h1,h2]
    exact⟨_,_,h1⟩
   have HQ:Hid (f t = .slice q (qN (qG TS k++(to.map fun t=>(t.toNat,k)).take j) t).length qc):=hq
   have hfc:=HR.out.tab.cell htn
   have hff:=HR.out.tab.frozen t
   rw[hq]at hfc hrow
   clear hq
   have HT:Hid (to[j]?=some (t:Int)):=by show _=_;rw[List.getElem?_eq_getElem hjl,ht]
   clear ht
   have hm2:(qN (qG TS k++(to.map fun t=>(t.toNat,k)).take j) t).length≤2*k+2:=by
    have h1:=kY (qG TS k++(to.map fun t=>(t.toNat,k)).take j) t
    have h2:=vV TS k n hk (fun i hi=>(HE.out i hi).1)
    rw[List.length_append,List.length_take,List.length_map]at h1
    omega
   generalize hm:(qN (qG TS k++(to.map fun t=>(t.toNat,k)).take j) t).length=m at *
   have HM:Hid ((qN (qG TS k++(to.map fun t=>(t.toNat,k)).take j) t).length=m):=hm
   clear hm
   go_wp2_with (at_builtin;refine wpList_append_own_at _ rfl _ _ 44 rfl (w.heap.size+1+1) 3 i1 (.int .i64 0) 1 8 X0 k1 k2 k3 k4 rfl (by decide) _ _ _ rfl (hrow.alloc _) ⟨wr.heap.size,0,none⟩ 1 1 [.int .i64 k] rfl rfl (cell_one_new _ _ _) (by simp[Value.oneCell']) ?_ ?_ ?_ ?_)
   ·unfold maxLen;omega
   ·omega
   ·simp;omega
   intro v' w1 hown' hgrow _ hat
   have HP:=(HR.out.alloc (.cells #[.int .i64 k] 3)).put (i:=k) (by simp;omega) htn (v':=v') (w':=w1) (by rw[HM.out];exact hown') (by rw[HQ.out];exact hgrow) (by rw[HQ.out];simpa using hat)
   obtain⟨q2,c2',hv2⟩:∃q2 c2,v' = .slice q2 (m+1) c2:=by
    rcases hown'.2 with⟨h1,h2⟩|⟨g,cap,cur,h1,_⟩
    ·omega
    exact⟨_,_,h1⟩
   subst hv2
   obtain⟨hc1,hf1⟩:=(HR.out.alloc (.cells #[.int .i64 k] 3)).atTab htn (w':=w1) (by rw[HQ.out];exact hgrow)
   rw[HQ.out]at hc1
   have hbw:=(HBw.out.alloc (by omega) (.cells #[.int .i64 k] 3)).grown hgrow (by simp;omega) (fun kk e=>by have:=(hrow.lt kk e).1;omega)
   have HB2:=q7 hbw
   have HP2:=q7 HP
   clear HP hown' hgrow hat hfc hff htc hrow hbw
   go_wp2
   refine⟨⟨j+1,by omega,by go_num,⟨fun i=>if i=t then Value.slice q2 (m+1) c2' else f i,?_⟩,?_⟩,by simp[intOf];omega⟩
   ·rw[List.take_add_one,List.getElem?_map,HT.out]
    have HP3:=HP2.out
    rw[List.append_assoc]at HP3
    exact HP3
   exact HB2.out.setCell (by show _≤w.heap.size+1;omega) _

def vW (w:World) (p:Option Addr) (S:List ByteArray):Prop:=
 S=[]∨∃b o,p=some ⟨b,o,none⟩∧∀i (h:i<S.length),w.cell? ⟨b,o+i,none⟩=some (.string S[i])

theorem bytes_eq {a b:ByteArray}:(a.toList == b.toList)=true↔a=b:=by
 rw[beq_iff_eq,ByteArray.toList_eq,ByteArray.toList_eq]
 constructor
 ·intro h
  obtain⟨x⟩:=a
  obtain⟨y⟩:=b
  rw[show x=y from Array.toList_inj.1 h]
 rintro rfl;rfl

theorem index_str (b o c n:Nat) (S:Nat→ByteArray) (v:ByteArray) (w:World) (hn:n≤9223372036854775807) (hc:∀i,i<n→w.cell? ⟨b,o+i,none⟩=some (.string (S i))) :
  Calls Tryz.prog 53 #[.slice (some ⟨b,o,none⟩) n c,.string v] w fun e w'=>(∃k:Int,e = .returned (.int .i64 k)∧Hid ((k<0∧∀i,i<n→S i≠v)∨(0≤k∧∃i,i<n∧S i=v)))∧w=w':=by
 go_enter Tryz.func53,Tryz.ntmps53
 go_wp2
 go_loop [8] (fun i=>∃k:Nat,k≤n∧i = .int .i64 k∧∀j,j<k→S j≠v) (fun i=>n - (intOf i).toNat)
 case atStart=>exact⟨0,by omega,rfl,fun j hj=>by omega⟩
 case round=>
  obtain⟨k,hk,rfl,hV⟩:=hrel
  have HV:Hid (∀j,j<k→S j≠v):=hV
  clear hV
  by_cases hlt:k<n
  rotate_left
  ·go_wp2
   go_ret
   refine⟨⟨_,rfl,.inl ⟨by omega,fun i hi=>HV.out i (by omega)⟩⟩,rfl⟩
  have c0:=hc k hlt
  have Hlt:Hid (k<n):=hlt
  generalize hs:S k=s at c0
  have HS:Hid (S k=s):=hs
  clear hs hc
  go_wp2
  ·rename_i hw _
   go_ret
   refine⟨⟨_,rfl,.inr ⟨by simp,k,Hlt.out,?_⟩⟩,rfl⟩
   rw[HS.out]
   exact(bytes_eq.1 hw).symm
  rename_i hw
  refine⟨⟨k+1,by omega,by go_num,fun j hj=>?_⟩,by simp[intOf];omega⟩
  by_cases hj2:j<k
  ·exact HV.out j hj2
  obtain rfl:j=k:=by omega
  rw[HS.out]
  intro he
  rw[bytes_eq.2 he.symm]at hw
  cases hw
theorem index_nil (p:Option Addr) (c:Nat) (v:ByteArray) (w:World) :
  Calls Tryz.prog 53 #[.slice p 0 c,.string v] w fun e w'=>e = .returned (.int .i64 (-1))∧w=w':=by
 go_enter Tryz.func53,Tryz.ntmps53
 go_wp2
 go_loop [8] (fun i=>i = .int .i64 0) (fun _=>0)
 case atStart=>rfl
 case round=>
  subst hrel
  go_wp2
  go_ret
  exact⟨rfl,rfl⟩

def XU (S:List ByteArray) (v:ByteArray):Bool:=S.any fun s=>s.toList == v.toList
theorem hasB_iff {S:List ByteArray} {v:ByteArray}:XU S v=true↔v∈S:=by
 unfold XU
 rw[List.any_eq_true]
 constructor
 ·rintro⟨s,hs,he⟩
  rw[←bytes_eq.1 he];exact hs
 intro h
 exact⟨v,h,bytes_eq.2 rfl⟩
theorem jJ (p:Option Addr) (c:Nat) (S:List ByteArray) (v:ByteArray) (w:World) (hn:S.length≤9223372036854775807) (h:vW w p S) :
  Calls Tryz.prog 26 #[.slice p S.length c,.string v] w fun e w'=>e = .returned (.bool (XU S v))∧w=w':=by
 rcases h with rfl|⟨b,o,rfl,h⟩
 ·go_enter Tryz.func26,Tryz.ntmps26
  go_wp2_with (go_at_call 53;refine(index_nil _ _ _ _).mono ?_;rintro e w1 ⟨rfl,rfl⟩)
  go_ret
  exact⟨by simp[XU],rfl⟩
 have HC:Hid (∀i,i<S.length→w.cell? ⟨b,o+i,none⟩=some (.string (S.getD i ByteArray.empty))):=fun i hi=>by
  rw[h i hi];simp[List.getD,hi]
 clear h
 go_enter Tryz.func26,Tryz.ntmps26
 go_wp2_with fail
 refine(index_str _ _ _ _ (fun i=>S.getD i ByteArray.empty) _ _ hn HC.out).mono ?_
 rintro e w1 ⟨⟨k,rfl,hk⟩,rfl⟩
 by_cases hk0:0≤k
 ·have HB:Hid (XU S v=true):=by
   show _=_
   rcases hk.out with⟨h1,_⟩|⟨_,i,hi,hs⟩
   ·omega
   rw[hasB_iff,←hs]
   simp[List.getD,hi]
  clear hk
  go_wp2
  go_ret
  exact⟨by rw[HB.out];simp,rfl⟩
 have HB:Hid (XU S v=false):=by
  show _=_
  rcases hk.out with⟨_,h2⟩|⟨h1,_⟩
  ·rw[Bool.eq_false_iff]
   intro hb
   have hm:=hasB_iff.1 hb
   obtain⟨i,hi,he⟩:=List.mem_iff_getElem.1 hm
   exact h2 i hi (by simp[List.getD,hi,he])
  omega
 clear hk
 go_wp2
 go_ret
 exact⟨by rw[HB.out];simp;omega,rfl⟩
end Go.Proofs.YtecdphhdmjmmnaaGreatDoor
