/-
  The contract of slices.IndexFunc with the question whether a function is main.
-/
import Derived.Test.YtgjjhadbjmcnpaaGreatDoorJChkG
import Derived.Deep.OwnRows
import Derived.OwnWalk
import Derived.Maps.AppendAt
import Derived.IntWalk
set_option maxRecDepth 100000
set_option maxHeartbeats 16000000
namespace Go.Proofs.YtgjjhadbjmcnpaaGreatDoor
open Go.RowKit

def shD (op:Int):Bool:=decide (1<=op/\op<=22/\op≠19/\op≠22)
def shA (op:Int):Bool:=decide (1<=op/\op<=22/\op≠20/\op≠21)
def shB (op:Int):Bool:=decide ((2<=op/\op<=15)\/op=19)

theorem Xe (op:Int) (w:World) (h:1<=op/\op<=22) :
  Calls Tryz.prog 83 #[Z op] w fun e w'=>e = .returned (.agg #[.bool (shD op),.bool (shA op),.bool (shB op)])/\w'=w.alloc (.cells #[.bool (shD op),.bool (shA op),.bool (shB op)] 126):=by
 obtain hc|hc:(2<=op/\op<=15)\/(op=1\/op=16\/op=17\/op=18\/op=19\/op=20\/op=21\/op=22):=by omega
 ·have hD:shD op=true:=by simp[shD];omega
  have hA:shA op=true:=by simp[shA];omega
  have hB:shB op=true:=by simp[shB];omega
  rw[hD,hA,hB];have h1:(op == 1)=false:=by rw[beq_eq_false_iff_ne];omega
  have h2:(op == 16)=false:=by rw[beq_eq_false_iff_ne];omega
  have h3:(op == 17)=false:=by rw[beq_eq_false_iff_ne];omega
  have h4:(op == 18)=false:=by rw[beq_eq_false_iff_ne];omega
  go_enter Tryz.func83,Tryz.ntmps83
  go_wp2
  all_goals (refine zk ?_ rfl ⟨rfl,rfl⟩;simp[results,Tryz.results83,go_sem])
 rcases hc with rfl|rfl|rfl|rfl|rfl|rfl|rfl|rfl
 all_goals
  go_enter Tryz.func83,Tryz.ntmps83
  go_wp2
  (refine zk ?_ rfl ⟨rfl,rfl⟩;simp[results,Tryz.results83,go_sem,shD,shA,shB])

def jX (regs:Int) (nf:Nat) (P:Nat->Int) (op dst an bn fn:Int) (ar br:Bool) (L:List (Bool×Int)):Int:=
 if ¬(1<=op/\op<=22)then 4
 else if(shD op=false/\dst≠-1)\/(shA op=false/\¬(ar=false/\an=0))\/(shB op=false/\¬(br=false/\bn=0))\/(op≠20/\(fn≠0\/0<L.length))then 5
 else if shD op=true/\¬(op=20/\dst = -1)/\k7 regs dst≠0 then k7 regs dst
 else qD [xt regs ar an,xt regs br bn,jf regs nf P (op == 20) fn L]

theorem ins_kind (g1 f1 b1 a1 p:Option Addr) (g2 g3 f2 f3 b2 b3 a2 a3 c:Nat) (nm:ByteArray) (params regs op dst an bn fn:Int) (ar br:Bool) (P:Nat->Int) (L:List (Bool×Int)) (w:World) (h:¬(1<=op/\op<=22)) :
  Calls Tryz.prog 60 #[.agg #[.slice g1 g2 g3,.slice f1 f2 f3,.string nm,Z params,Z regs,.slice b1 b2 b3,.slice a1 a2 a3],.agg #[Z op,Z dst,.bool ar,Z an,.bool br,Z bn,Z fn,.slice p L.length c]] w fun e w'=>e = .returned (Z (jX regs f2 P op dst an bn fn ar br L))/\Below w.heap.size w w':=by
 have hw:xT op 1 22=false:=by simp only[xT,xA];exact h
 have HV:Hid (jX regs f2 P op dst an bn fn ar br L=4):=by show _=_;unfold jX;rw[zZ h]
 clear h
 go_enter Tryz.func60,Tryz.ntmps60
 go_wp2_with (go_at_call 26;refine(qJ _ _ _ _).mono ?_;rintro e w1 ⟨rfl,rfl⟩)
 go_ret
 refine⟨by rw[HV.out];rfl,?_⟩;exact bZ

theorem vu {regs:Int} {nf:Nat} {P:Nat->Int} {op dst an bn fn:Int} {ar br:Bool} {L:List (Bool×Int)} (h:1<=op/\op<=22)
  (g:(shD op=false/\dst≠-1)\/(shA op=false/\¬(ar=false/\an=0))\/(shB op=false/\¬(br=false/\bn=0))\/(op≠20/\(fn≠0\/0<L.length))):jX regs nf P op dst an bn fn ar br L=5:=by
 unfold jX;rw[zQ (fun x=>x h),zZ g]
theorem insE_2 {regs:Int} {nf:Nat} {P:Nat->Int} {op dst an bn fn:Int} {ar br:Bool} {L:List (Bool×Int)} (h:1<=op/\op<=22)
  (gd:shD op=true\/dst = -1) (ga:shA op=true\/(¬ar=true/\an=0)) (gb:shB op=true\/(¬br=true/\bn=0)) (gf:(!op == 20)=false\/(fn=0/\¬0<L.length)) :
  jX regs nf P op dst an bn fn ar br L=if shD op=true/\¬(op=20/\dst = -1)/\k7 regs dst≠0 then k7 regs dst else qD [xt regs ar an,xt regs br bn,jf regs nf P (op == 20) fn L]:=by
 unfold jX;rw[zQ (fun x=>x h),zQ];rintro(⟨x,y⟩|⟨x,y⟩|⟨x,y⟩|⟨x,y⟩)
 ·rcases gd with g|g
  ·rw[x]at g;cases g
  exact y g
 ·rcases ga with g|⟨g,k⟩
  ·rw[x]at g;cases g
  exact y ⟨by simpa using g,k⟩
 ·rcases gb with g|⟨g,k⟩
  ·rw[x]at g;cases g
  exact y ⟨by simpa using g,k⟩
 rcases gf with g|⟨g,k⟩
 ·simp at g;exact x g
 rcases y with y|y
 ·exact y g
 exact k y

theorem ins_d0 (g1 f1 b1 a1 p:Option Addr) (g2 g3 f2 f3 b2 b3 a2 a3 c:Nat) (nm:ByteArray) (params regs op dst an bn fn:Int) (ar br d a b:Bool) (P:Nat->Int) (L:List (Bool×Int)) (w:World) (h:1<=op/\op<=22)
  (hf:f2<=9223372036854775807) (h1:0<=regs) (h2:regs<=9223372036854775807)
  (hP:f2=0\/∃fb fo,f1=some (J fb fo)/\∀i,i<f2->w.cell? (J fb (fo+i*4+1))=some (Z (P i))) (hl2:L.length<=9223372036854775807) (hL:SliceAt w 2 kc p L)
  (hd:shD op=d) (ha:shA op=a) (hb:shB op=b) (hd0:d=false) :
  Calls Tryz.prog 60 #[.agg #[.slice g1 g2 g3,.slice f1 f2 f3,.string nm,Z params,Z regs,.slice b1 b2 b3,.slice a1 a2 a3],.agg #[Z op,Z dst,.bool ar,Z an,.bool br,Z bn,Z fn,.slice p L.length c]] w fun e w'=>e = .returned (Z (jX regs f2 P op dst an bn fn ar br L))/\Below w.heap.size w w':=by
 have hw:xT op 1 22=true:=by simp only[xT,yY];exact h
 have hs:=fun w=>Xe op w h;have E1:Hid (¬dst = -1->jX regs f2 P op dst an bn fn ar br L=5):=fun x=>vu h (.inl ⟨hd.trans hd0,x⟩);have E2:Hid (¬a=true->ar=true->jX regs f2 P op dst an bn fn ar br L=5):=fun x y=>vu h (.inr (.inl ⟨by rw[ha];simpa using x,by rw[y];simp⟩));have E3:Hid (¬a=true->¬an=0->jX regs f2 P op dst an bn fn ar br L=5):=fun x y=>vu h (.inr (.inl ⟨by rw[ha];simpa using x,fun z=>y z.2⟩));have E4:Hid (¬b=true->br=true->jX regs f2 P op dst an bn fn ar br L=5):=fun x y=>vu h (.inr (.inr (.inl ⟨by rw[hb];simpa using x,by rw[y];simp⟩)));have E5:Hid (¬b=true->¬bn=0->jX regs f2 P op dst an bn fn ar br L=5):=fun x y=>vu h (.inr (.inr (.inl ⟨by rw[hb];simpa using x,fun z=>y z.2⟩)));have E6:Hid ((!op == 20)=true->¬fn=0->jX regs f2 P op dst an bn fn ar br L=5):=fun x y=>vu h (.inr (.inr (.inr ⟨by simpa using x,.inl y⟩)));have E7:Hid (((!op == 20)=true/\0<L.length)->jX regs f2 P op dst an bn fn ar br L=5):=fun x=>vu h (.inr (.inr (.inr ⟨by simpa using x.1,.inr x.2⟩)))
 have E8:Hid (dst = -1->(a=true\/(¬ar=true/\an=0))->(b=true\/(¬br=true/\bn=0))->((!op == 20)=false\/(fn=0/\¬0<L.length))->jX regs f2 P op dst an bn fn ar br L=qD [xt regs ar an,xt regs br bn,jf regs f2 P (op == 20) fn L]):=fun x y z u=>by
  rw[insE_2 h (.inr x) (by rw[ha];exact y) (by rw[hb];exact z) u,zQ];rw[hd,hd0];simp
 rw[hd,ha,hb]at hs;have HS:Hid (∀w,Calls Tryz.prog 83 #[Z op] w fun e w'=>e = .returned (.agg #[.bool d,.bool a,.bool b])/\w'=w.alloc (.cells #[.bool d,.bool a,.bool b] 126)):=hs;have HP:Hid (f2=0\/∃fb fo,f1=some (J fb fo)/\∀i,i<f2->w.cell? (J fb (fo+i*4+1))=some (Z (P i))):=hP;have HL:Hid (SliceAt w 2 kc p L):=hL;subst hd0;generalize hl:L.length=l at *;have HZ:Hid (L.length=l):=hl;clear hs hd ha hb h hP hL hl
 go_enter Tryz.func60,Tryz.ntmps60
 go_wp2_with (first|(go_at_call 26;refine(qJ _ _ _ _).mono ?_;rintro e w1 ⟨rfl,rfl⟩)|(go_at_call 83;refine(HS.out _).mono ?_;rintro e w1 ⟨rfl,rfl⟩))
 all_goals first
  | (go_ret;(have hE:jX regs f2 P op dst an bn fn ar br L=5:=by first|exact E1.out ‹¬dst = -1›|exact E2.out ‹¬a=true› ‹ar=true›|exact E3.out ‹¬a=true› ‹¬an=0›|exact E4.out ‹¬b=true› ‹br=true›|exact E5.out ‹¬b=true› ‹¬bn=0›|exact E6.out ‹(!op == 20)=true› ‹¬fn=0›|exact E7.out ‹(!op == 20)=true/\0<l›);refine⟨by rw[hE];rfl,?_⟩;exact bZ)
  | skip
 all_goals
  have hE:jX regs f2 P op dst an bn fn ar br L=qD [xt regs ar an,xt regs br bn,jf regs f2 P (op == 20) fn L]:=by
   refine E8.out ‹dst = -1› ?_ ?_ ?_
   ·first|exact .inl ‹a=true›|exact .inr ⟨‹¬ar=true›,‹an=0›⟩
   ·first|exact .inl ‹b=true›|exact .inr ⟨‹¬br=true›,‹bn=0›⟩
   first|exact .inl ‹(!op == 20)=false›|(refine .inl ?_;have g:=‹op=20›;simp[g];done)|exact .inr ⟨‹fn=0›,‹¬0<l›⟩|(rcases ‹(!op == 20)=false\/¬0<l› with g|g;(exact .inl g);exact .inr ⟨‹fn=0›,g⟩)
  clear E1 E2 E3 E4 E5 E6 E7 E8 HS
  (have g:=HZ.out;subst g)
  generalize hv:qD [xt regs ar an,xt regs br bn,jf regs f2 P (op == 20) fn L]=v at hE;have HVV:Hid (qD [xt regs ar an,xt regs br bn,jf regs f2 P (op == 20) fn L]=v):=hv;clear hv;refine(Ju _ _ _ ⟨w.heap.size,0,none⟩ ⟨w.heap.size+1,0,none⟩ ⟨w.heap.size+1+1+1+1,0,none⟩ _ _ _ _ ?g0 ?g1 ?g2 (Jv (g1:=g1) (g2:=g2) (g3:=g3) (f1:=f1) (f2:=f2) (f3:=f3) (nm:=nm) (params:=params) (regs:=regs) (b1:=b1) (b2:=b2) (b3:=b3) (a1:=a1) (a2:=a2) (a3:=a3) (op:=op) (dst:=dst) (an:=an) (bn:=bn) (fn:=fn) (ar:=ar) (br:=br) (p:=p) (c:=c) (l:=L.length) ?hB ?hX h1 h2) (Jw ?hB ?hX h1 h2) (Jy (call:=op == 20) P L ?hB ?hX ?hC hf h1 h2 ?hP hl2 ?hL)).mono ?fin
  case g0=>exact((blk (qr bV)).1 0).trans rfl
  case g1=>exact((blk (qr bV)).1 1).trans rfl
  case g2=>exact((blk (qr bV)).1 2).trans rfl
  case hB=>(repeat (first|exact qr bV|refine qh ?_))
  case hX=>
   (try (have g:=‹dst = -1›;subst g))
   (try (have g:=‹an=0›;subst g))
   (try (have g:=‹bn=0›;subst g))
   (try (have g:=‹fn=0›;subst g))
   (try (have g:=‹op=20›;subst g))
   (try (have g:=Bool.eq_false_iff.2 ‹¬ar=true›;subst g))
   (try (have g:=Bool.eq_false_iff.2 ‹¬br=true›;subst g))
   repeat (first|exact qr bV|refine qh ?_)
  case hC=>
   refine Eq.trans ((blk (qh (qr bV))).1 0) ?_
   first|rfl|(have g:=‹op=20›;subst g;rfl)|(have g:=‹(!op == 20)=false›;simp only[Bool.not_eq_false']at g;rw[g];rfl)|(have g:=‹(!op == 20)=true›;simp only[Bool.not_eq_true']at g;rw[g];rfl)
  case hL=>exact HL.out.to (by decide) bZ (fun _ _ _ h=>h)
  case hP=>
   rcases HP.out with g|⟨fb,fo,g,k⟩
   ·exact .inl g
   refine .inr ⟨fb,fo,g,fun i hi=>?_⟩;refine Eq.trans (Below.cell (B:=w.heap.size) (w:=w) ?_ (p:=(J fb (fo+i*4+1))) (q9 (k i hi))) (k i hi);exact bZ
  case fin=>
   rintro e w4 ⟨rfl,hb4⟩;rw[HVV.out]
   go_wp2
   go_ret
   refine⟨by rw[hE];rfl,?_⟩;exact bZ

theorem ins_d1 (g1 f1 b1 a1 p:Option Addr) (g2 g3 f2 f3 b2 b3 a2 a3 c:Nat) (nm:ByteArray) (params regs op dst an bn fn:Int) (ar br d a b:Bool) (P:Nat->Int) (L:List (Bool×Int)) (w:World) (h:1<=op/\op<=22)
  (hf:f2<=9223372036854775807) (h1:0<=regs) (h2:regs<=9223372036854775807)
  (hP:f2=0\/∃fb fo,f1=some (J fb fo)/\∀i,i<f2->w.cell? (J fb (fo+i*4+1))=some (Z (P i))) (hl2:L.length<=9223372036854775807) (hL:SliceAt w 2 kc p L)
  (hd:shD op=d) (ha:shA op=a) (hb:shB op=b) (hd0:d=true) :
  Calls Tryz.prog 60 #[.agg #[.slice g1 g2 g3,.slice f1 f2 f3,.string nm,Z params,Z regs,.slice b1 b2 b3,.slice a1 a2 a3],.agg #[Z op,Z dst,.bool ar,Z an,.bool br,Z bn,Z fn,.slice p L.length c]] w fun e w'=>e = .returned (Z (jX regs f2 P op dst an bn fn ar br L))/\Below w.heap.size w w':=by
 have hw:xT op 1 22=true:=by simp only[xT,yY];exact h
 have hs:=fun w=>Xe op w h;have E2:Hid (¬a=true->ar=true->jX regs f2 P op dst an bn fn ar br L=5):=fun x y=>vu h (.inr (.inl ⟨by rw[ha];simpa using x,by rw[y];simp⟩));have E3:Hid (¬a=true->¬an=0->jX regs f2 P op dst an bn fn ar br L=5):=fun x y=>vu h (.inr (.inl ⟨by rw[ha];simpa using x,fun z=>y z.2⟩));have E4:Hid (¬b=true->br=true->jX regs f2 P op dst an bn fn ar br L=5):=fun x y=>vu h (.inr (.inr (.inl ⟨by rw[hb];simpa using x,by rw[y];simp⟩)));have E5:Hid (¬b=true->¬bn=0->jX regs f2 P op dst an bn fn ar br L=5):=fun x y=>vu h (.inr (.inr (.inl ⟨by rw[hb];simpa using x,fun z=>y z.2⟩)));have E6:Hid ((!op == 20)=true->¬fn=0->jX regs f2 P op dst an bn fn ar br L=5):=fun x y=>vu h (.inr (.inr (.inr ⟨by simpa using x,.inl y⟩)));have E7:Hid (((!op == 20)=true/\0<L.length)->jX regs f2 P op dst an bn fn ar br L=5):=fun x=>vu h (.inr (.inr (.inr ⟨by simpa using x.1,.inr x.2⟩)))
 have E8:Hid ((a=true\/(¬ar=true/\an=0))->(b=true\/(¬br=true/\bn=0))->((!op == 20)=false\/(fn=0/\¬0<L.length))->jX regs f2 P op dst an bn fn ar br L=if ¬(op=20/\dst = -1)/\k7 regs dst≠0 then k7 regs dst else qD [xt regs ar an,xt regs br bn,jf regs f2 P (op == 20) fn L]):=fun y z u=>by
  rw[insE_2 h (.inl (hd.trans hd0)) (by rw[ha];exact y) (by rw[hb];exact z) u];simp[hd,hd0]
 rw[hd,ha,hb]at hs;have HS:Hid (∀w,Calls Tryz.prog 83 #[Z op] w fun e w'=>e = .returned (.agg #[.bool d,.bool a,.bool b])/\w'=w.alloc (.cells #[.bool d,.bool a,.bool b] 126)):=hs;have HP:Hid (f2=0\/∃fb fo,f1=some (J fb fo)/\∀i,i<f2->w.cell? (J fb (fo+i*4+1))=some (Z (P i))):=hP;have HL:Hid (SliceAt w 2 kc p L):=hL;subst hd0;generalize hl:L.length=l at *;have HZ:Hid (L.length=l):=hl;clear hs hd ha hb h hP hL hl
 go_enter Tryz.func60,Tryz.ntmps60
 go_wp2_with (first|(go_at_call 26;refine(qJ _ _ _ _).mono ?_;rintro e w1 ⟨rfl,rfl⟩)|(go_at_call 83;refine(HS.out _).mono ?_;rintro e w1 ⟨rfl,rfl⟩)|(go_at_call 82;refine(Zm _ _ _ _ _ _ _ _ _ _ _ _ _ _ _ _ _ h1 h2).mono ?_;rintro e w3 ⟨rfl,hb3⟩;have hz3:=hb3.size;simp at hz3))
 all_goals first
  | (go_ret;(have hE:jX regs f2 P op dst an bn fn ar br L=5:=by first|exact E2.out ‹¬a=true› ‹ar=true›|exact E3.out ‹¬a=true› ‹¬an=0›|exact E4.out ‹¬b=true› ‹br=true›|exact E5.out ‹¬b=true› ‹¬bn=0›|exact E6.out ‹(!op == 20)=true› ‹¬fn=0›|exact E7.out ‹(!op == 20)=true/\0<l›);refine⟨by rw[hE];rfl,?_⟩;exact bZ)
  | skip
 all_goals try
  have hED:jX regs f2 P op dst an bn fn ar br L=k7 regs dst:=by
   have gd:=‹(k7 regs dst != 0)=true›;refine(E8.out ?_ ?_ ?_).trans (zZ ⟨?_,by simpa using gd⟩)
   ·first|exact .inl ‹a=true›|exact .inr ⟨‹¬ar=true›,‹an=0›⟩
   ·first|exact .inl ‹b=true›|exact .inr ⟨‹¬br=true›,‹bn=0›⟩
   ·first|exact .inl ‹(!op == 20)=false›|(refine .inl ?_;have g:=‹op=20›;simp[g];done)|exact .inr ⟨‹fn=0›,‹¬0<l›⟩|(rcases ‹(!op == 20)=false\/¬0<l› with g|g;(exact .inl g);exact .inr ⟨‹fn=0›,g⟩)
   first|exact fun g=>‹¬op=20› g.1|(have g:=‹(!dst == -1)=true›;simp at g;exact fun h=>g h.2)
  go_ret
  refine⟨by rw[hED];rfl,?_⟩;exact bZ
  done
 all_goals
  have hE:jX regs f2 P op dst an bn fn ar br L=qD [xt regs ar an,xt regs br bn,jf regs f2 P (op == 20) fn L]:=by
   refine(E8.out ?_ ?_ ?_).trans (zQ ?_)
   ·first|exact .inl ‹a=true›|exact .inr ⟨‹¬ar=true›,‹an=0›⟩
   ·first|exact .inl ‹b=true›|exact .inr ⟨‹¬br=true›,‹bn=0›⟩
   ·first|exact .inl ‹(!op == 20)=false›|(refine .inl ?_;have g:=‹op=20›;simp[g];done)|exact .inr ⟨‹fn=0›,‹¬0<l›⟩|(rcases ‹(!op == 20)=false\/¬0<l› with g|g;(exact .inl g);exact .inr ⟨‹fn=0›,g⟩)
   first|(have gd:=‹(k7 regs dst != 0)=false›;exact fun g=>g.2 (by simpa using gd))|(have gd:=‹(!dst == -1)=false›;exact fun g=>g.1 ⟨‹op=20›,by simpa using gd⟩)
  clear E2 E3 E4 E5 E6 E7 E8 HS
  (have g:=HZ.out;subst g)
  generalize hv:qD [xt regs ar an,xt regs br bn,jf regs f2 P (op == 20) fn L]=v at hE;have HVV:Hid (qD [xt regs ar an,xt regs br bn,jf regs f2 P (op == 20) fn L]=v):=hv;clear hv;refine(Ju _ _ _ ⟨w.heap.size,0,none⟩ ⟨w.heap.size+1,0,none⟩ ⟨w.heap.size+1+1+1+1,0,none⟩ _ _ _ _ ?g0 ?g1 ?g2 (Jv (g1:=g1) (g2:=g2) (g3:=g3) (f1:=f1) (f2:=f2) (f3:=f3) (nm:=nm) (params:=params) (regs:=regs) (b1:=b1) (b2:=b2) (b3:=b3) (a1:=a1) (a2:=a2) (a3:=a3) (op:=op) (dst:=dst) (an:=an) (bn:=bn) (fn:=fn) (ar:=ar) (br:=br) (p:=p) (c:=c) (l:=L.length) ?hB ?hX h1 h2) (Jw ?hB ?hX h1 h2) (Jy (call:=op == 20) P L ?hB ?hX ?hC hf h1 h2 ?hP hl2 ?hL)).mono ?fin
  case g0=>exact((blk (qr bV)).1 0).trans rfl
  case g1=>exact((blk (qr bV)).1 1).trans rfl
  case g2=>exact((blk (qr bV)).1 2).trans rfl
  case hB=>(repeat (first|exact qr bV|refine qg hb3 (by first|(simp;done)|(simp;omega)) ?_|refine qh ?_))
  case hX=>
   (try (have g:=‹(!dst == -1)=false›;simp only[Bool.not_eq_false',beq_iff_eq]at g;subst g))
   (try (have g:=‹an=0›;subst g))
   (try (have g:=‹bn=0›;subst g))
   (try (have g:=‹fn=0›;subst g))
   (try (have g:=‹op=20›;subst g))
   (try (have g:=Bool.eq_false_iff.2 ‹¬ar=true›;subst g))
   (try (have g:=Bool.eq_false_iff.2 ‹¬br=true›;subst g))
   repeat (first|exact qr bV|refine qg hb3 (by first|(simp;done)|(simp;omega)) ?_|refine qh ?_)
  case hC=>
   first|refine Eq.trans ((blk (qh (qg hb3 (by first|(simp;done)|(simp;omega)) (qr bV)))).1 0) ?_|refine Eq.trans ((blk (qh (qr bV))).1 0) ?_
   first|rfl|(have g:=‹op=20›;subst g;rfl)|(have g:=‹(!op == 20)=false›;simp only[Bool.not_eq_false']at g;rw[g];rfl)|(have g:=‹(!op == 20)=true›;simp only[Bool.not_eq_true']at g;rw[g];rfl)
  case hL=>exact HL.out.to (by decide) bZ (fun _ _ _ h=>h)
  case hP=>
   rcases HP.out with g|⟨fb,fo,g,k⟩
   ·exact .inl g
   refine .inr ⟨fb,fo,g,fun i hi=>?_⟩;refine Eq.trans (Below.cell (B:=w.heap.size) (w:=w) ?_ (p:=(J fb (fo+i*4+1))) (q9 (k i hi))) (k i hi);exact bZ
  case fin=>
   rintro e w4 ⟨rfl,hb4⟩;rw[HVV.out]
   go_wp2
   go_ret
   refine⟨by rw[hE];rfl,?_⟩;exact bZ

theorem ins_any (g1 f1 b1 a1 p:Option Addr) (g2 g3 f2 f3 b2 b3 a2 a3 c:Nat) (nm:ByteArray) (params regs op dst an bn fn:Int) (ar br:Bool) (P:Nat->Int) (L:List (Bool×Int)) (w:World)
  (hf:f2<=9223372036854775807) (h1:0<=regs) (h2:regs<=9223372036854775807)
  (hP:f2=0\/∃fb fo,f1=some (J fb fo)/\∀i,i<f2->w.cell? (J fb (fo+i*4+1))=some (Z (P i))) (hl2:L.length<=9223372036854775807) (hL:SliceAt w 2 kc p L) :
  Calls Tryz.prog 60 #[.agg #[.slice g1 g2 g3,.slice f1 f2 f3,.string nm,Z params,Z regs,.slice b1 b2 b3,.slice a1 a2 a3],.agg #[Z op,Z dst,.bool ar,Z an,.bool br,Z bn,Z fn,.slice p L.length c]] w fun e w'=>e = .returned (Z (jX regs f2 P op dst an bn fn ar br L))/\Below w.heap.size w w':=by
 by_cases h:1<=op/\op<=22
 ·cases hd:shD op
  ·exact ins_d0 _ _ _ _ _ _ _ _ _ _ _ _ _ _ _ _ _ _ _ _ _ _ _ _ _ _ _ P L w h hf h1 h2 hP hl2 hL hd rfl rfl rfl
  exact ins_d1 _ _ _ _ _ _ _ _ _ _ _ _ _ _ _ _ _ _ _ _ _ _ _ _ _ _ _ P L w h hf h1 h2 hP hl2 hL hd rfl rfl rfl
 exact ins_kind _ _ _ _ _ _ _ _ _ _ _ _ _ _ _ _ _ _ _ _ _ _ _ _ P L w h

theorem q8 {p:Prop} (h:p):Hid p:=h

theorem qd {w:World} {b:Nat} {o:Obj} (h:w.heap[b]?=some o):b<w.heap.size:=by
 rcases yq b w.heap.size with g|g
 ·exact g
 rw[Array.getElem?_eq_none g]at h;cases h

theorem SliceAt.mono {α:Type} {w w':World} {size:Nat} {R R':List Value->α->Prop} {p:Option Addr} {xs:List α} (h:SliceAt w size R p xs) (hb:Below w.heap.size w w') (_hs:0<size) (hR:∀cs x,R cs x->R' cs x):SliceAt w' size R' p xs:=by
 rcases h with h|⟨b,o,hp,h⟩
 ·exact .inl h
 refine .inr ⟨b,o,hp,fun i hi=>?_⟩;obtain⟨cs,hl,hc,hr⟩:=h i hi;refine⟨cs,hl,fun j hj=>?_,hR _ _ hr⟩;have hc0:=hc j hj;rw[zj bO]at hc0;rw[hb.cell (p:=(J b (o+i*size+j))) (q9 hc0),hc j hj]
theorem SlF.mono {α:Type} {w w':World} {size bytes:Nat} {R R':List Value->α->Prop} {v:Value} {xs:List α} (h:SlF w size bytes R v xs) (hb:Below w.heap.size w w') (hs:0<size) (hR:∀cs x,R cs x->R' cs x):SlF w' size bytes R' v xs:=by
 obtain⟨p,c,h1,h2,h3,h4,h5⟩:=h;exact⟨p,c,h1,h2,h3,h4,h5.mono hb hs hR⟩
theorem InsR.below {w w':World} {cs:List Value} {x:InsL} (h:InsR w cs x) (hb:Below w.heap.size w w'):InsR w' cs x:=by
 obtain⟨v,h0,h1,h2,h3,h4,h5,h6⟩:=h;exact⟨v,h0,h1,h2,h3,h4,h5,h6.mono hb bO fun _ _ h=>h⟩
theorem PhiR.below {w w':World} {cs:List Value} {x:PhiL} (h:PhiR w cs x) (hb:Below w.heap.size w w'):PhiR w' cs x:=by
 obtain⟨v,h0,h1,h6⟩:=h;exact⟨v,h0,h1,h6.mono hb bO fun _ _ h=>h⟩
theorem BlkR.below {w w':World} {cs:List Value} {x:BlkL} (h:BlkR w cs x) (hb:Below w.heap.size w w'):BlkR w' cs x:=by
 obtain⟨v1,v2,v3,h0,h1,h2,h3,h4,h5⟩:=h;exact⟨v1,v2,v3,h0,h1,h2,h3.mono hb bO fun _ _ h=>h.below hb,h4.mono hb bO fun _ _ h=>h.below hb,h5.mono hb bO fun _ _ h=>h⟩
theorem FunR.below {w w':World} {cs:List Value} {x:FunL} (h:FunR w cs x) (hb:Below w.heap.size w w'):FunR w' cs x:=by
 obtain⟨v,h0,h1,h2,h3,h4⟩:=h;exact⟨v,h0,h1,h2,h3,h4.mono hb bO fun _ _ h=>h.below hb⟩
theorem GloR.below {w w':World} {cs:List Value} {x:GloL} (h:GloR w cs x) (hb:Below w.heap.size w w'):GloR w' cs x:=by
 obtain⟨v,h0,h1,h2,h3⟩:=h;exact⟨v,h0,h1,h2,h3.mono hb bO fun _ _ h=>h⟩

theorem jg {w w':World} {p:Option Addr} {xs:List GloL} (h:SliceAt w 3 (GloR w) p xs) (hb:Below w.heap.size w w'):SliceAt w' 3 (GloR w') p xs:=h.mono hb bO fun _ _ h=>h.below hb
theorem vQ {w w':World} {p:Option Addr} {xs:List FunL} (h:SliceAt w 4 (FunR w) p xs) (hb:Below w.heap.size w w'):SliceAt w' 4 (FunR w') p xs:=h.mono hb bO fun _ _ h=>h.below hb
theorem jY {w w':World} {p:Option Addr} {xs:List BlkL} (h:SliceAt w 6 (BlkR w) p xs) (hb:Below w.heap.size w w'):SliceAt w' 6 (BlkR w') p xs:=h.mono hb bO fun _ _ h=>h.below hb
theorem SlF.out {α:Type} {w:World} {size bytes:Nat} {R:List Value->α->Prop} {v:Value} {xs:List α} (h:SlF w size bytes R v xs):∃p c,v = .slice p xs.length c/\xs.length*bytes<=140737488351232/\SliceAt w size R p xs:=by
 obtain⟨p,c,h1,_,_,h4,h5⟩:=h;exact⟨p,c,h1,by unfold reachBytes at h4;exact h4,h5⟩

theorem Km {w w':World} {p:Option Addr} {xs:List Int} (h:SliceAt w 1 jM p xs) (hb:Below w.heap.size w w') {i:Nat} (hi:i<xs.length) :
  ∃b o,p=some (J b o)/\w'.cell? (J b (o+i))=some (Z xs[i])/\I64 xs[i]:=by
 rcases h with rfl|⟨b,o,hp,h⟩
 ·simp at hi
 obtain⟨cs,_,hc,⟨rfl,hw⟩⟩:=h i hi;have h0:=hc 0 bO;simp only[Nat.mul_one,yJ,zB]at h0;exact⟨b,o,hp,(hb.cell (p:=(J b (o+i))) (q9 h0)).trans h0,hw⟩
theorem Z1 {w w':World} {p:Option Addr} {xs:List (Bool×Int)} (h:SliceAt w 2 kc p xs) (hb:Below w.heap.size w w') {i:Nat} (hi:i<xs.length) :
  ∃b o,p=some (J b o)/\w'.cell? (J b (o+i*2))=some (.bool xs[i].1)/\w'.cell? (J b (o+i*2+1))=some (Z xs[i].2)/\I64 xs[i].2:=by
 rcases h with rfl|⟨b,o,hp,h⟩
 ·simp at hi
 obtain⟨cs,_,hc,⟨rfl,hw⟩⟩:=h i hi;have h0:w.cell? (J b (o+i*2))=some (.bool xs[i].1):=hc 0 bO;have h1:w.cell? (J b (o+i*2+1))=some (Z xs[i].2):=hc 1 bO;have hl:=q9 h0;exact⟨b,o,hp,(hb.cell (p:=(J b _)) hl).trans h0,(hb.cell (p:=(J b _)) hl).trans h1,hw⟩
theorem Jz {w w':World} {p:Option Addr} {xs:List PhiL} (h:SliceAt w 2 (PhiR w) p xs) (hb:Below w.heap.size w w') {i:Nat} (hi:i<xs.length) :
  ∃b o q c,p=some (J b o)/\w'.cell? (J b (o+i*2))=some (Z xs[i].dst)/\w'.cell? (J b (o+i*2+1))=some (.slice q xs[i].src.length c)/\I64 xs[i].dst/\xs[i].src.length*16<=140737488351232/\SliceAt w' 2 kc q xs[i].src:=by
 rcases h with rfl|⟨b,o,hp,h⟩
 ·simp at hi
 obtain⟨cs,_,hc,hr⟩:=h i hi;obtain⟨v,rfl,hw,hs⟩:=hr;obtain⟨q,c,rfl,hl2,hs2⟩:=hs.out;have h0:w.cell? (J b (o+i*2))=some (Z xs[i].dst):=hc 0 bO;have h1:w.cell? (J b (o+i*2+1))=some (.slice q xs[i].src.length c):=hc 1 bO;have hl:=q9 h0;exact⟨b,o,q,c,hp,(hb.cell (p:=(J b _)) hl).trans h0,(hb.cell (p:=(J b _)) hl).trans h1,hw,hl2,hs2.mono hb bO fun _ _ h=>h⟩
theorem Zp {w w':World} {p:Option Addr} {xs:List InsL} (h:SliceAt w 8 (InsR w) p xs) (hb:Below w.heap.size w w') {i:Nat} (hi:i<xs.length) :
  ∃b o q c,p=some (J b o)/\w'.cell? (J b (o+i*8))=some (Z xs[i].op)/\w'.cell? (J b (o+i*8+1))=some (Z xs[i].dst)/\w'.cell? (J b (o+i*8+2))=some (.bool xs[i].ar)/\w'.cell? (J b (o+i*8+3))=some (Z xs[i].an)/\w'.cell? (J b (o+i*8+4))=some (.bool xs[i].br)/\w'.cell? (J b (o+i*8+5))=some (Z xs[i].bn)/\w'.cell? (J b (o+i*8+6))=some (Z xs[i].fn)/\w'.cell? (J b (o+i*8+7))=some (.slice q xs[i].args.length c)/\I64 xs[i].op/\I64 xs[i].dst/\I64 xs[i].an/\I64 xs[i].bn/\I64 xs[i].fn/\xs[i].args.length*16<=140737488351232/\SliceAt w' 2 kc q xs[i].args:=by
 rcases h with rfl|⟨b,o,hp,h⟩
 ·simp at hi
 obtain⟨cs,_,hc,hr⟩:=h i hi;obtain⟨v,rfl,w1,w2,w3,w4,w5,hs⟩:=hr;obtain⟨q,c,rfl,hl2,hs2⟩:=hs.out;have h0:w.cell? (J b (o+i*8))=some (Z xs[i].op):=hc 0 bO;have hl:=q9 h0;have g:∀j,j<8->w'.cell? (J b (o+i*8+j))=w.cell? (J b (o+i*8+j)):=fun j _=>hb.cell (p:=(J b _)) hl;exact⟨b,o,q,c,hp,(g 0 bO).trans h0,(g 1 bO).trans (hc 1 bO),(g 2 bO).trans (hc 2 bO),(g 3 bO).trans (hc 3 bO),(g 4 bO).trans (hc 4 bO),(g 5 bO).trans (hc 5 bO),(g 6 bO).trans (hc 6 bO),(g 7 bO).trans (hc 7 bO),w1,w2,w3,w4,w5,hl2,hs2.mono hb bO fun _ _ h=>h⟩
theorem vw {w w':World} {p:Option Addr} {xs:List BlkL} (h:SliceAt w 6 (BlkR w) p xs) (hb:Below w.heap.size w w') {i:Nat} (hi:i<xs.length) :
  ∃b o q1 c1 q2 c2 q3 c3,p=some (J b o)/\w'.cell? (J b (o+i*6))=some (.slice q1 xs[i].phis.length c1)/\w'.cell? (J b (o+i*6+1))=some (.slice q2 xs[i].list.length c2)/\w'.cell? (J b (o+i*6+2))=some (Z xs[i].fin.kind)/\w'.cell? (J b (o+i*6+3))=some (.bool xs[i].fin.onr)/\w'.cell? (J b (o+i*6+4))=some (Z xs[i].fin.onn)/\w'.cell? (J b (o+i*6+5))=some (.slice q3 xs[i].fin.to.length c3)/\I64 xs[i].fin.kind/\I64 xs[i].fin.onn/\
   xs[i].phis.length*32<=140737488351232/\xs[i].list.length*80<=140737488351232/\xs[i].fin.to.length*8<=140737488351232/\SliceAt w' 2 (PhiR w') q1 xs[i].phis/\SliceAt w' 8 (InsR w') q2 xs[i].list/\SliceAt w' 1 jM q3 xs[i].fin.to:=by
 rcases h with rfl|⟨b,o,hp,h⟩
 ·simp at hi
 obtain⟨cs,_,hc,hr⟩:=h i hi;obtain⟨v1,v2,v3,rfl,w1,w2,hs1,hs2,hs3⟩:=hr;obtain⟨q1,c1,rfl,l1,t1⟩:=hs1.out;obtain⟨q2,c2,rfl,l2,t2⟩:=hs2.out;obtain⟨q3,c3,rfl,l3,t3⟩:=hs3.out;have h0:w.cell? (J b (o+i*6))=some (.slice q1 xs[i].phis.length c1):=hc 0 bO;have hl:=q9 h0;have g:∀j,j<6->w'.cell? (J b (o+i*6+j))=w.cell? (J b (o+i*6+j)):=fun j _=>hb.cell (p:=(J b _)) hl;exact⟨b,o,q1,c1,q2,c2,q3,c3,hp,(g 0 bO).trans h0,(g 1 bO).trans (hc 1 bO),(g 2 bO).trans (hc 2 bO),(g 3 bO).trans (hc 3 bO),(g 4 bO).trans (hc 4 bO),(g 5 bO).trans (hc 5 bO),w1,w2,l1,l2,l3,t1.mono hb bO fun _ _ h=>h.below hb,t2.mono hb bO fun _ _ h=>h.below hb,t3.mono hb bO fun _ _ h=>h⟩
theorem Q1 {w w':World} {p:Option Addr} {xs:List FunL} (h:SliceAt w 4 (FunR w) p xs) (hb:Below w.heap.size w w') {i:Nat} (hi:i<xs.length) :
  ∃b o q c,p=some (J b o)/\w'.cell? (J b (o+i*4))=some (.string xs[i].name)/\w'.cell? (J b (o+i*4+1))=some (Z xs[i].params)/\w'.cell? (J b (o+i*4+2))=some (Z xs[i].regs)/\w'.cell? (J b (o+i*4+3))=some (.slice q xs[i].blocks.length c)/\
   xs[i].name.size<=140737488351232/\I64 xs[i].params/\I64 xs[i].regs/\xs[i].blocks.length*96<=140737488351232/\SliceAt w' 6 (BlkR w') q xs[i].blocks:=by
 rcases h with rfl|⟨b,o,hp,h⟩
 ·simp at hi
 obtain⟨cs,_,hc,hr⟩:=h i hi;obtain⟨v,rfl,w0,w1,w2,hs⟩:=hr;obtain⟨q,c,rfl,hl2,hs2⟩:=hs.out;have h0:w.cell? (J b (o+i*4))=some (.string xs[i].name):=hc 0 bO;have hl:=q9 h0;have g:∀j,j<4->w'.cell? (J b (o+i*4+j))=w.cell? (J b (o+i*4+j)):=fun j _=>hb.cell (p:=(J b _)) hl;exact⟨b,o,q,c,hp,(g 0 bO).trans h0,(g 1 bO).trans (hc 1 bO),(g 2 bO).trans (hc 2 bO),(g 3 bO).trans (hc 3 bO),by unfold reachBytes at w0;omega,w1,w2,hl2,hs2.mono hb bO fun _ _ h=>h.below hb⟩
theorem gloGet {w w':World} {p:Option Addr} {xs:List GloL} (h:SliceAt w 3 (GloR w) p xs) (hb:Below w.heap.size w w') {i:Nat} (hi:i<xs.length) :
  ∃b o q c,p=some (J b o)/\w'.cell? (J b (o+i*3))=some (.string xs[i].name)/\w'.cell? (J b (o+i*3+1))=some (Z xs[i].size)/\w'.cell? (J b (o+i*3+2))=some (.slice q xs[i].init.length c)/\
   xs[i].name.size<=140737488351232/\I64 xs[i].size/\xs[i].init.length*8<=140737488351232/\SliceAt w' 1 jM q xs[i].init:=by
 rcases h with rfl|⟨b,o,hp,h⟩
 ·simp at hi
 obtain⟨cs,_,hc,hr⟩:=h i hi;obtain⟨v,rfl,w0,w1,hs⟩:=hr;obtain⟨q,c,rfl,hl2,hs2⟩:=hs.out;have h0:w.cell? (J b (o+i*3))=some (.string xs[i].name):=hc 0 bO;have hl:=q9 h0;have g:∀j,j<3->w'.cell? (J b (o+i*3+j))=w.cell? (J b (o+i*3+j)):=fun j _=>hb.cell (p:=(J b _)) hl;exact⟨b,o,q,c,hp,(g 0 bO).trans h0,(g 1 bO).trans (hc 1 bO),(g 2 bO).trans (hc 2 bO),by unfold reachBytes at w0;omega,w1,hl2,hs2.mono hb bO fun _ _ h=>h⟩



def zm (T:List (List Int)):Nat->List (Nat×Nat)
 | 0=>[]
 | i+1=>zm T i++(T.getD i []).map fun t=>(t.toNat,i)
def zw (ps:List (Nat×Nat)) (t:Nat):List Nat:=(ps.filter (·.1 == t)).map (·.2)

theorem Yh (ps:List (Nat×Nat)) (t i:Nat):zw (ps++[(t,i)]) t=zw ps t++[i]:=by
 simp[zw,List.filter_append]
theorem Vu (ps:List (Nat×Nat)) {t u:Nat} (i:Nat) (h:u≠t):zw (ps++[(t,i)]) u=zw ps u:=by
 have h2:(t == u)=false:=by simp;omega
 simp[zw,List.filter_append,h2]
theorem Ze (ps:List (Nat×Nat)) (t:Nat):(zw ps t).length<=ps.length:=by
 unfold zw;rw[yT];exact List.length_filter_le _ _
theorem Qk (T:List (List Int)) (k n:Nat) (hk:k<=n) (h:∀i,i<n->(T.getD i []).length<=2):(zm T k).length<=2*k:=by
 induction k with
 | zero=>simp[zm]
 | succ k ih=>
  have:=ih bO;have:=h k bO;simp only[zm,yN,yT];omega

structure Rows2 (w:World) (B T:Nat) (n:Nat) (ts ti:TypeId) (ps:List (Nat×Nat)) (f:Nat->Value):Prop where
 tab:w.rowIs T ts n f
 row:∀j,j<n->w.ownsRow B ti 1 (f j) (zw ps j).length ((zw ps j).map fun i:Nat=>Z (i:Int))
 two:∀j k,j<n->k<n->j≠k->(f j).ownBlock=none\/(f j).ownBlock≠(f k).ownBlock
 low:T<B

theorem Rows2.alloc {w:World} {B T n:Nat} {ts ti:TypeId} {ps:List (Nat×Nat)} {f:Nat->Value} (h:Rows2 w B T n ts ti ps f) (o:Obj):Rows2 (w.alloc o) B T n ts ti ps f:=
 ⟨h.tab.alloc o,fun j hj=>(h.row j hj).alloc o,h.two,h.low⟩
theorem Rows2.drew {w:World} {B T n:Nat} {ts ti:TypeId} {ps:List (Nat×Nat)} {f:Nat->Value} (h:Rows2 w B T n ts ti ps f):Rows2 w.drew B T n ts ti ps f:=
 ⟨h.tab.drew,fun j hj=>(h.row j hj).drew,h.two,h.low⟩

theorem Rows2.made (w:World) (n:Nat) (ts ti:TypeId):Rows2 (w.alloc (.cells (madeCells #[.slice none 0 0] n) ts)) (w.heap.size+1) w.heap.size n ts ti [] (fun _=>.slice none 0 0):=
 ⟨World.rowIs_made w _ n ts,fun j _=>World.ownsRow_nil _ _ _ _,fun _ _ _ _ _=>.inl rfl,by omega⟩

theorem Rows2.put {w w':World} {B T n:Nat} {ts ti:TypeId} {ps:List (Nat×Nat)} {f:Nat->Value} (h:Rows2 w B T n ts ti ps f) (hB:B<=w.heap.size) {t i:Nat} (ht:t<n) {v':Value}
  (hown:w'.ownsRow B ti 1 v' ((zw ps t).length+1) (((zw ps t).map fun i:Nat=>Z (i:Int))++[Z (i:Int)])) (hg:w.grownBy w' (f t).ownBlock)
  (hv:v'.ownBlock=(f t).ownBlock\/v'.ownBlock=some w.heap.size) :
  Rows2 (w'.setCell (J T t) v') B T n ts ti (ps++[(t,i)]) (fun j=>if j=t then v' else f j):=by
 have hlow:∀j,j<n->∀k,(f j).ownBlock=some k->B<=k/\k<w.heap.size:=fun j hj k hk=>(h.row j hj).lt k hk;have hT:some T≠(f t).ownBlock:=fun e=>by have:=(hlow t ht T e.symm).1;have:=h.low;omega
 have hTw:T<w.heap.size:=by have:=h.low;omega
 have keep:∀(v:Value) (m:Nat) (xs:List Value),w'.ownsRow B ti 1 v m xs->(w'.setCell (J T t) v').ownsRow B ti 1 v m xs:=fun v m xs ho=>by
  refine ho.kept (row:=some T) ⟨rfl,rfl,rfl,by simp[World.setCell],fun k hk hne=>?_⟩ ?_
  ·exact Below.heap_setCell _ _ _ _ (fun e=>hne (by rw[e]))
  cases hb:v.ownBlock with
  | none=>exact .inl rfl
  | some k=>exact .inr (fun e=>by have h1:=(ho.lt k hb).1;have h2:=h.low;injection e with e;omega)
 refine⟨?_,fun j hj=>?_,fun j k hj hk hjk=>?_,h.low⟩
 ·exact(h.tab.of_block (hg.block T hTw hT)).set t v'
 ·by_cases hjt:j=t
  ·subst hjt;simp only[if_true];rw[Yh,yN,yW];exact keep _ _ _ hown
  simp only[zQ hjt];rw[Vu _ _ hjt];exact keep _ _ _ ((h.row j hj).kept hg (h.two j t hj ht hjt))
 show(if j=t then v' else f j).ownBlock=none\/(if j=t then v' else f j).ownBlock≠(if k=t then v' else f k).ownBlock
 by_cases hjt:j=t
 ·have hkt:k≠t:=fun e=>hjk (hjt.trans e.symm);rw[zZ hjt,zQ hkt];rcases hv with e|e
  ·rw[e];exact h.two t k ht hk (fun e=>hkt e.symm)
  refine .inr (fun g=>?_);have:=(hlow k hk _ (g.symm.trans e)).2;omega
 rw[zQ hjt]
 by_cases hkt:k=t
 ·rw[zZ hkt];rcases hv with e|e
  ·rw[e];exact h.two j t hj ht hjt
  cases hb:(f j).ownBlock with
  | none=>exact .inl rfl
  | some q=>exact .inr (fun g=>by have:=(hlow j hj q hb).2;rw[e]at g;injection g with g;omega)
 rw[zQ hkt];exact h.two j k hj hk hjk
theorem Rows2.atTab {w w':World} {B T n:Nat} {ts ti:TypeId} {ps:List (Nat×Nat)} {f:Nat->Value} (h:Rows2 w B T n ts ti ps f) {t:Nat} (ht:t<n) (hg:w.grownBy w' (f t).ownBlock):w'.cell? (J T t)=some (f t)/\w'.frozen? (J T t)=false:=by
 have hT:some T≠(f t).ownBlock:=fun e=>by have:=((h.row t ht).lt T e.symm).1;have:=h.low;omega
 have hb:=hg.block T h.tab.lt hT;exact⟨(zN (a:=(J T t)) hb).trans (h.tab.cell ht),(yB (a:=(J T t)) hb).trans (h.tab.frozen t)⟩

theorem JA:Tryz.prog.underlying 45=some (.slice 3):=by kernel_rfl
theorem JB:Tryz.prog.underlying 65=some (.slice 45):=by kernel_rfl
theorem infoInt:(Tryz.prog.info? 3).map (fun i=>(i.zero,i.size,i.bytes))=some (some (Z 0),1,8):=by kernel_rfl
theorem Kn:(Tryz.prog.info? 45).map (fun i=>(i.zero,i.size,i.bytes))=some (some (.slice none 0 0),1,24):=by kernel_rfl

def Vv (w:World) (b o i:Nat) (to:List Int):Prop:=
 ∃p1 l1 c1 p2 l2 c2 k r m p c,w.cell? (J b (o+i*6))=some (.slice p1 l1 c1)/\w.cell? (J b (o+i*6+1))=some (.slice p2 l2 c2)/\w.cell? (J b (o+i*6+2))=some (Z k)/\
  w.cell? (J b (o+i*6+3))=some (.bool r)/\w.cell? (J b (o+i*6+4))=some (Z m)/\w.cell? (J b (o+i*6+5))=some (.slice p to.length c)/\SliceAt w 1 jM p to

theorem ahead_any (nm:ByteArray) (params regs:Int) (bb bo bc n:Nat) (TS:List (List Int)) (w:World) (hn:n<=40)
  (hB:∀i,i<n->Vv w bb bo i (TS.getD i []))
  (hE:∀i,i<n->(TS.getD i []).length<=2/\∀t∈TS.getD i [],1<=t/\t<n) :
  Calls Tryz.prog 58 #[.agg #[.string nm,Z params,Z regs,.slice (some (J bb bo)) n bc]] w fun e w'=>
   (∃f:Nat->Value,e = .returned (.slice (some (J (w.heap.size+1) 0)) n n)/\Rows2 w' (w.heap.size+1+1) (w.heap.size+1) n 45 3 (zm TS n) f)/\Below w.heap.size w w':=by
 obtain⟨i1,k1,k2,k3,k4⟩:=info_parts infoInt;obtain⟨i2,l1,l2,l3,l4⟩:=info_parts Kn;have hmk:=run_make_row 65 45 i2 (.slice none 0 0) JB l1 l2 l3 rfl .i64 .i64 n (by rw[l4];omega) bO;have HB:Hid (∀i,i<n->Vv w bb bo i (TS.getD i [])):=hB;have HE:Hid (∀i,i<n->(TS.getD i []).length<=2/\∀t∈TS.getD i [],1<=t/\t<n):=hE;clear hB hE
 go_enter Tryz.func58,Tryz.ntmps58
 go_wp2
 go_loopw [15] (fun i wr=>∃k:Nat,k<=n/\i=Z k/\(∃f,Rows2 wr (w.heap.size+1+1) (w.heap.size+1) n 45 3 (zm TS k) f)/\Below w.heap.size w wr) (fun i _=>n - (intOf i).toNat)
 case atStart=>exact⟨0,by omega,rfl,⟨_,by have:=Rows2.made (w.alloc (.cells #[.string nm,Z params,Z regs,.slice (some (J bb bo)) n bc] 38)) n 45 3;simpa[zm]using this⟩,by exact bZ⟩
 case round=>
  obtain⟨k,hk,rfl,⟨f,hR⟩,hb⟩:=hrel;have HBw:Hid (Below w.heap.size w wr):=hb;have HR:Hid (Rows2 wr (w.heap.size+1+1) (w.heap.size+1) n 45 3 (zm TS k) f):=hR;have hsz:w.heap.size+1<wr.heap.size:=hR.tab.lt;clear hb hR
  by_cases hlt:k<n
  rotate_left
  ·go_wp2
   go_ret
   obtain rfl:k=n:=(by omega);exact⟨⟨f,rfl,HR.out⟩,HBw.out⟩
  obtain⟨p1,m1,c1,p2,m2,c2,kk,r,m,p,c,e0,e1,e2,e3,e4,e5,hto⟩:=HB.out k hlt;have hbb:=q9 e0;rw[←HBw.out.cell (p:=(J bb (bo+k*6))) hbb]at e0;rw[←HBw.out.cell (p:=(J bb (bo+k*6+1))) hbb]at e1;rw[←HBw.out.cell (p:=(J bb (bo+k*6+2))) hbb]at e2;rw[←HBw.out.cell (p:=(J bb (bo+k*6+3))) hbb]at e3;rw[←HBw.out.cell (p:=(J bb (bo+k*6+4))) hbb]at e4;rw[←HBw.out.cell (p:=(J bb (bo+k*6+5))) hbb]at e5;obtain⟨hl2,hts⟩:=HE.out k hlt;have HTO:Hid (SliceAt w 1 jM p (TS.getD k [])):=hto;have HTS:Hid (∀t∈TS.getD k [],1<=t/\t<n):=hts;clear hto hts;generalize hto:TS.getD k []=to at *;have HK:Hid (TS.getD k []=to):=hto;clear hto
  go_wp2
  go_loopw [24] (fun i wq=>∃j:Nat,j<=to.length/\i=Z j/\(∃f,Rows2 wq (w.heap.size+1+1) (w.heap.size+1) n 45 3 (zm TS k++(to.map fun t=>(t.toNat,k)).take j) f)/\Below w.heap.size w wq) (fun i _=>to.length - (intOf i).toNat)
  case atStart=>exact⟨0,by omega,rfl,⟨f,by simpa using HR.out.alloc _⟩,by have:=HBw.out;exact this.alloc bO _⟩
  case round=>
   clear HR HBw e0 e1 e2 e3 e4 e5;obtain⟨j,hj,rfl,⟨f,hR⟩,hb⟩:=hrel;have HBw:Hid (Below w.heap.size w wr):=hb;have HR:Hid (Rows2 wr (w.heap.size+1+1) (w.heap.size+1) n 45 3 (zm TS k++(to.map fun t=>(t.toNat,k)).take j) f):=hR;have hsz:w.heap.size+1<wr.heap.size:=hR.tab.lt;clear hb hR
   by_cases hjl:j<to.length
   rotate_left
   ·go_wp2
    obtain rfl:j=to.length:=(by omega);refine⟨⟨k+1,by omega,by go_num,⟨f,?_⟩,HBw.out⟩,by simp[intOf];omega⟩;have HR2:=HR.out;rw[List.take_of_length_le bV]at HR2;unfold zm;rw[HK.out];exact HR2
   obtain⟨t,ht⟩:∃t:Nat,to[j]=(t:Int):=⟨to[j].toNat,by have:=(HTS.out _ (zP hjl)).1;omega⟩;have htn:t<n:=by have:=(HTS.out _ (zP hjl)).2;omega
   obtain⟨tb,tof,hp,htc⟩:∃tb tof,p=some (J tb tof)/\wr.cell? (J tb (tof+j))=some (Z t):=by
    rcases HTO.out with h0|⟨tb,tof,hp,hc⟩
    ·rw[h0]at hjl;simp at hjl
    refine⟨tb,tof,hp,?_⟩;obtain⟨cs,_,hc,⟨rfl,_⟩⟩:=hc j hjl;have h2:=hc 0 bO;simp only[Nat.mul_one,yJ,zB]at h2;rw[HBw.out.cell (p:=(J tb (tof+j))) (q9 h2),h2,ht]
   subst hp;have hrow:=HR.out.row t htn
   obtain⟨q,qc,hq⟩:∃q qc,f t = .slice q (zw (zm TS k++(to.map fun t=>(t.toNat,k)).take j) t).length qc:=by
    rcases hrow.2 with⟨h1,h2⟩|⟨g,cap,cur,h1,_⟩
    ·refine⟨none,0,?_⟩;rw[h1,h2]
    exact⟨_,_,h1⟩
   have HQ:Hid (f t = .slice q (zw (zm TS k++(to.map fun t=>(t.toNat,k)).take j) t).length qc):=hq;have hfc:=HR.out.tab.cell htn;have hff:=HR.out.tab.frozen t;rw[hq]at hfc hrow;clear hq;have HT:Hid (to[j]?=some (t:Int)):=(by show _=_;rw[zj hjl,ht]);clear ht
   have hm2:(zw (zm TS k++(to.map fun t=>(t.toNat,k)).take j) t).length<=2*k+2:=by
    have h1:=Ze (zm TS k++(to.map fun t=>(t.toNat,k)).take j) t;have h2:=Qk TS k n hk (fun i hi=>(HE.out i hi).1);rw[yN,yr,yT]at h1;omega
   generalize hm:(zw (zm TS k++(to.map fun t=>(t.toNat,k)).take j) t).length=m at *;have HM:Hid ((zw (zm TS k++(to.map fun t=>(t.toNat,k)).take j) t).length=m):=hm;clear hm
   go_wp2_with (at_builtin;refine wpList_append_own_at _ rfl _ _ 45 rfl (w.heap.size+1+1) 3 i1 (Z 0) 1 8 JA k1 k2 k3 k4 rfl (by decide) _ _ _ rfl (hrow.alloc _) ⟨wr.heap.size,0,none⟩ 1 1 [Z k] rfl rfl (cell_one_new _ _ _) (by simp[Value.oneCell']) ?_ ?_ ?_ ?_)
   ·unfold maxLen;omega
   ·omega
   ·simp;omega
   intro v' w1 hown' hgrow _ hat;have HP:=(HR.out.alloc (.cells #[Z k] 3)).put (i:=k) bW htn (v':=v') (w':=w1) (by rw[HM.out];exact hown') (by rw[HQ.out];exact hgrow) (by rw[HQ.out];simpa using hat)
   obtain⟨q2,c2',hv2⟩:∃q2 c2,v' = .slice q2 (m+1) c2:=by
    rcases hown'.2 with⟨h1,h2⟩|⟨g,cap,cur,h1,_⟩
    ·omega
    exact⟨_,_,h1⟩
   subst hv2;obtain⟨hc1,hf1⟩:=(HR.out.alloc (.cells #[Z k] 3)).atTab htn (w':=w1) (by rw[HQ.out];exact hgrow);rw[HQ.out]at hc1;have hbw:=(HBw.out.alloc bO (.cells #[Z k] 3)).grown hgrow bW (fun kk e=>by have:=(hrow.lt kk e).1;omega);have HB2:=q8 hbw;have HP2:=q8 HP;clear HP hown' hgrow hat hfc hff htc hrow hbw
   go_wp2
   refine⟨⟨j+1,by omega,by go_num,⟨fun i=>if i=t then Value.slice q2 (m+1) c2' else f i,?_⟩,?_⟩,by simp[intOf];omega⟩
   ·rw[List.take_add_one,List.getElem?_map,HT.out];have HP3:=HP2.out;rw[yF]at HP3;exact HP3
   exact HB2.out.setCell (by show _<=w.heap.size+1;omega) _

def Ql (w:World) (p:Option Addr) (S:List ByteArray):Prop:=
 S=[]\/∃b o,p=some (J b o)/\∀i (h:i<S.length),w.cell? (J b (o+i))=some (.string S[i])

theorem bytes_eq {a b:ByteArray}:(a.toList == b.toList)=true↔a=b:=by
 rw[beq_iff_eq,ByteArray.toList_eq,ByteArray.toList_eq];constructor
 ·intro h;obtain⟨x⟩:=a;obtain⟨y⟩:=b;rw[show x=y from Array.toList_inj.1 h]
 rintro rfl;rfl

theorem index_str (b o c n:Nat) (S:Nat->ByteArray) (v:ByteArray) (w:World) (hn:n<=9223372036854775807) (hc:∀i,i<n->w.cell? (J b (o+i))=some (.string (S i))) :
  Calls Tryz.prog 56 #[.slice (some (J b o)) n c,.string v] w fun e w'=>(∃k:Int,e = .returned (Z k)/\Hid ((k<0/\∀i,i<n->S i≠v)\/(0<=k/\∃i,i<n/\S i=v)))/\w=w':=by
 go_enter Tryz.func56,Tryz.ntmps56
 go_wp2
 go_loop [8] (fun i=>∃k:Nat,k<=n/\i=Z k/\∀j,j<k->S j≠v) (fun i=>n - (intOf i).toNat)
 case atStart=>exact⟨0,by omega,rfl,fun j hj=>by omega⟩
 case round=>
  obtain⟨k,hk,rfl,hV⟩:=hrel;have HV:Hid (∀j,j<k->S j≠v):=hV;clear hV
  by_cases hlt:k<n
  rotate_left
  ·go_wp2
   go_ret
   refine⟨⟨_,rfl,.inl ⟨by omega,fun i hi=>HV.out i bO⟩⟩,rfl⟩
  have c0:=hc k hlt;have Hlt:Hid (k<n):=hlt;generalize hs:S k=s at c0;have HS:Hid (S k=s):=hs;clear hs hc
  go_wp2
  ·rename_i hw _
   go_ret
   refine⟨⟨_,rfl,.inr ⟨by simp,k,Hlt.out,?_⟩⟩,rfl⟩;rw[HS.out];exact(bytes_eq.1 hw).symm
  rename_i hw
  refine⟨⟨k+1,by omega,by go_num,fun j hj=>?_⟩,by simp[intOf];omega⟩
  by_cases hj2:j<k
  ·exact HV.out j hj2
  obtain rfl:j=k:=by omega
  rw[HS.out];intro he;rw[bytes_eq.2 he.symm]at hw;cases hw
theorem index_nil (p:Option Addr) (c:Nat) (v:ByteArray) (w:World) :
  Calls Tryz.prog 56 #[.slice p 0 c,.string v] w fun e w'=>e = .returned (Z (-1))/\w=w':=by
 go_enter Tryz.func56,Tryz.ntmps56
 go_wp2
 go_loop [8] (fun i=>i=Z 0) (fun _=>0)
 case atStart=>rfl
 case round=>
  subst hrel
  go_wp2
  go_ret
  exact⟨rfl,rfl⟩

def JC (S:List ByteArray) (v:ByteArray):Bool:=S.any fun s=>s.toList == v.toList
theorem hasB_iff {S:List ByteArray} {v:ByteArray}:JC S v=true↔v∈S:=by
 unfold JC;rw[List.any_eq_true];constructor
 ·rintro⟨s,hs,he⟩;rw[←bytes_eq.1 he];exact hs
 intro h;exact⟨v,h,bytes_eq.2 rfl⟩
theorem ke (p:Option Addr) (c:Nat) (S:List ByteArray) (v:ByteArray) (w:World) (hn:S.length<=9223372036854775807) (h:Ql w p S) :
  Calls Tryz.prog 25 #[.slice p S.length c,.string v] w fun e w'=>e = .returned (.bool (JC S v))/\w=w':=by
 rcases h with rfl|⟨b,o,rfl,h⟩
 ·go_enter Tryz.func25,Tryz.ntmps25
  go_wp2_with (go_at_call 56;refine(index_nil _ _ _ _).mono ?_;rintro e w1 ⟨rfl,rfl⟩)
  go_ret
  exact⟨by simp[JC],rfl⟩
 have HC:Hid (∀i,i<S.length->w.cell? (J b (o+i))=some (.string (S.getD i ByteArray.empty))):=fun i hi=>by
  rw[h i hi];simp[List.getD,hi]
 clear h
 go_enter Tryz.func25,Tryz.ntmps25
 go_wp2_with fail
 refine(index_str _ _ _ _ (fun i=>S.getD i ByteArray.empty) _ _ hn HC.out).mono ?_;rintro e w1 ⟨⟨k,rfl,hk⟩,rfl⟩
 by_cases hk0:0<=k
 ·have HB:Hid (JC S v=true):=by
   show _=_;rcases hk.out with⟨h1,_⟩|⟨_,i,hi,hs⟩
   ·omega
   rw[hasB_iff,←hs];simp[List.getD,hi]
  clear hk
  go_wp2
  go_ret
  exact⟨by rw[HB.out];simp,rfl⟩
 have HB:Hid (JC S v=false):=by
  show _=_;rcases hk.out with⟨_,h2⟩|⟨h1,_⟩
  ·rw[Bool.eq_false_iff];intro hb;have hm:=hasB_iff.1 hb;obtain⟨i,hi,he⟩:=yp.1 hm;exact h2 i hi (by simp[List.getD,hi,he])
  omega
 clear hk
 go_wp2
 go_ret
 exact⟨by rw[HB.out];simp;omega,rfl⟩

theorem xe:∀{l:List Int},(∀x∈l,x=0)->qD l=0
 | [],_=>rfl
 | x::l,h=>by
  unfold qD;rw[zZ (h x yg)];exact xe (fun y hy=>h y (yc _ hy))
theorem vx:∀{l:List Int} {k:Nat} (hk:k<l.length),(∀j (hj:j<k),l[j]'bO=0)->l[k]≠0->qD l=l[k]
 | x::l,0,_,_,h=>by
  unfold qD;rw[zQ (by simpa using h)];rfl
 | x::l,k+1,hk,h0,h=>by
  have hx:x=0:=h0 0 bO;unfold qD;rw[zZ hx];have:=vx (l:=l) (k:=k) (by simpa using hk) (fun j hj=>by have:=h0 (j+1) bO;simpa using this) (by simpa using h);simpa using this
theorem xY {l:List Int} (h:qD l=0):∀x∈l,x=0:=by
 induction l with
 | nil=>intro x hx;cases hx
 | cons y l ih=>
  unfold qD at h
  by_cases hy:y=0
  ·rw[zZ hy]at h;intro x hx;rcases yC.1 hx with rfl|hx
   ·exact hy
   exact ih h x hx
  rw[zQ hy]at h;exact absurd h hy

def jh (n:Nat) (g:Nat->Int):Option (Int×Int):=((List.range n).find? fun i=>g i != 0).map fun i=>(g i,(i:Int))
theorem xp {n:Nat} {g:Nat->Int} (h:∀j,j<n->g j=0):jh n g=none:=by
 unfold jh;rw[List.find?_eq_none.2]
 ·rfl
 intro i hi;simp[h i (yR.1 hi)]
theorem Q8 {n:Nat} {g:Nat->Int} (h:jh n g=none):∀j,j<n->g j=0:=by
 intro j hj;unfold jh at h;rw[Option.map_eq_none_iff,List.find?_eq_none]at h;have:=h j (yR.2 hj);simpa using this
theorem Xf:∀(n k:Nat) (p:Nat->Bool),k<n->(∀j,j<k->p j=false)->p k=true->(List.range n).find? p=some k:=by
 intro n k p hk h0 h1;rw[List.find?_eq_some_iff_append];refine⟨h1,List.range k,(List.range (n - k - 1)).map (·+(k+1)),?_,fun a ha=>by simp[h0 a (yR.1 ha)]⟩;apply yV
 ·simp;omega
 intro i h2 h3;rw[List.getElem_range];rcases Nat.lt_trichotomy i k with g|g|g
 ·rw[List.getElem_append_left (by simpa using g)];simp
 ·subst g;rw[List.getElem_append_right bV];simp
 rw[List.getElem_append_right bW];rw[List.getElem_cons];rw[dif_neg bW];simp;omega
theorem Q9 {n k:Nat} {g:Nat->Int} (hk:k<n) (h0:∀j,j<k->g j=0) (h:g k≠0):jh n g=some (g k,(k:Int)):=by
 unfold jh;rw[Xf n k _ hk (fun j hj=>by simp[h0 j hj]) (by simpa using h)];rfl

def vm (u:UniL) (k:Nat):Int:=(u.funcs.map (·.params)).getD k 0
def X6 (f:FunL) (x:EndL):Int:=kD f.regs f.blocks.length x.kind x.onr x.onn x.to
def JD (u:UniL) (f:FunL) (x:InsL):Int:=jX f.regs u.funcs.length (vm u) x.op x.dst x.an x.bn x.fn x.ar x.br x.args
def X3 (f:FunL) (block cnt:Nat) (x:PhiL):Int:=X0 f.regs block cnt x.dst x.src
def kE (f:FunL):List (List Int):=f.blocks.map fun b=>b.fin.to
def xq (f:FunL):List (Nat×Nat):=zm (kE f) f.blocks.length
def Yi (u:UniL) (f:FunL) (i:Nat) (b:BlkL):Int:=
 if qD (b.phis.map (X3 f i (zw (xq f) i).length))=0 then qD (b.list.map (JD u f))else qD (b.phis.map (X3 f i (zw (xq f) i).length))
def Z6 (u:UniL) (f:FunL) (i:Nat):Int:=match f.blocks[i]? with|some b=>Yi u f i b|none=>0
def bodyE (u:UniL) (f:FunL):Int:=
 if qD (f.blocks.map fun b=>X6 f b.fin)=0 then qD ((List.range f.blocks.length).map (Z6 u f))else qD (f.blocks.map fun b=>X6 f b.fin)

def xu (f:FunL):Nat:=(f.blocks.map fun b=>b.phis.length+b.list.length).sum
def jx (names:List ByteArray) (f:FunL):Int:=
 if k9 f.name=false then 12
 else if JC names f.name=true then 7
 else if ¬(0<=f.params/\f.params<=6)\/¬(f.params<=f.regs/\f.regs<=100)then 3
 else if ¬(1<=f.blocks.length/\f.blocks.length<=40)\/300<xu f then 2
 else 0
def jN (u:UniL) (k:Nat):Int:=((u.globals.take k).map (·.size)).sum
def Vw (names:List ByteArray) (words:Int) (g:GloL):Int:=
 if k9 g.name=false then 12
 else if JC names g.name=true then 7
 else if ¬(1<=g.size/\g.size<=200)then 3
 else if g.size<g.init.length then 9
 else if 200<words+g.size then 10
 else 0
def jO (u:UniL) (k:Nat):List ByteArray:=(u.globals.take k).map (·.name)
def xr (u:UniL) (k:Nat):List ByteArray:=u.globals.map (·.name)++(u.funcs.take k).map (·.name)
def XF (u:UniL) (i:Nat):Int:=match u.globals[i]? with|some g=>Vw (jO u i) (jN u i) g|none=>0
def kf (u:UniL) (i:Nat):Int:=match u.funcs[i]? with|some f=>jx (xr u i) f|none=>0
def kX (u:UniL) (i:Nat):Int:=match u.funcs[i]? with|some f=>bodyE u f|none=>0
def vR (f:FunL):Bool:=f.name.toList == [109,97,105,110]
def Ko (u:UniL):Option Nat:=(List.range u.funcs.length).find? fun i=>match u.funcs[i]? with|some f=>vR f|none=>false
def chkO (u:UniL):Option (Int×Int):=
 if 10<u.globals.length\/10<u.funcs.length then some (2,0)
 else match jh u.globals.length (XF u) with
 | some r=>some r
 | none=>match jh u.funcs.length (kf u) with
 | some r=>some r
 | none=>match jh u.funcs.length (kX u) with
 | some r=>some r
 | none=>match Ko u with
 | none=>some (6,0)
 | some m=>if 0<vm u m then some (5,(m:Int))else none
def chk (u:UniL):Int×Int:=(chkO u).getD (0,0)

theorem kF (f:FunL) (i:Nat) (hi:i<f.blocks.length):(kE f).getD i []=f.blocks[i].fin.to:=by
 simp[kE,List.getD,hi]

theorem JE {regs:Int} {nb:Nat} {kind:Int} {r:Bool} {n:Int} {to:List Int} (h:kD regs nb kind r n to=0):to.length<=2/\∀t∈to,1<=t/\t<nb:=by
 unfold kD at h
 by_cases a:1<=kind/\kind<=3
 ·rw[zQ (by simpa using a)]at h
  by_cases b:(to.length:Int)=kind - 1
  ·rw[zQ (by simpa using b)]at h
   by_cases c:to.any (fun t=>!xT t 1 ((nb:Int) - 1))=true
   ·rw[zZ c]at h;cases h
   refine⟨by omega,fun t ht=>?_⟩;rw[List.any_eq_true]at c;have hc:¬(!xT t 1 ((nb:Int) - 1))=true:=fun hh=>c ⟨t,ht,hh⟩;unfold xT at hc;simp at hc;omega
  rw[zZ (by simpa using b)]at h;cases h
 rw[zZ (by simpa using a)]at h;cases h

theorem qj {w:World} {k:Nat} {A:Array Value} {T:TypeId} (h:w.heap[k]?=some (.cells A T (0,0))) (o:Nat) (v:Value):(w.setCell (J k o) v).heap[k]?=some (.cells (A.setIfInBounds o v) T (0,0)):=by
 simp[World.setCell,Array.getElem?_modify,h]
theorem Rows2.at {w:World} {B T n:Nat} {ts ti:TypeId} {ps:List (Nat×Nat)} {f:Nat->Value} (h:Rows2 w B T n ts ti ps f) {i:Nat} (hi:i<n):∃q c,w.cell? (J T i)=some (.slice q (zw ps i).length c):=by
 have hc:=h.tab.cell hi;rcases (h.row i hi).2 with⟨h1,h2⟩|⟨g,cap,cur,h1,_⟩
 ·rw[h1]at hc;exact⟨none,0,by rw[h2];exact hc⟩
 rw[h1]at hc;exact⟨_,_,hc⟩
theorem QM {u:UniL} {f:FunL} {k:Nat} (hk:k<f.blocks.length):Z6 u f k=Yi u f k f.blocks[k]:=by
 unfold Z6;rw[zj hk]
theorem blkI_phi {u:UniL} {f:FunL} {k j:Nat} (hk:k<f.blocks.length) (hj:j<f.blocks[k].phis.length) (h0:∀i (h:i<f.blocks[k].phis.length),i<j->X3 f k (zw (xq f) k).length f.blocks[k].phis[i]=0)
  (h:X3 f k (zw (xq f) k).length f.blocks[k].phis[j]≠0):Z6 u f k=X3 f k (zw (xq f) k).length f.blocks[k].phis[j]:=by
 rw[QM hk];have hl:=vx (l:=f.blocks[k].phis.map (X3 f k (zw (xq f) k).length)) (k:=j) (by simpa using hj) (fun i hi=>by simpa using h0 i bO hi) (by simpa using h);rw[xE]at hl;unfold Yi;rw[hl,zQ h]
theorem blkI_ins {u:UniL} {f:FunL} {k j:Nat} (hk:k<f.blocks.length) (hp:∀i (h:i<f.blocks[k].phis.length),X3 f k (zw (xq f) k).length f.blocks[k].phis[i]=0) (hj:j<f.blocks[k].list.length) (h0:∀i (h:i<f.blocks[k].list.length),i<j->JD u f f.blocks[k].list[i]=0)
  (h:JD u f f.blocks[k].list[j]≠0):Z6 u f k=JD u f f.blocks[k].list[j]:=by
 rw[QM hk]
 have hz:qD (f.blocks[k].phis.map (X3 f k (zw (xq f) k).length))=0:=xe fun x hx=>by
  obtain⟨b,hb,rfl⟩:=yD.1 hx;obtain⟨i,hi,rfl⟩:=yp.1 hb;exact hp i hi
 have hl:=vx (l:=f.blocks[k].list.map (JD u f)) (k:=j) (by simpa using hj) (fun i hi=>by simpa using h0 i bO hi) (by simpa using h);rw[xE]at hl;unfold Yi;rw[zZ hz,hl]
theorem blkI_zero {u:UniL} {f:FunL} {k:Nat} (hk:k<f.blocks.length) (hp:∀i (h:i<f.blocks[k].phis.length),X3 f k (zw (xq f) k).length f.blocks[k].phis[i]=0) (h0:∀i (h:i<f.blocks[k].list.length),JD u f f.blocks[k].list[i]=0):Z6 u f k=0:=by
 rw[QM hk]
 have hz:qD (f.blocks[k].phis.map (X3 f k (zw (xq f) k).length))=0:=xe fun x hx=>by
  obtain⟨b,hb,rfl⟩:=yD.1 hx;obtain⟨i,hi,rfl⟩:=yp.1 hb;exact hp i hi
 unfold Yi;rw[zZ hz]
 exact xe fun x hx=>by
  obtain⟨b,hb,rfl⟩:=yD.1 hx;obtain⟨i,hi,rfl⟩:=yp.1 hb;exact h0 i hi
theorem JF {u:UniL} {f:FunL} {k:Nat} {e:Int} (hA:qD (f.blocks.map fun b=>X6 f b.fin)=0) (hk:k<f.blocks.length) (h0:∀j,j<k->Z6 u f j=0) (h:Z6 u f k=e) (he:e≠0):bodyE u f=e:=by
 unfold bodyE;rw[zZ hA];have hl:=vx (l:=(List.range f.blocks.length).map (Z6 u f)) (k:=k) (by simpa using hk) (fun i hi=>by simpa using h0 i hi) (by simpa[h]using he);rw[hl];simpa using h
theorem Yj {u:UniL} {f:FunL} (hA:qD (f.blocks.map fun b=>X6 f b.fin)=0) (h0:∀j,j<f.blocks.length->Z6 u f j=0):bodyE u f=0:=by
 unfold bodyE;rw[zZ hA]
 exact xe fun x hx=>by
  obtain⟨i,hi,rfl⟩:=yD.1 hx;exact h0 i (yR.1 hi)
theorem parAt {w w':World} {u:UniL} {fp:Option Addr} (h:SliceAt w 4 (FunR w) fp u.funcs) (hb:Below w.heap.size w w'):u.funcs.length=0\/∃fb fo,fp=some (J fb fo)/\∀i,i<u.funcs.length->w'.cell? (J fb (fo+i*4+1))=some (Z (vm u i)):=by
 rcases h with h0|⟨b,o,hp,h⟩
 ·exact .inl (by rw[h0];rfl)
 refine .inr ⟨b,o,hp,fun i hi=>?_⟩;obtain⟨b2,o2,q,c,hp2,_,e1,_⟩:=Q1 (.inr ⟨b,o,hp,h⟩) hb hi;rw[hp]at hp2;cases hp2;rw[e1];simp[vm,List.getD,hi]
theorem Ways.below {w w':World} (h:Ways w) (hb:Below w.heap.size w w'):Ways w':=by
 obtain⟨h0,h1,h2,h3⟩:=h;have hl:=q9 h0;exact⟨(hb.cell (p:=(J 0 _)) hl).trans h0,(hb.cell (p:=(J 0 _)) hl).trans h1,(hb.cell (p:=(J 0 _)) hl).trans h2,(hb.cell (p:=(J 0 _)) hl).trans h3⟩

theorem Kq {w w':World} {b o:Nat} {f:FunL} (h:SliceAt w 6 (BlkR w) (some (J b o)) f.blocks) (hb:Below w.heap.size w w') (i:Nat) (hi:i<f.blocks.length):Vv w' b o i ((kE f).getD i []):=by
 obtain⟨b2,o2,q1,c1,q2,c2,q3,c3,hp,e0,e1,e2,e3,e4,e5,_,_,_,_,_,_,_,ht⟩:=vw h hb hi;cases hp;rw[kF f i hi];exact⟨_,_,_,_,_,_,_,_,_,_,_,e0,e1,e2,e3,e4,e5,ht⟩

theorem body_any (u:UniL) (f:FunL) (g1 fp:Option Addr) (g2 g3 fc bc bb bo:Nat) (w:World)
  (h1:0<=f.regs) (h2:f.regs<=100) (hn1:1<=f.blocks.length) (hn2:f.blocks.length<=40)
  (hfl:u.funcs.length<=10) (hF:SliceAt w 4 (FunR w) fp u.funcs) (hb:SliceAt w 6 (BlkR w) (some (J bb bo)) f.blocks) (hw0:Ways w) :
  Calls Tryz.prog 28 #[.agg #[.slice g1 g2 g3,.slice fp u.funcs.length fc,.string f.name,Z f.params,Z f.regs,.slice (some (J bb bo)) f.blocks.length bc,.slice none 0 0]] w fun e w'=>e = .returned (Z (bodyE u f))/\Below w.heap.size w w':=by
 have HF:Hid (SliceAt w 4 (FunR w) fp u.funcs):=hF;have HB:Hid (SliceAt w 6 (BlkR w) (some (J bb bo)) f.blocks):=hb;have HW:Hid (Ways w):=hw0;clear hF hb hw0
 go_enter Tryz.func28,Tryz.ntmps28
 go_wp2
 go_loopw [18] (fun i wr=>∃k:Nat,k<=f.blocks.length/\i=Z k/\(∀j (h:j<f.blocks.length),j<k->X6 f f.blocks[j].fin=0)/\Below (w.heap.size+1) (w.alloc (.cells #[.slice g1 g2 g3,.slice fp u.funcs.length fc,.string f.name,Z f.params,Z f.regs,.slice (some (J bb bo)) f.blocks.length bc,.slice none 0 0] 67)) wr) (fun i _=>f.blocks.length - (intOf i).toNat)
 case atStart=>exact⟨0,by omega,rfl,fun j _ h=>by omega,zI _ _⟩
 case round=>
  obtain⟨k,hk,rfl,hV,hb⟩:=hrel;have HV:=q8 hV;have HBw:=q8 hb;have hbw:Below w.heap.size w wr:=((zI _ _).alloc (zK _) _).trans (hb.mono bO);have HBx:=q8 hbw;have hz:w.heap.size<wr.heap.size:=by have:=hb.size;simp at this;omega
  obtain⟨hcc,hcf⟩:=blk (qg hb bO (qB _ _));clear hV hb hbw
  by_cases hlt:k<f.blocks.length
  ·obtain⟨b2,o2,q1,c1,q2,c2,q3,c3,hp,e0,e1,e2,e3,e4,e5,_,_,_,_,hl3,_,_,ht⟩:=vw HB.out HBx.out hlt;cases hp;have HT:=q8 ht;have HE:Hid (X6 f f.blocks[k].fin=kD f.regs f.blocks.length f.blocks[k].fin.kind f.blocks[k].fin.onr f.blocks[k].fin.onn f.blocks[k].fin.to):=rfl;clear ht
   go_wp2_with fail
   refine(end_any _ _ _ _ _ _ _ _ _ _ _ _ _ _ _ _ _ _ _ _ _ _ bO bO bO bO ?_ ?_).mono ?_
   ·exact HT.out.mono ((zI _ _).alloc (zK _) _) bO fun _ _ h=>h
   ·exact HW.out.below (HBx.out.alloc bO _)
   rintro e w3 ⟨rfl,hb3⟩;have HN:Hid (Below (w.heap.size+1) (w.alloc (.cells #[.slice g1 g2 g3,.slice fp u.funcs.length fc,.string f.name,Z f.params,Z f.regs,.slice (some (J bb bo)) f.blocks.length bc,.slice none 0 0] 67)) w3):=HBw.out.trans (((zI _ _).alloc bO _).trans (hb3.mono bW));generalize hE:kD f.regs f.blocks.length f.blocks[k].fin.kind f.blocks[k].fin.onr f.blocks[k].fin.onn f.blocks[k].fin.to=ee;have HE2:Hid (X6 f f.blocks[k].fin=ee):=hE;clear hE HE hb3
   by_cases hz0:ee=0
   ·have hzb:(ee != 0)=false:=(by simp[hz0]);have HZ:=q8 hz0;clear hz0
    go_wp2_with fail
    refine⟨⟨k+1,by omega,by go_num,fun j hj hjk=>?_,HN.out⟩,by simp[intOf];omega⟩
    by_cases hj2:j<k
    ·exact HV.out j hj hj2
    obtain rfl:j=k:=(by omega);rw[HE2.out];exact HZ.out
   have hzb:(ee != 0)=true:=(by simp[hz0]);have HZ:=q8 hz0;clear hz0
   go_wp2_with fail
   go_ret
   refine⟨?_,(yo ((zI _ _).alloc (zK _) _) (HN.out.mono bO))⟩
   have hl:qD (f.blocks.map fun b=>X6 f b.fin)=ee:=by
    have:=vx (l:=f.blocks.map fun b=>X6 f b.fin) (k:=k) (by simpa using hlt) (fun j hj=>by simpa using HV.out j bO hj) (by simpa[HE2.out]using HZ.out);simpa[HE2.out]using this
   unfold bodyE;rw[hl,zQ HZ.out];rfl
  have HA:Hid (qD (f.blocks.map fun b=>X6 f b.fin)=0):=by
   refine xe fun x hx=>?_;obtain⟨b,hb,rfl⟩:=yD.1 hx;obtain⟨i,hi,rfl⟩:=yp.1 hb;exact HV.out i hi bO
  have hcnt:∀i,(zw (xq f) i).length<=80:=by
   intro i;have h1:=Ze (xq f) i
   have h2:=Qk (kE f) f.blocks.length f.blocks.length (zK _) (fun i hi=>by
    rw[kF f i hi]
    exact(JE (xY HA.out _ (yD.2 ⟨f.blocks[i],zP hi,rfl⟩))).1)
   unfold xq at h1 ⊢;omega
  go_wp2_with fail
  refine(ahead_any _ _ _ _ _ _ _ (kE f) _ hn2 (fun i hi=>Kq HB.out HBx.out i hi) (fun i hi=>?_)).mono ?_
  ·rw[kF f i hi];exact JE (xY HA.out _ (yD.2 ⟨f.blocks[i],zP hi,rfl⟩))
  rintro e w2 ⟨⟨F,rfl,hR⟩,hb2⟩;have hgK:=qg hb2 hz (qg HBw.out bO (qB w _));obtain⟨hgL,hj7⟩:=blk hgK;have HR:=q8 hR;have HB2:=q8 hb2;clear hR hb2 hcc hcf;have hgK:=q8 hgK
  go_wp2_with fail
  obtain⟨W,hW⟩:∃W,w2.setCell (J w.heap.size 6) (.slice (some (J (wr.heap.size+1) 0)) f.blocks.length f.blocks.length)=W:=⟨_,rfl⟩;rw[hW];have hT:=HR.out.tab.lt;have hWs:W.heap.size=w2.heap.size:=by rw[←hW];simp[World.setCell]
  have hWB:Hid (Below w.heap.size w W):=by
   rw[←hW];exact(HBx.out.trans (HB2.out.mono bO)).setCell (zK _) _
  have hWc:Hid (W.heap[w.heap.size]?=some (.cells #[.slice g1 g2 g3,.slice fp u.funcs.length fc,.string f.name,Z f.params,Z f.regs,.slice (some (J bb bo)) f.blocks.length bc,.slice (some (J (wr.heap.size+1) 0)) f.blocks.length f.blocks.length] 67)):=by
   rw[←hW];exact qj hgK.out 6 _
  have hWr:Hid (∀i,i<f.blocks.length->∃q c,W.cell? (J (wr.heap.size+1) i)=some (.slice q (zw (xq f) i).length c)):=by
   intro i hi;obtain⟨q,c,hc⟩:=HR.out.at hi;rw[←hW];exact⟨q,c,by rw[zN (Below.heap_setCell _ _ _ _ (by show wr.heap.size+1≠w.heap.size;omega))];exact hc⟩
  have hzW:w.heap.size<W.heap.size:=by omega
  clear hW HR HB2 hgL hj7 hgK HBw HBx HV;generalize wr.heap.size+1=T at hT hWc hWr ⊢
  go_loopw [38] (fun i wr=>∃k:Nat,k<=f.blocks.length/\i=Z k/\(∀j,j<k->Z6 u f j=0)/\Below W.heap.size W wr) (fun i _=>f.blocks.length - (intOf i).toNat)
  case atStart=>exact⟨0,by omega,rfl,fun j h=>by omega,zI _ _⟩
  case round=>
   obtain⟨wo,hwo⟩:∃wo:World,wo=wr:=⟨_,rfl⟩;obtain⟨k,hk,rfl,hV,hb⟩:=hrel;have HV:=q8 hV;have HBo:=q8 hb;have hzo:w.heap.size<wr.heap.size:=(by have:=hb.size;omega);have hr8:W.heap.size<=wr.heap.size:=hb.size;have HBx:Hid (Below w.heap.size w wr):=hWB.out.trans (hb.mono bO);have hco:=qg hb hzW hWc.out;obtain⟨hcc,hcf⟩:=blk hco;have HCo:=q8 hco;clear hV hb hco
   by_cases hlt:k<f.blocks.length
   rotate_left
   ·go_wp2
    go_ret
    refine⟨?_,HBx.out⟩;rw[Yj HA.out (fun j hj=>HV.out j bO)];rfl
   obtain⟨b2,o2,q1,c1,q2,c2,q3,c3,hp,e0,e1,e2,e3,e4,e5,_,_,hl1,hl2,hl3,hph,hins,_⟩:=vw HB.out HBx.out hlt;cases hp;have HPH:=q8 hph;have HIN:=q8 hins;clear hph hins
   go_wp2_with fail
   subst hwo
   go_loopw [46] (fun i wq=>∃j:Nat,j<=f.blocks[k].phis.length/\i=Z j/\(∀i (h:i<f.blocks[k].phis.length),i<j->X3 f k (zw (xq f) k).length f.blocks[k].phis[i]=0)/\Below (wo.heap.size+1) (wo.alloc (.cells #[.slice q1 f.blocks[k].phis.length c1,.slice q2 f.blocks[k].list.length c2,Z f.blocks[k].fin.kind,.bool f.blocks[k].fin.onr,Z f.blocks[k].fin.onn,.slice q3 f.blocks[k].fin.to.length c3] 49)) wq) (fun i _=>f.blocks[k].phis.length - (intOf i).toNat)
   case atStart=>exact⟨0,by omega,rfl,fun j _ h=>by omega,zI _ _⟩
   case round=>
    obtain⟨j,hj,rfl,hV,hb⟩:=hrel;have HVp:=q8 hV;have HBp:=q8 hb;have hzp:wo.heap.size<wr.heap.size:=(by have:=hb.size;simp at this;omega);have HBy:Hid (Below wo.heap.size wo wr):=((zI _ _).alloc (zK _) _).trans (hb.mono bO);have hzq:w.heap.size<wr.heap.size:=(by omega);clear hcc hcf;obtain⟨hcc,hcf⟩:=blk (qg HBy.out hzo HCo.out);obtain⟨hbV,hbY⟩:=blk (qg hb bO (qB wo _));clear hV hb
    by_cases hjl:j<f.blocks[k].phis.length
    ·obtain⟨b4,o4,q4,c4,hp4,d0,d1,_,hl4,hsr⟩:=Jz HPH.out HBy.out hjl;subst hp4;have HSR:=q8 hsr;obtain⟨q5,c5,hq5⟩:=hWr.out k hlt;have HQ5:=q8 hq5;clear hsr hq5;have HE:Hid (X3 f k (zw (xq f) k).length f.blocks[k].phis[j]=X0 f.regs k (zw (xq f) k).length f.blocks[k].phis[j].dst f.blocks[k].phis[j].src):=rfl
     go_wp2_with fail
     refine(phi_any _ _ _ _ T 0 _ _ _ _ _ _ _ _ _ _ (zw (xq f) k).length c5 q5 _ _ _ _ _ _ bO bO ?_ ?_ ?_ ?_ ?_ ?_).mono ?_
     ·exact hlt
     ·omega
     ·omega
     ·have:=hcnt k;omega
     ·rw[yx,zN (xG _ _ _ (by show T<_;have:=HBy.out.size;omega)),HBy.out.cell (p:=(J T k)) (by show T<_;omega)];exact(HBo.out.cell (p:=(J T k)) (by show T<_;omega)).trans HQ5.out
     ·exact HSR.out.mono ((zI _ _).alloc (zK _) _) bO fun _ _ h=>h
     rintro e w3 ⟨rfl,hb3⟩;generalize hE:X0 f.regs k (zw (xq f) k).length f.blocks[k].phis[j].dst f.blocks[k].phis[j].src=ee;have HE2:Hid (X3 f k (zw (xq f) k).length f.blocks[k].phis[j]=ee):=hE;have HN:Hid (Below (wo.heap.size+1) (wo.alloc (.cells #[.slice (some (J b4 o4)) f.blocks[k].phis.length c1,.slice q2 f.blocks[k].list.length c2,Z f.blocks[k].fin.kind,.bool f.blocks[k].fin.onr,Z f.blocks[k].fin.onn,.slice q3 f.blocks[k].fin.to.length c3] 49)) w3):=HBp.out.trans (((zI _ _).alloc bO _).trans (hb3.mono bW));clear hE HE hb3
     by_cases hz0:ee=0
     ·have hzb:(ee != 0)=false:=(by simp[hz0]);have HZ:=q8 hz0;clear hz0
      go_wp2_with fail
      refine⟨⟨j+1,by omega,by go_num,fun i hi hij=>?_,HN.out⟩,by simp[intOf];omega⟩
      by_cases hj2:i<j
      ·exact HVp.out i hi hj2
      obtain rfl:i=j:=(by omega);rw[HE2.out];exact HZ.out
     have hzb:(ee != 0)=true:=(by simp[hz0]);have HZ:=q8 hz0;clear hz0
     go_wp2_with fail
     go_ret
     refine⟨?_,HBx.out.trans (yo ((zI _ _).alloc bO _) (HN.out.mono bO))⟩;rw[JF HA.out hlt HV.out (blkI_phi hlt hjl (fun i hi hij=>HVp.out i hi hij) (by rw[HE2.out];exact HZ.out)) (by rw[HE2.out];exact HZ.out),HE2.out];rfl
    have HP0:Hid (∀i (h:i<f.blocks[k].phis.length),X3 f k (zw (xq f) k).length f.blocks[k].phis[i]=0):=fun i hi=>HVp.out i hi bO;clear HVp
    go_wp2_with fail
    go_loopw [61] (fun i wq=>∃j:Nat,j<=f.blocks[k].list.length/\i=Z j/\(∀i (h:i<f.blocks[k].list.length),i<j->JD u f f.blocks[k].list[i]=0)/\Below wr.heap.size wr wq) (fun i _=>f.blocks[k].list.length - (intOf i).toNat)
    case atStart=>exact⟨0,by omega,rfl,fun j _ h=>by omega,zI _ _⟩
    case round=>
     obtain⟨wv,hwv⟩:∃wv:World,wv=wr:=⟨_,rfl⟩;clear hcc hcf hbV hbY;obtain⟨j2,hj2,rfl,hV,hb⟩:=hrel;have HVi:=q8 hV;have HBi:=q8 hb;have HBz:Hid (Below wo.heap.size wo wr):=HBy.out.trans (hb.mono HBy.out.size);have hzs:wo.heap.size<=wr.heap.size:=HBz.out.size;have huG:w.heap.size<wr.heap.size:=(by omega);obtain⟨hcc,hcf⟩:=blk (qg HBz.out hzo HCo.out);clear hV hb
     by_cases hnv:j2<f.blocks[k].list.length
     rotate_left
     ·go_wp2_with fail
      refine⟨⟨k+1,by omega,by go_num,fun i hi=>?_,HBo.out.trans (HBz.out.mono hr8)⟩,by simp[intOf];omega⟩
      by_cases hj3:i<k
      ·exact HV.out i hj3
      obtain rfl:i=k:=(by omega);exact blkI_zero hlt HP0.out (fun i hi=>HVi.out i hi bO)
     obtain⟨b4,o4,q4,c4,hp4,d0,d1,d2,d3,d4,d5,d6,d7,_,_,_,_,_,hl4,hsr⟩:=Zp HIN.out HBz.out hnv;subst hp4;have HSR:=q8 hsr;clear hsr;have HE:Hid (JD u f f.blocks[k].list[j2]=jX f.regs u.funcs.length (vm u) f.blocks[k].list[j2].op f.blocks[k].list[j2].dst f.blocks[k].list[j2].an f.blocks[k].list[j2].bn f.blocks[k].list[j2].fn f.blocks[k].list[j2].ar f.blocks[k].list[j2].br f.blocks[k].list[j2].args):=rfl;subst hwv
     go_wp2_with fail
     refine(ins_any _ _ _ _ _ _ _ _ _ _ _ _ _ _ _ _ _ _ _ _ _ _ _ _ (vm u) _ _ bO bO bO ?_ ?_ ?_).mono ?_
     ·exact parAt HF.out (HBx.out.trans ((HBz.out.mono bO).trans ((zI _ _).alloc bO _)))
     ·omega
     ·exact HSR.out.mono ((zI _ _).alloc (zK _) _) bO fun _ _ h=>h
     rintro e w3 ⟨rfl,hb3⟩;generalize hE:jX f.regs u.funcs.length (vm u) f.blocks[k].list[j2].op f.blocks[k].list[j2].dst f.blocks[k].list[j2].an f.blocks[k].list[j2].bn f.blocks[k].list[j2].fn f.blocks[k].list[j2].ar f.blocks[k].list[j2].br f.blocks[k].list[j2].args=ee;have HE2:Hid (JD u f f.blocks[k].list[j2]=ee):=hE;have HN:Hid (Below wv.heap.size wv w3):=((zI _ _).alloc (zK _) _).trans (hb3.mono bV);clear hE HE hb3
     by_cases hz0:ee=0
     ·have hzb:(ee != 0)=false:=(by simp[hz0]);have HZ:=q8 hz0;clear hz0
      go_wp2_with fail
      refine⟨⟨j2+1,by omega,by go_num,fun i hi hij=>?_,HBi.out.trans (HN.out.mono HBi.out.size)⟩,by simp[intOf];omega⟩
      by_cases hj3:i<j2
      ·exact HVi.out i hi hj3
      obtain rfl:i=j2:=(by omega);rw[HE2.out];exact HZ.out
     have hzb:(ee != 0)=true:=(by simp[hz0]);have HZ:=q8 hz0;clear hz0
     go_wp2_with fail
     go_ret
     refine⟨?_,HBx.out.trans ((HBz.out.trans (HN.out.mono hzs)).mono bO)⟩;rw[JF HA.out hlt HV.out (blkI_ins hlt HP0.out hnv (fun i hi hij=>HVi.out i hi hij) (by rw[HE2.out];exact HZ.out)) (by rw[HE2.out];exact HZ.out),HE2.out];rfl

def jZ (f:FunL) (k:Nat):Nat:=((f.blocks.take k).map fun b=>b.phis.length+b.list.length).sum
theorem Qa (f:FunL) (k:Nat) (hk:k<f.blocks.length):jZ f (k+1)=jZ f k+(f.blocks[k].phis.length+f.blocks[k].list.length):=by
 unfold jZ;rw[yA hk,yW,List.sum_append];simp
theorem QN (f:FunL):jZ f f.blocks.length=xu f:=by
 unfold jZ xu;rw[yP]


theorem kG {w w':World} {p:Option Addr} {S:List ByteArray} (h:Ql w p S) (hb:Below w.heap.size w w'):Ql w' p S:=by
 rcases h with h|⟨b,o,hp,h⟩
 ·exact .inl h
 exact .inr ⟨b,o,hp,fun i hi=>(hb.cell (p:=(J b (o+i))) (q9 (h i hi))).trans (h i hi)⟩

theorem head_any (f:FunL) (names:List ByteArray) (g1 fp bp np:Option Addr) (g2 g3 fl fc bc nc:Nat) (w:World)
  (hs:f.name.size<=maxLen) (hr1:I64 f.params) (hr2:I64 f.regs) (hbl:f.blocks.length*96<=140737488351232) (hb:SliceAt w 6 (BlkR w) bp f.blocks) (hnl:names.length<=9223372036854775807) (hN:Ql w np names) :
  Calls Tryz.prog 27 #[.agg #[.slice g1 g2 g3,.slice fp fl fc,.string f.name,Z f.params,Z f.regs,.slice bp f.blocks.length bc,.slice none 0 0],.slice np names.length nc] w fun e w'=>e = .returned (Z (jx names f))/\Below w.heap.size w w':=by
 have HB:=q8 hb;have HN:=q8 hN;obtain⟨hp1,hp2⟩:=hr1;obtain⟨hp3,hp4⟩:=hr2;clear hb hN
 go_enter Tryz.func27,Tryz.ntmps27
 go_wp2
 go_loopw [5,12] (fun m i wr=>∃(k:Nat) (x:Int),k<=f.blocks.length/\i=Z k/\m=Z x/\(f.blocks.length<=40->x=jZ f k/\jZ f k<=k*10000000000000)/\Below (w.heap.size+1) (w.alloc (.cells #[.slice g1 g2 g3,.slice fp fl fc,.string f.name,Z f.params,Z f.regs,.slice bp f.blocks.length bc,.slice none 0 0] 67)) wr) (fun _ i _=>f.blocks.length - (intOf i).toNat)
 case atStart=>exact⟨0,0,by omega,rfl,rfl,fun _=>by simp[jZ],zI _ _⟩
 case round=>
  obtain⟨k,x,hk,rfl,rfl,hV,hb⟩:=hrel;have HV:=q8 hV;have HBw:=q8 hb;have HBx:Hid (Below w.heap.size w wr):=((zI _ _).alloc (zK _) _).trans (hb.mono bO);have hz:w.heap.size<wr.heap.size:=by have:=hb.size;simp at this;omega
  obtain⟨hcc,hcf⟩:=blk (qg hb bO (qB w _));clear hV hb
  by_cases hlt:k<f.blocks.length
  ·obtain⟨b2,o2,q1,c1,q2,c2,q3,c3,hp,e0,e1,e2,e3,e4,e5,_,_,hl1,hl2,_,_,_,_⟩:=vw HB.out HBx.out hlt;subst hp
   go_wp2
   refine⟨⟨k+1,_,by omega,by go_num,rfl,fun h40=>?_,HBw.out.alloc bO _⟩,by simp[intOf];omega⟩;obtain⟨h1,h2⟩:=HV.out h40;rw[Qa f k hlt];refine⟨?_,by omega⟩;rw[IntWalk.wrap64_in _ ⟨by omega,by omega⟩,h1];omega
  have HM:Hid (f.blocks.length<=40->x=xu f):=by
   intro h;have:=(HV.out h).1;rw[show k=f.blocks.length by omega,QN]at this;exact this
  clear HV;have HW:=q8 (HN.out);cases hnb:k9 f.name
  ·have HE:Hid (jx names f=12):=by show _=_;unfold jx;rw[zZ hnb]
   go_wp2_with (go_at_call 24;refine(Zd _ _ hs).mono ?_;rintro e w1 ⟨rfl,rfl⟩)
   go_ret
   exact⟨by rw[HE.out];rfl,HBx.out⟩
  cases hhb:JC names f.name
  rotate_left
  ·have HE:Hid (jx names f=7):=by show _=_;unfold jx;rw[zQ (by simp[hnb]),zZ hhb]
   go_wp2_with (first|(go_at_call 24;refine(Zd _ _ hs).mono ?_;rintro e w1 ⟨rfl,rfl⟩)|(go_at_call 25;refine(ke _ _ _ _ _ hnl (kG HW.out HBx.out)).mono ?_;rintro e w1 ⟨rfl,rfl⟩))
   go_ret
   exact⟨by rw[HE.out];rfl,HBx.out⟩
  have HE1:Hid (jx names f=if ¬(0<=f.params/\f.params<=6)\/¬(f.params<=f.regs/\f.regs<=100)then 3 else if ¬(1<=f.blocks.length/\f.blocks.length<=40)\/300<xu f then 2 else 0):=by show _=_;unfold jx;rw[zQ (by simp[hnb]),zQ (by simp[hhb])]
  go_wp2_with (first|(go_at_call 24;refine(Zd _ _ hs).mono ?_;rintro e w1 ⟨rfl,rfl⟩)|(go_at_call 25;refine(ke _ _ _ _ _ hnl (kG HW.out HBx.out)).mono ?_;rintro e w1 ⟨rfl,rfl⟩)|(go_at_call 26;refine(qJ _ _ _ _).mono ?_;rintro e w1 ⟨rfl,rfl⟩))
  all_goals
   go_ret
   refine⟨?_,HBx.out⟩;rw[HE1.out];refine congrArg (fun n=>Ending.returned (Z n)) ?_;clear HE1 HB HN HW HBw HBx hcc hcf;have HM2:=HM.out;clear HM;simp only[xT,yY,xA,Bool.not_eq_eq_eq_not,Bool.not_true,Bool.not_false]at *
   first|(rw[zZ bO])|(rw[zQ bO,zZ bO])|(rw[zQ bO,zQ bO])|trace_state

theorem Yk (nm:ByteArray) (params regs:Int) (bp:Option Addr) (bl bc:Nat) (w:World) :
  Calls Tryz.prog 30 #[.agg #[.string nm,Z params,Z regs,.slice bp bl bc]] w fun e w'=>e = .returned (.bool (nm.toList == [109,97,105,110]))/\Below w.heap.size w w':=by
 go_enter Tryz.func30,Tryz.ntmps30
 go_wp2
 go_ret
 exact⟨rfl,by exact bZ⟩

def kb (xs:List FunL):Option Nat:=(List.range xs.length).find? fun i=>match xs[i]? with|some f=>vR f|none=>false
theorem mainI_hit {xs:List FunL} {k:Nat} (hk:k<xs.length) (h0:∀j (h:j<xs.length),j<k->vR xs[j]=false) (h:vR xs[k]=true):kb xs=some k:=by
 unfold kb;refine Xf _ _ _ hk (fun j hj=>?_) ?_
 ·rw[zj bO];exact h0 j bO hj
 rw[zj hk];exact h
theorem Yl {xs:List FunL} (h0:∀j (h:j<xs.length),vR xs[j]=false):kb xs=none:=by
 unfold kb;rw[List.find?_eq_none];intro i hi;have hi:=yR.1 hi;rw[zj hi];simp[h0 i hi]
def optI (o:Option Nat):Int:=match o with|some k=>(k:Int)|none=>-1

theorem XG (xs:List FunL) (fp:Option Addr) (fc:Nat) (w:World) (hl:xs.length<=9223372036854775807) (hF:SliceAt w 4 (FunR w) fp xs) :
  Calls Tryz.prog 29 #[.slice fp xs.length fc,.func (.func 30) #[] #[]] w fun e w'=>e = .returned (Z (optI (kb xs)))/\Below w.heap.size w w':=by
 have HF:=q8 hF;clear hF
 go_enter Tryz.func29,Tryz.ntmps29
 go_wp2
 go_loopw [8] (fun i wr=>∃k:Nat,k<=xs.length/\i=Z k/\(∀j (h:j<xs.length),j<k->vR xs[j]=false)/\Below w.heap.size w wr) (fun i _=>xs.length - (intOf i).toNat)
 case atStart=>exact⟨0,by omega,rfl,fun j _ h=>by omega,zI _ _⟩
 case round=>
  obtain⟨k,hk,rfl,hV,hb⟩:=hrel;have HV:=q8 hV;have HBw:=q8 hb;clear hV hb
  by_cases hlt:k<xs.length
  rotate_left
  ·go_wp2_with fail
   go_ret
   refine⟨?_,HBw.out⟩;rw[Yl (fun j hj=>HV.out j hj bO)];rfl
  obtain⟨b,o,q,c,hp,e0,e1,e2,e3,_⟩:=Q1 HF.out HBw.out hlt;subst hp
  go_wp2_with fail
  refine(Yk _ _ _ _ _ _ _).mono ?_;rintro e w3 ⟨rfl,hb3⟩;have HB3:=q8 hb3;have HE:Hid (vR xs[k]=(xs[k].name.toList == [109,97,105,110])):=rfl;clear hb3;cases hm:(xs[k].name.toList == [109,97,105,110])
  ·have HM:Hid (vR xs[k]=false):=HE.out.trans hm;clear hm
   go_wp2_with fail
   refine⟨⟨k+1,by omega,by go_num,fun j hj hjk=>?_,HBw.out.trans (HB3.out.mono HBw.out.size)⟩,by simp[intOf];omega⟩
   by_cases hj2:j<k
   ·exact HV.out j hj hj2
   obtain rfl:j=k:=(by omega);exact HM.out
  have HM:Hid (vR xs[k]=true):=HE.out.trans hm;clear hm
  go_wp2_with fail
  go_ret
  refine⟨?_,HBw.out.trans (HB3.out.mono HBw.out.size)⟩;rw[mainI_hit hlt HV.out HM.out];rfl
end Go.Proofs.YtgjjhadbjmcnpaaGreatDoor
