/-
  The contract of the checker's ins, of every instruction.
-/
import Derived.Test.YtecdphhdmjmmnaaGreatDoorJChkD
set_option maxRecDepth 100000
set_option maxHeartbeats 16000000
namespace Go.Proofs.YtecdphhdmjmmnaaGreatDoor
open Go.RowKit

def qA:List Int→Int
 | []=>0
 | x::l=>if x=0 then qA l else x

theorem Qm {α:Type} (g:α→Int) (l:List α) (k:Nat) (h:k<l.length):qA ((l.drop k).map g)=if g l[k]=0 then qA ((l.drop (k+1)).map g)else g l[k]:=by
 rw[List.drop_eq_getElem_cons h];rfl

def valsE (regs:Int) (l:List (Bool×Int)):Int:=qA (l.map fun v=>zX regs v.1 v.2)

def Zu (regs:Int) (block cnt:Nat) (dst:Int) (l:List (Bool×Int)):Int:=
 if block=0 then 5
 else if vS regs dst≠0 then vS regs dst
 else if l.length≠cnt then 9
 else valsE regs l

theorem phi_0 (g1 f1 b1 a1 p:Option Addr) (g2 g3 f2 f3 b2 b3 a2 a3 l c cnt:Nat) (nm:ByteArray) (params regs dst:Int) (L:List (Bool×Int)) (w:World) :
  Calls Tryz.prog 56 #[.agg #[.slice g1 g2 g3,.slice f1 f2 f3,.string nm,.int .i64 params,.int .i64 regs,.slice b1 b2 b3,.slice a1 a2 a3],.int .i64 0,.agg #[.int .i64 dst,.slice p l c]] w fun e w'=>e = .returned (.int .i64 (Zu regs 0 cnt dst L))∧Below w.heap.size w w':=by
 go_enter Tryz.func56,Tryz.ntmps56
 go_wp2
 go_ret
 refine⟨rfl,?_⟩
 exact bZ

theorem phi_dst (g1 f1 b1 a1 p:Option Addr) (g2 g3 f2 f3 b2 b3 a2 a3 l c block cnt:Nat) (nm:ByteArray) (params regs dst:Int) (L:List (Bool×Int)) (w:World)
  (h1:0≤regs) (h2:regs≤9223372036854775807) (h0:block≠0) (hd:vS regs dst≠0) :
  Calls Tryz.prog 56 #[.agg #[.slice g1 g2 g3,.slice f1 f2 f3,.string nm,.int .i64 params,.int .i64 regs,.slice b1 b2 b3,.slice a1 a2 a3],.int .i64 block,.agg #[.int .i64 dst,.slice p l c]] w fun e w'=>e = .returned (.int .i64 (Zu regs block cnt dst L))∧Below w.heap.size w w':=by
 have HV:Hid (Zu regs block cnt dst L=vS regs dst):=by show _=_;unfold Zu;rw[if_neg h0,if_pos hd]
 have hb0:((block:Int) == 0)=false:=by simp[h0]
 have hdb:(vS regs dst == 0)=false:=by simp[hd]
 go_enter Tryz.func56,Tryz.ntmps56
 go_wp2_with (go_at_call 88;refine(Qk _ _ _ _ _ _ _ _ _ _ _ _ _ _ _ _ _ h1 h2).mono ?_;rintro e w3 ⟨rfl,hb3⟩)
 go_ret
 refine⟨by rw[HV.out];rfl,?_⟩
 exact bZ

theorem phi_len (g1 f1 b1 p:Option Addr) (ab ao:Nat) (g2 g3 f2 f3 b2 b3 a2 a3 l c block cnt qc:Nat) (q:Option Addr) (nm:ByteArray) (params regs dst:Int) (L:List (Bool×Int)) (w:World)
  (h1:0≤regs) (h2:regs≤9223372036854775807) (h0:block≠0) (hd:vS regs dst=0) (hl:l=L.length) (hne:l≠cnt) (hbl:block<a2) (_ha2:a2≤9223372036854775807) (_hl1:l≤9223372036854775807) (_hl2:cnt≤9223372036854775807) (hc:w.cell? ⟨ab,ao+block,none⟩=some (.slice q cnt qc)) :
  Calls Tryz.prog 56 #[.agg #[.slice g1 g2 g3,.slice f1 f2 f3,.string nm,.int .i64 params,.int .i64 regs,.slice b1 b2 b3,.slice (some ⟨ab,ao,none⟩) a2 a3],.int .i64 block,.agg #[.int .i64 dst,.slice p l c]] w fun e w'=>e = .returned (.int .i64 (Zu regs block cnt dst L))∧Below w.heap.size w w':=by
 have HV:Hid (Zu regs block cnt dst L=9):=by show _=_;unfold Zu;rw[if_neg h0,if_neg (by simp[hd]),if_pos (by omega)]
 have hb0:((block:Int) == 0)=false:=by simp[h0]
 have hdb:(vS regs dst != 0)=false:=by simp[hd]
 have hn:((l:Int) != (cnt:Int))=true:=by simp;omega
 have hsz:=q8 hc
 have hsz1:ab<w.heap.size+1:=by omega
 have hsz2:ab<w.heap.size+1+1:=by omega
 clear hd
 go_enter Tryz.func56,Tryz.ntmps56
 go_wp2_with (go_at_call 88;refine(Qk _ _ _ _ _ _ _ _ _ _ _ _ _ _ _ _ _ h1 h2).mono ?_;rintro e w3 ⟨rfl,hb3⟩;obtain⟨hc3,hf3,hz3⟩:=Q5 hb3;simp at hz3)
 have hz4:w.heap.size<w3.heap.size:=by omega
 have hz5:w.heap.size+1<w3.heap.size:=by omega
 go_quiet (fail)
 go_wp2
 go_ret
 refine⟨by rw[HV.out];rfl,?_⟩
 exact bZ

theorem phi_vals (g1 f1 b1:Option Addr) (pb po ab ao:Nat) (g2 g3 f2 f3 b2 b3 a2 a3 c block cnt qc:Nat) (q:Option Addr) (nm:ByteArray) (params regs dst:Int) (L:List (Bool×Int)) (w:World)
  (h1:0≤regs) (h2:regs≤9223372036854775807) (h0:block≠0) (hd:vS regs dst=0) (hne:L.length=cnt) (hbl:block<a2) (_ha2:a2≤9223372036854775807) (hl2:cnt≤9223372036854775807) (hc:w.cell? ⟨ab,ao+block,none⟩=some (.slice q cnt qc))
  (hL:∀i (h:i<L.length),w.cell? ⟨pb,po+i*2,none⟩=some (.bool L[i].1)∧w.cell? ⟨pb,po+i*2+1,none⟩=some (.int .i64 L[i].2)) (hpb:L≠[]→pb<w.heap.size) :
  Calls Tryz.prog 56 #[.agg #[.slice g1 g2 g3,.slice f1 f2 f3,.string nm,.int .i64 params,.int .i64 regs,.slice b1 b2 b3,.slice (some ⟨ab,ao,none⟩) a2 a3],.int .i64 block,.agg #[.int .i64 dst,.slice (some ⟨pb,po,none⟩) cnt c]] w fun e w'=>e = .returned (.int .i64 (Zu regs block cnt dst L))∧Below w.heap.size w w':=by
 have HV:Hid (Zu regs block cnt dst L=qA (L.map fun v=>zX regs v.1 v.2)):=by show _=_;unfold Zu;rw[if_neg h0,if_neg (by simp[hd]),if_neg (by omega)];rfl
 have hb0:((block:Int) == 0)=false:=by simp[h0]
 have hdb:(vS regs dst != 0)=false:=by simp[hd]
 have hsz:=q8 hc
 have hsz1:ab<w.heap.size+1:=by omega
 have hsz2:ab<w.heap.size+1+1:=by omega
 have HL:Hid (∀i (h:i<L.length),w.cell? ⟨pb,po+i*2,none⟩=some (.bool L[i].1)∧w.cell? ⟨pb,po+i*2+1,none⟩=some (.int .i64 L[i].2)):=hL
 have HN:Hid (L.length=cnt):=hne
 have HP:Hid (L≠[]→pb<w.heap.size):=hpb
 clear hd hL hne hpb
 go_enter Tryz.func56,Tryz.ntmps56
 go_wp2_with (go_at_call 88;refine(Qk _ _ _ _ _ _ _ _ _ _ _ _ _ _ _ _ _ h1 h2).mono ?_;rintro e w3 ⟨rfl,hb3⟩;obtain⟨hc3,hf3,hz3⟩:=Q5 hb3;simp at hz3)
 have hz4:w.heap.size<w3.heap.size:=by omega
 have hz5:w.heap.size+1<w3.heap.size:=by omega
 have HB0:Hid (Below w.heap.size w w3):=(((Below.refl _ _).alloc (Nat.le_refl _) _).alloc (by simp) _).trans (hb3.mono (by simp;omega))
 go_quiet (fail)
 go_wp2
 go_loopw [33] (fun i wr=>∃k:Nat,k≤cnt∧i = .int .i64 k∧qA ((L.drop k).map fun v=>zX regs v.1 v.2)=qA (L.map fun v=>zX regs v.1 v.2)∧Below w3.heap.size w3 wr) (fun i _=>cnt - (intOf i).toNat)
 case atStart=>exact⟨0,by omega,rfl,rfl,by exact bZ⟩
 case round=>
  obtain⟨k,hk,rfl,hV,hB⟩:=hrel
  have HF:Hid (qA ((L.drop k).map fun v=>zX regs v.1 v.2)=qA (L.map fun v=>zX regs v.1 v.2)):=hV
  obtain⟨hcr,hfr,hzr⟩:=Q5 hB
  have HB:Hid (Below w3.heap.size w3 wr):=hB
  clear hV hB
  by_cases hlt:k<cnt
  rotate_left
  ·have HZ:Hid (qA (L.map fun v=>zX regs v.1 v.2)=0):=by
    have hk2:k=L.length:=by have:=HN.out;omega
    show _=_
    rw[←HF.out,hk2];simp[qA]
   have HBw:Hid (Below w.heap.size w wr):=HB0.out.trans (HB.out.mono HB0.out.size)
   clear HF
   go_wp2
   go_ret
   refine⟨by rw[HV.out,HZ.out];rfl,?_⟩
   exact HBw.out
  have hlt2:k<L.length:=by have:=HN.out;omega
  have hpb:pb<w.heap.size:=HP.out (by rintro rfl;simp at hlt2)
  have HBw:Hid (Below w.heap.size w wr):=HB0.out.trans (HB.out.mono HB0.out.size)
  have d0:=(HBw.out.cell (p:=⟨pb,po+k*2,none⟩) hpb).trans (HL.out k hlt2).1
  have d1:=(HBw.out.cell (p:=⟨pb,po+k*2+1,none⟩) hpb).trans (HL.out k hlt2).2
  have d2:pb<wr.heap.size:=by have:=HBw.out.size;omega
  have HD:Hid (qA ((L.drop k).map fun v=>zX regs v.1 v.2)=if zX regs L[k].1 L[k].2=0 then qA ((L.drop (k+1)).map fun v=>zX regs v.1 v.2)else zX regs L[k].1 L[k].2):=Qm (fun v:Bool×Int=>zX regs v.1 v.2) L k hlt2
  rw[HF.out]at HD
  generalize L[k].1=r at d0 HD
  generalize L[k].2=n at d1 HD
  clear HF hlt2 hpb
  have hz6:w.heap.size<wr.heap.size:=by omega
  have hz7:w.heap.size+1<wr.heap.size:=by omega
  by_cases hv:zX regs r n=0
  ·have hvb:(zX regs r n != 0)=false:=by simp[hv]
   have HD2:=HD.out
   rw[if_pos hv]at HD2
   replace HD:Hid (qA (L.map fun v=>zX regs v.1 v.2)=qA ((L.drop (k+1)).map fun v=>zX regs v.1 v.2)):=HD2
   clear HD2 hv
   go_wp2_with (go_at_call 87;refine(jz _ _ _ _ _ _ _ _ _ _ _ _ _ _ _ _ _ _ h1 h2).mono ?_;rintro e w4 ⟨rfl,hb4⟩)
   refine⟨⟨k+1,by omega,by go_num,HD.out.symm,?_⟩,by simp[intOf];omega⟩
   exact HB.out.trans (Below.trans bZ (hb4.mono (by have:=HB.out.size;simp;omega)))
  have hvb:(zX regs r n != 0)=true:=by simp[hv]
  have HD2:=HD.out
  rw[if_neg hv]at HD2
  replace HD:Hid (qA (L.map fun v=>zX regs v.1 v.2)=zX regs r n):=HD2
  clear HD2 hv
  go_wp2_with (go_at_call 87;refine(jz _ _ _ _ _ _ _ _ _ _ _ _ _ _ _ _ _ _ h1 h2).mono ?_;rintro e w4 ⟨rfl,hb4⟩)
  go_ret
  refine⟨by rw[HV.out,HD.out];rfl,?_⟩
  exact HBw.out.trans (Below.trans bZ (hb4.mono (by have:=HBw.out.size;simp;omega)))

theorem phi_nil (g1 f1 b1 p:Option Addr) (ab ao:Nat) (g2 g3 f2 f3 b2 b3 a2 a3 c block qc:Nat) (q:Option Addr) (nm:ByteArray) (params regs dst:Int) (w:World)
  (h1:0≤regs) (h2:regs≤9223372036854775807) (h0:block≠0) (hd:vS regs dst=0) (hbl:block<a2) (_ha2:a2≤9223372036854775807) (hc:w.cell? ⟨ab,ao+block,none⟩=some (.slice q 0 qc)) :
  Calls Tryz.prog 56 #[.agg #[.slice g1 g2 g3,.slice f1 f2 f3,.string nm,.int .i64 params,.int .i64 regs,.slice b1 b2 b3,.slice (some ⟨ab,ao,none⟩) a2 a3],.int .i64 block,.agg #[.int .i64 dst,.slice p 0 c]] w fun e w'=>e = .returned (.int .i64 (Zu regs block 0 dst []))∧Below w.heap.size w w':=by
 have HV:Hid (Zu regs block 0 dst []=0):=by show _=_;unfold Zu;rw[if_neg h0,if_neg (by simp[hd]),if_neg (by simp)];rfl
 have hb0:((block:Int) == 0)=false:=by simp[h0]
 have hdb:(vS regs dst != 0)=false:=by simp[hd]
 have hsz:=q8 hc
 have hsz1:ab<w.heap.size+1:=by omega
 have hsz2:ab<w.heap.size+1+1:=by omega
 clear hd
 go_enter Tryz.func56,Tryz.ntmps56
 go_wp2_with (go_at_call 88;refine(Qk _ _ _ _ _ _ _ _ _ _ _ _ _ _ _ _ _ h1 h2).mono ?_;rintro e w3 ⟨rfl,hb3⟩;obtain⟨hc3,hf3,hz3⟩:=Q5 hb3;simp at hz3)
 have hz4:w.heap.size<w3.heap.size:=by omega
 have hz5:w.heap.size+1<w3.heap.size:=by omega
 have HB0:Hid (Below w.heap.size w w3):=(((Below.refl _ _).alloc (Nat.le_refl _) _).alloc (by simp) _).trans (hb3.mono (by simp;omega))
 go_quiet (fail)
 go_wp2
 go_loop [33] (fun i=>i = .int .i64 0) (fun _=>0)
 case atStart=>rfl
 case round=>
  subst hrel
  go_wp2
  go_ret
  refine⟨by rw[HV.out];rfl,?_⟩
  exact below_drewN HB0.out _

theorem phi_any (g1 f1 b1 p:Option Addr) (ab ao:Nat) (g2 g3 f2 f3 b2 b3 a2 a3 c block cnt qc:Nat) (q:Option Addr) (nm:ByteArray) (params regs dst:Int) (L:List (Bool×Int)) (w:World)
  (h1:0≤regs) (h2:regs≤9223372036854775807) (hbl:block<a2) (ha2:a2≤9223372036854775807) (hl1:L.length≤9223372036854775807) (hl2:cnt≤9223372036854775807) (hc:w.cell? ⟨ab,ao+block,none⟩=some (.slice q cnt qc)) (hL:SliceAt w 2 vO p L) :
  Calls Tryz.prog 56 #[.agg #[.slice g1 g2 g3,.slice f1 f2 f3,.string nm,.int .i64 params,.int .i64 regs,.slice b1 b2 b3,.slice (some ⟨ab,ao,none⟩) a2 a3],.int .i64 block,.agg #[.int .i64 dst,.slice p L.length c]] w fun e w'=>e = .returned (.int .i64 (Zu regs block cnt dst L))∧Below w.heap.size w w':=by
 by_cases h0:block=0
 ·subst h0;exact phi_0 _ _ _ _ _ _ _ _ _ _ _ _ _ _ _ _ _ _ _ _ _ _
 by_cases hd:vS regs dst=0
 ·by_cases hne:L.length=cnt
  ·rcases hL with rfl|⟨b,o,rfl,h⟩
   ·subst hne;exact phi_nil _ _ _ _ _ _ _ _ _ _ _ _ _ _ _ _ _ _ _ _ _ _ _ h1 h2 h0 hd hbl ha2 hc
   rw[hne]
   have hx:∀i (h:i<L.length),w.cell? ⟨b,o+i*2,none⟩=some (.bool L[i].1)∧w.cell? ⟨b,o+i*2+1,none⟩=some (.int .i64 L[i].2):=fun i hi=>by
    obtain⟨cs,_,hc,⟨rfl,_⟩⟩:=h i hi
    exact⟨hc 0 (by omega),hc 1 (by omega)⟩
   refine phi_vals _ _ _ _ _ _ _ _ _ _ _ _ _ _ _ _ _ _ _ _ _ _ _ _ _ _ h1 h2 h0 hd hne hbl ha2 hl2 hc hx fun hn=>?_
   have hp:0<L.length:=List.length_pos_iff.2 hn
   exact q8 (hx 0 hp).1
  exact phi_len _ _ _ _ _ _ _ _ _ _ _ _ _ _ _ _ _ _ _ _ _ _ _ _ _ _ h1 h2 h0 hd rfl hne hbl ha2 hl1 hl2 hc
 exact phi_dst _ _ _ _ _ _ _ _ _ _ _ _ _ _ _ _ _ _ _ _ _ _ _ h1 h2 h0 hd

def VI (F:FuncId) (caps:Array Value) (w:World) (e:Int):Prop:=
 ∀w1:World,Below w.heap.size w w1→Calls Tryz.prog F caps w1 fun x w2=>x = .returned (.int .i64 e)∧Below w1.heap.size w1 w2

theorem Xg (sb so sc:Nat) (B X C:Addr) (e1 e2 e3:Int) (w:World)
  (h0:w.cell? ⟨sb,so,none⟩=some (.func (.func 91) #[] #[.pointer (some B),.pointer (some X)]))
  (h1:w.cell? ⟨sb,so+1,none⟩=some (.func (.func 92) #[] #[.pointer (some B),.pointer (some X)]))
  (h2:w.cell? ⟨sb,so+2,none⟩=some (.func (.func 93) #[] #[.pointer (some C),.pointer (some X),.pointer (some B)]))
  (a1:VI 91 #[.pointer (some B),.pointer (some X)] w e1) (a2:VI 92 #[.pointer (some B),.pointer (some X)] w e2) (a3:VI 93 #[.pointer (some C),.pointer (some X),.pointer (some B)] w e3) :
  Calls Tryz.prog 90 #[.slice (some ⟨sb,so,none⟩) 3 sc] w fun e w'=>e = .returned (.int .i64 (qA [e1,e2,e3]))∧Below w.heap.size w w':=by
 have A1:Hid (VI 91 #[.pointer (some B),.pointer (some X)] w e1):=a1
 have A2:Hid (VI 92 #[.pointer (some B),.pointer (some X)] w e2):=a2
 have A3:Hid (VI 93 #[.pointer (some C),.pointer (some X),.pointer (some B)] w e3):=a3
 have hsb:=q8 h0
 clear a1 a2 a3
 go_enter Tryz.func90,Tryz.ntmps90
 go_wp2
 go_loopw [8] (fun i wr=>∃k:Nat,i = .int .i64 k∧(k=0∨(k=1∧e1=0)∨(k=2∧e1=0∧e2=0)∨(k=3∧e1=0∧e2=0∧e3=0))∧Below w.heap.size w wr) (fun i _=>3 - (intOf i).toNat)
 case atStart=>exact⟨0,rfl,.inl rfl,Below.refl _ _⟩
 case round=>
  obtain⟨k,rfl,hk,hB⟩:=hrel
  have HB:Hid (Below w.heap.size w wr):=hB
  have g0:=(hB.cell (p:=⟨sb,so,none⟩) hsb).trans h0
  have g1:=(hB.cell (p:=⟨sb,so+1,none⟩) hsb).trans h1
  have g2:=(hB.cell (p:=⟨sb,so+2,none⟩) hsb).trans h2
  clear hB
  rcases hk with rfl|⟨rfl,z1⟩|⟨rfl,z1,z2⟩|⟨rfl,z1,z2,z3⟩
  ·by_cases hz:e1=0
   ·have hzb:(e1 != 0)=false:=by simp[hz]
    have HZ:Hid (e1=0):=hz
    clear hz
    go_wp2_with fail
    refine(A1.out _ HB.out).mono ?_
    rintro e w2 ⟨rfl,hb2⟩
    have HB2:Hid (Below w.heap.size w w2):=HB.out.trans (hb2.mono HB.out.size)
    clear hb2
    go_wp2
    exact⟨⟨1,by go_num,.inr (.inl ⟨rfl,HZ.out⟩),HB2.out⟩,by simp[intOf]⟩
   have hzb:(e1 != 0)=true:=by simp[hz]
   have HV:Hid (qA [e1,e2,e3]=e1):=by show _=_;simp[qA,hz]
   clear hz
   go_wp2_with fail
   refine(A1.out _ HB.out).mono ?_
   rintro e w2 ⟨rfl,hb2⟩
   have HB2:Hid (Below w.heap.size w w2):=HB.out.trans (hb2.mono HB.out.size)
   clear hb2
   go_wp2
   go_ret
   exact⟨by rw[HV.out];rfl,HB2.out⟩
  ·by_cases hz:e2=0
   ·have hzb:(e2 != 0)=false:=by simp[hz]
    have HZ:Hid (e1=0∧e2=0):=⟨z1,hz⟩
    clear hz z1
    go_wp2_with fail
    refine(A2.out _ HB.out).mono ?_
    rintro e w2 ⟨rfl,hb2⟩
    have HB2:Hid (Below w.heap.size w w2):=HB.out.trans (hb2.mono HB.out.size)
    clear hb2
    go_wp2
    exact⟨⟨2,by go_num,.inr (.inr (.inl ⟨rfl,HZ.out⟩)),HB2.out⟩,by simp[intOf]⟩
   have hzb:(e2 != 0)=true:=by simp[hz]
   have HV:Hid (qA [e1,e2,e3]=e2):=by show _=_;simp[qA,hz,z1]
   clear hz z1
   go_wp2_with fail
   refine(A2.out _ HB.out).mono ?_
   rintro e w2 ⟨rfl,hb2⟩
   have HB2:Hid (Below w.heap.size w w2):=HB.out.trans (hb2.mono HB.out.size)
   clear hb2
   go_wp2
   go_ret
   exact⟨by rw[HV.out];rfl,HB2.out⟩
  ·by_cases hz:e3=0
   ·have hzb:(e3 != 0)=false:=by simp[hz]
    have HZ:Hid (e1=0∧e2=0∧e3=0):=⟨z1,z2,hz⟩
    clear hz z1 z2
    go_wp2_with fail
    refine(A3.out _ HB.out).mono ?_
    rintro e w2 ⟨rfl,hb2⟩
    have HB2:Hid (Below w.heap.size w w2):=HB.out.trans (hb2.mono HB.out.size)
    clear hb2
    go_wp2
    exact⟨⟨3,by go_num,.inr (.inr (.inr ⟨rfl,HZ.out⟩)),HB2.out⟩,by simp[intOf]⟩
   have hzb:(e3 != 0)=true:=by simp[hz]
   have HV:Hid (qA [e1,e2,e3]=e3):=by show _=_;simp[qA,hz,z1,z2]
   clear hz z1 z2
   go_wp2_with fail
   refine(A3.out _ HB.out).mono ?_
   rintro e w2 ⟨rfl,hb2⟩
   have HB2:Hid (Below w.heap.size w w2):=HB.out.trans (hb2.mono HB.out.size)
   clear hb2
   go_wp2
   go_ret
   exact⟨by rw[HV.out];rfl,HB2.out⟩
  have HV:Hid (qA [e1,e2,e3]=0):=by show _=_;simp[qA,z1,z2,z3]
  clear z1 z2 z3
  go_wp2
  go_ret
  exact⟨by rw[HV.out];rfl,HB.out⟩

def CkC (w:World) (B:Nat) (g1:Option Addr) (g2 g3:Nat) (f1:Option Addr) (f2 f3:Nat) (nm:ByteArray) (params regs:Int) (b1:Option Addr) (b2 b3:Nat) (a1:Option Addr) (a2 a3:Nat):Prop:=
 w.heap[B]?=some (.cells #[.slice g1 g2 g3,.slice f1 f2 f3,.string nm,.int .i64 params,.int .i64 regs,.slice b1 b2 b3,.slice a1 a2 a3] 73)
def InC (w:World) (X:Nat) (op dst an bn fn:Int) (ar br:Bool) (p:Option Addr) (l c:Nat):Prop:=
 w.heap[X]?=some (.cells #[.int .i64 op,.int .i64 dst,.bool ar,.int .i64 an,.bool br,.int .i64 bn,.int .i64 fn,.slice p l c] 53)

theorem qZ {w:World} {b:Nat} {o:Obj} (h:w.heap[b]?=some o):b<w.heap.size:=by
 rcases Nat.lt_or_ge b w.heap.size with g|g
 ·exact g
 rw[Array.getElem?_eq_none g]at h;cases h

theorem Xh {w:World} {B X:Nat} {g1:Option Addr} {g2 g3:Nat} {f1:Option Addr} {f2 f3:Nat} {nm:ByteArray} {params regs:Int} {b1:Option Addr} {b2 b3:Nat} {a1:Option Addr} {a2 a3:Nat} {op dst an bn fn:Int} {ar br:Bool} {p:Option Addr} {l c:Nat}
  (hB:CkC w B g1 g2 g3 f1 f2 f3 nm params regs b1 b2 b3 a1 a2 a3) (hX:InC w X op dst an bn fn ar br p l c) (h1:0≤regs) (h2:regs≤9223372036854775807) :
  VI 91 #[.pointer (some ⟨B,0,none⟩),.pointer (some ⟨X,0,none⟩)] w (zX regs ar an):=by
 intro w1 hb
 obtain⟨c1,k1⟩:=blk (qd hb (qZ hB) hB)
 obtain⟨c2,k2⟩:=blk (qd hb (qZ hX) hX)
 clear hB hX
 go_enter Tryz.func91,Tryz.ntmps91
 go_wp2_with (go_at_call 87;refine(jz _ _ _ _ _ _ _ _ _ _ _ _ _ _ _ _ _ _ h1 h2).mono ?_;rintro e w3 ⟨rfl,hb3⟩)
 go_ret
 exact⟨rfl,hb3⟩

theorem Xi {w:World} {B X:Nat} {g1:Option Addr} {g2 g3:Nat} {f1:Option Addr} {f2 f3:Nat} {nm:ByteArray} {params regs:Int} {b1:Option Addr} {b2 b3:Nat} {a1:Option Addr} {a2 a3:Nat} {op dst an bn fn:Int} {ar br:Bool} {p:Option Addr} {l c:Nat}
  (hB:CkC w B g1 g2 g3 f1 f2 f3 nm params regs b1 b2 b3 a1 a2 a3) (hX:InC w X op dst an bn fn ar br p l c) (h1:0≤regs) (h2:regs≤9223372036854775807) :
  VI 92 #[.pointer (some ⟨B,0,none⟩),.pointer (some ⟨X,0,none⟩)] w (zX regs br bn):=by
 intro w1 hb
 obtain⟨c1,k1⟩:=blk (qd hb (qZ hB) hB)
 obtain⟨c2,k2⟩:=blk (qd hb (qZ hX) hX)
 clear hB hX
 go_enter Tryz.func92,Tryz.ntmps92
 go_wp2_with (go_at_call 87;refine(jz _ _ _ _ _ _ _ _ _ _ _ _ _ _ _ _ _ _ h1 h2).mono ?_;rintro e w3 ⟨rfl,hb3⟩)
 go_ret
 exact⟨rfl,hb3⟩

def xQ (regs:Int) (nf:Nat) (P:Nat→Int) (call:Bool) (fn:Int) (L:List (Bool×Int)):Int:=
 if call=false then 0
 else if ¬(0≤fn∧fn<nf)then 3
 else if(L.length:Int)≠P fn.toNat then 9
 else valsE regs L

theorem ins3_no {w:World} {B X C:Nat} {g1:Option Addr} {g2 g3:Nat} {f1:Option Addr} {f2 f3:Nat} {nm:ByteArray} {params regs:Int} {b1:Option Addr} {b2 b3:Nat} {a1:Option Addr} {a2 a3:Nat} {op dst an bn fn:Int} {ar br:Bool} {p:Option Addr} {l c:Nat} {call:Bool} (P:Nat→Int) (L:List (Bool×Int))
  (hB:CkC w B g1 g2 g3 f1 f2 f3 nm params regs b1 b2 b3 a1 a2 a3) (hX:InC w X op dst an bn fn ar br p l c) (hC:w.cell? ⟨C,0,none⟩=some (.bool call)) (hf:f2≤9223372036854775807)
  (h:call=false∨¬(0≤fn∧fn<f2)) :
  VI 93 #[.pointer (some ⟨C,0,none⟩),.pointer (some ⟨X,0,none⟩),.pointer (some ⟨B,0,none⟩)] w (xQ regs f2 P call fn L):=by
 intro w1 hb
 obtain⟨c1,k1⟩:=blk (qd hb (qZ hB) hB)
 obtain⟨c2,k2⟩:=blk (qd hb (qZ hX) hX)
 have c3:=(hb.cell (p:=⟨C,0,none⟩) (q8 hC)).trans hC
 clear hB hX hC
 cases call
 ·go_enter Tryz.func93,Tryz.ntmps93
  go_wp2
  go_ret
  exact⟨rfl,Below.refl _ _⟩
 have hh:¬(0≤fn∧fn<f2):=by simpa using h
 have hw:zR fn 0 ((f2:Int) - 1)=false:=by simp only[zR,decide_eq_false_iff_not];omega
 have HV:Hid (xQ regs f2 P true fn L=3):=by show _=_;unfold xQ;rw[if_neg (by decide),if_pos hh]
 clear h hh
 go_enter Tryz.func93,Tryz.ntmps93
 go_wp2_with (go_at_call 27;refine(qF _ _ _ _).mono ?_;rintro e w1 ⟨rfl,rfl⟩)
 go_ret
 exact⟨by rw[HV.out];rfl,Below.refl _ _⟩

theorem ins3_len {w:World} {B X C fb fo:Nat} {g1:Option Addr} {g2 g3:Nat} {f2 f3:Nat} {nm:ByteArray} {params regs:Int} {b1:Option Addr} {b2 b3:Nat} {a1:Option Addr} {a2 a3:Nat} {op dst an bn:Int} {fn:Nat} {ar br:Bool} {p:Option Addr} {l c:Nat} (P:Nat→Int) (L:List (Bool×Int))
  (hB:CkC w B g1 g2 g3 (some ⟨fb,fo,none⟩) f2 f3 nm params regs b1 b2 b3 a1 a2 a3) (hX:InC w X op dst an bn fn ar br p l c) (hC:w.cell? ⟨C,0,none⟩=some (.bool true)) (hf:f2≤9223372036854775807)
  (h:fn<f2) (hP:w.cell? ⟨fb,fo+fn*4+1,none⟩=some (.int .i64 (P fn))) (hl:l=L.length) (_hl2:l≤9223372036854775807) (hne:(l:Int)≠P fn) :
  VI 93 #[.pointer (some ⟨C,0,none⟩),.pointer (some ⟨X,0,none⟩),.pointer (some ⟨B,0,none⟩)] w (xQ regs f2 P true fn L):=by
 intro w1 hb
 obtain⟨c1,k1⟩:=blk (qd hb (qZ hB) hB)
 obtain⟨c2,k2⟩:=blk (qd hb (qZ hX) hX)
 have c3:=(hb.cell (p:=⟨C,0,none⟩) (q8 hC)).trans hC
 have c4:=(hb.cell (p:=⟨fb,fo+fn*4+1,none⟩) (q8 hP)).trans hP
 clear hB hX hC hP
 have hw:zR fn 0 ((f2:Int) - 1)=true:=by simp only[zR,decide_eq_true_eq];omega
 have HV:Hid (xQ regs f2 P true fn L=9):=by
  show _=_;unfold xQ;rw[if_neg (by decide),if_neg (by omega),if_pos]
  rw[←hl];simpa using hne
 have hnb:((l:Int) != P fn)=true:=by simpa using hne
 clear hne hl
 go_enter Tryz.func93,Tryz.ntmps93
 go_wp2_with (go_at_call 27;refine(qF _ _ _ _).mono ?_;rintro e w1 ⟨rfl,rfl⟩)
 go_quiet (fail)
 go_wp2
 go_ret
 refine⟨by rw[HV.out];rfl,?_⟩
 exact bZ

theorem ins3_yes {w:World} {B X C fb fo pb po:Nat} {g1:Option Addr} {g2 g3:Nat} {f2 f3:Nat} {nm:ByteArray} {params regs:Int} {b1:Option Addr} {b2 b3:Nat} {a1:Option Addr} {a2 a3:Nat} {op dst an bn:Int} {fn:Nat} {ar br:Bool} {l c:Nat} (P:Nat→Int) (L:List (Bool×Int))
  (hB:CkC w B g1 g2 g3 (some ⟨fb,fo,none⟩) f2 f3 nm params regs b1 b2 b3 a1 a2 a3) (hX:InC w X op dst an bn fn ar br (some ⟨pb,po,none⟩) l c) (hC:w.cell? ⟨C,0,none⟩=some (.bool true)) (hf:f2≤9223372036854775807) (h1:0≤regs) (h2:regs≤9223372036854775807)
  (h:fn<f2) (hP:w.cell? ⟨fb,fo+fn*4+1,none⟩=some (.int .i64 (P fn))) (hl:L.length=l) (hl2:l≤9223372036854775807) (hne:(l:Int)=P fn)
  (hL:∀i (h:i<L.length),w.cell? ⟨pb,po+i*2,none⟩=some (.bool L[i].1)∧w.cell? ⟨pb,po+i*2+1,none⟩=some (.int .i64 L[i].2)) :
  VI 93 #[.pointer (some ⟨C,0,none⟩),.pointer (some ⟨X,0,none⟩),.pointer (some ⟨B,0,none⟩)] w (xQ regs f2 P true fn L):=by
 intro w1 hb
 have hL1:∀i (h:i<L.length),w1.cell? ⟨pb,po+i*2,none⟩=some (.bool L[i].1)∧w1.cell? ⟨pb,po+i*2+1,none⟩=some (.int .i64 L[i].2):=fun i hi=>
  ⟨(hb.cell (p:=⟨pb,po+i*2,none⟩) (q8 (hL i hi).1)).trans (hL i hi).1,(hb.cell (p:=⟨pb,po+i*2+1,none⟩) (q8 (hL i hi).1)).trans (hL i hi).2⟩
 obtain⟨c1,k1⟩:=blk (qd hb (qZ hB) hB)
 obtain⟨c2,k2⟩:=blk (qd hb (qZ hX) hX)
 have c3:=(hb.cell (p:=⟨C,0,none⟩) (q8 hC)).trans hC
 have c4:=(hb.cell (p:=⟨fb,fo+fn*4+1,none⟩) (q8 hP)).trans hP
 have sB:B<w1.heap.size:=by have:=qZ hB;have:=hb.size;omega
 clear hB hX hC hP hL
 have HL:Hid (∀i (h:i<L.length),w1.cell? ⟨pb,po+i*2,none⟩=some (.bool L[i].1)∧w1.cell? ⟨pb,po+i*2+1,none⟩=some (.int .i64 L[i].2)):=hL1
 have HN:Hid (L.length=l):=hl
 have hw:zR fn 0 ((f2:Int) - 1)=true:=by simp only[zR,decide_eq_true_eq];omega
 have HV:Hid (xQ regs f2 P true fn L=qA (L.map fun v=>zX regs v.1 v.2)):=by
  show _=_;unfold xQ;rw[if_neg (by decide),if_neg (by omega),if_neg]
  ·rfl
  rw[hl];simpa using hne
 have hnb:((l:Int) != P fn)=false:=by simpa using hne
 clear hne hl hL1
 clear hb
 go_enter Tryz.func93,Tryz.ntmps93
 go_wp2_with (go_at_call 27;refine(qF _ _ _ _).mono ?_;rintro e w1 ⟨rfl,rfl⟩)
 go_quiet (fail)
 go_wp2
 go_loopw [36] (fun i wr=>∃k:Nat,k≤l∧i = .int .i64 k∧qA ((L.drop k).map fun v=>zX regs v.1 v.2)=qA (L.map fun v=>zX regs v.1 v.2)∧Below w1.heap.size w1 wr) (fun i _=>l - (intOf i).toNat)
 case atStart=>exact⟨0,by omega,rfl,rfl,by exact bZ⟩
 case round=>
  obtain⟨k,hk,rfl,hV,hB⟩:=hrel
  have HF:Hid (qA ((L.drop k).map fun v=>zX regs v.1 v.2)=qA (L.map fun v=>zX regs v.1 v.2)):=hV
  obtain⟨hcr,hfr,hzr⟩:=Q5 hB
  have HB:Hid (Below w1.heap.size w1 wr):=hB
  clear hV hB
  by_cases hlt:k<l
  rotate_left
  ·have HZ:Hid (qA (L.map fun v=>zX regs v.1 v.2)=0):=by
    have hk2:k=L.length:=by have:=HN.out;omega
    show _=_
    rw[←HF.out,hk2];simp[qA]
   clear HF
   go_wp2
   go_ret
   refine⟨by rw[HV.out,HZ.out];rfl,?_⟩
   exact HB.out
  have hlt2:k<L.length:=by have:=HN.out;omega
  have d0:=(HB.out.cell (p:=⟨pb,po+k*2,none⟩) (q8 (HL.out k hlt2).1)).trans (HL.out k hlt2).1
  have d1:=(HB.out.cell (p:=⟨pb,po+k*2+1,none⟩) (q8 (HL.out k hlt2).2)).trans (HL.out k hlt2).2
  have d2:pb<wr.heap.size:=by have:=q8 (HL.out k hlt2).1;omega
  have HD:Hid (qA ((L.drop k).map fun v=>zX regs v.1 v.2)=if zX regs L[k].1 L[k].2=0 then qA ((L.drop (k+1)).map fun v=>zX regs v.1 v.2)else zX regs L[k].1 L[k].2):=Qm (fun v:Bool×Int=>zX regs v.1 v.2) L k hlt2
  rw[HF.out]at HD
  generalize L[k].1=r at d0 HD
  generalize L[k].2=n at d1 HD
  clear HF hlt2
  have hz6:B<wr.heap.size:=by omega
  by_cases hv:zX regs r n=0
  ·have hvb:(zX regs r n != 0)=false:=by simp[hv]
   have HD2:=HD.out
   rw[if_pos hv]at HD2
   replace HD:Hid (qA (L.map fun v=>zX regs v.1 v.2)=qA ((L.drop (k+1)).map fun v=>zX regs v.1 v.2)):=HD2
   clear HD2 hv
   go_wp2_with (go_at_call 87;refine(jz _ _ _ _ _ _ _ _ _ _ _ _ _ _ _ _ _ _ h1 h2).mono ?_;rintro e w4 ⟨rfl,hb4⟩)
   refine⟨⟨k+1,by omega,by go_num,HD.out.symm,?_⟩,by simp[intOf];omega⟩
   exact HB.out.trans (Below.trans bZ (hb4.mono (by have:=HB.out.size;simp;omega)))
  have hvb:(zX regs r n != 0)=true:=by simp[hv]
  have HD2:=HD.out
  rw[if_neg hv]at HD2
  replace HD:Hid (qA (L.map fun v=>zX regs v.1 v.2)=zX regs r n):=HD2
  clear HD2 hv
  go_wp2_with (go_at_call 87;refine(jz _ _ _ _ _ _ _ _ _ _ _ _ _ _ _ _ _ _ h1 h2).mono ?_;rintro e w4 ⟨rfl,hb4⟩)
  go_ret
  refine⟨by rw[HV.out,HD.out];rfl,?_⟩
  exact HB.out.trans (Below.trans bZ (hb4.mono (by have:=HB.out.size;simp;omega)))

theorem ins3_nil {w:World} {B X C fb fo:Nat} {g1:Option Addr} {g2 g3:Nat} {f2 f3:Nat} {nm:ByteArray} {params regs:Int} {b1:Option Addr} {b2 b3:Nat} {a1:Option Addr} {a2 a3:Nat} {op dst an bn:Int} {fn:Nat} {ar br:Bool} {p:Option Addr} {c:Nat} (P:Nat→Int)
  (hB:CkC w B g1 g2 g3 (some ⟨fb,fo,none⟩) f2 f3 nm params regs b1 b2 b3 a1 a2 a3) (hX:InC w X op dst an bn fn ar br p 0 c) (hC:w.cell? ⟨C,0,none⟩=some (.bool true)) (hf:f2≤9223372036854775807)
  (h:fn<f2) (hP:w.cell? ⟨fb,fo+fn*4+1,none⟩=some (.int .i64 (P fn))) (hne:0=P fn) :
  VI 93 #[.pointer (some ⟨C,0,none⟩),.pointer (some ⟨X,0,none⟩),.pointer (some ⟨B,0,none⟩)] w (xQ regs f2 P true fn []):=by
 intro w1 hb
 obtain⟨c1,k1⟩:=blk (qd hb (qZ hB) hB)
 obtain⟨c2,k2⟩:=blk (qd hb (qZ hX) hX)
 have c3:=(hb.cell (p:=⟨C,0,none⟩) (q8 hC)).trans hC
 have c4:=(hb.cell (p:=⟨fb,fo+fn*4+1,none⟩) (q8 hP)).trans hP
 rw[←hne]at c4
 clear hB hX hC hP
 have hw:zR fn 0 ((f2:Int) - 1)=true:=by simp only[zR,decide_eq_true_eq];omega
 have HV:Hid (xQ regs f2 P true fn []=0):=by
  show _=_;unfold xQ;rw[if_neg (by decide),if_neg (by omega),if_neg]
  ·rfl
  simpa using hne
 clear hne
 go_enter Tryz.func93,Tryz.ntmps93
 go_wp2_with (go_at_call 27;refine(qF _ _ _ _).mono ?_;rintro e w1 ⟨rfl,rfl⟩)
 go_quiet (fail)
 go_wp2
 go_loop [36] (fun i=>i = .int .i64 0) (fun _=>0)
 case atStart=>rfl
 case round=>
  subst hrel
  go_wp2
  go_ret
  refine⟨by rw[HV.out];rfl,?_⟩
  exact bZ

theorem Xj {w:World} {B X C:Nat} {g1:Option Addr} {g2 g3:Nat} {f1:Option Addr} {f2 f3:Nat} {nm:ByteArray} {params regs:Int} {b1:Option Addr} {b2 b3:Nat} {a1:Option Addr} {a2 a3:Nat} {op dst an bn fn:Int} {ar br:Bool} {p:Option Addr} {c:Nat} {call:Bool} (P:Nat→Int) (L:List (Bool×Int))
  (hB:CkC w B g1 g2 g3 f1 f2 f3 nm params regs b1 b2 b3 a1 a2 a3) (hX:InC w X op dst an bn fn ar br p L.length c) (hC:w.cell? ⟨C,0,none⟩=some (.bool call)) (hf:f2≤9223372036854775807) (h1:0≤regs) (h2:regs≤9223372036854775807)
  (hP:f2=0∨∃fb fo,f1=some ⟨fb,fo,none⟩∧∀i,i<f2→w.cell? ⟨fb,fo+i*4+1,none⟩=some (.int .i64 (P i))) (hl2:L.length≤9223372036854775807) (hL:SliceAt w 2 vO p L) :
  VI 93 #[.pointer (some ⟨C,0,none⟩),.pointer (some ⟨X,0,none⟩),.pointer (some ⟨B,0,none⟩)] w (xQ regs f2 P call fn L):=by
 by_cases h:call=false∨¬(0≤fn∧fn<f2)
 ·exact ins3_no P L hB hX hC hf h
 obtain⟨hc,hfn⟩:call=true∧(0≤fn∧fn<f2):=by
  cases call
  ·exact absurd (.inl rfl) h
  exact⟨rfl,Decidable.byContradiction fun g=>h (.inr g)⟩
 subst hc
 obtain⟨k,rfl⟩:=Int.eq_ofNat_of_zero_le hfn.1
 have hk:k<f2:=by omega
 rcases hP with h0|⟨fb,fo,rfl,hP⟩
 ·omega
 by_cases hne:(L.length:Int)=P k
 ·rcases hL with rfl|⟨b,o,rfl,hx⟩
  ·exact ins3_nil P hB hX hC hf hk (hP k hk) hne
  refine ins3_yes P L hB hX hC hf h1 h2 hk (hP k hk) rfl hl2 hne fun i hi=>?_
  obtain⟨cs,_,hc,⟨rfl,_⟩⟩:=hx i hi
  exact⟨hc 0 (by omega),hc 1 (by omega)⟩
 exact ins3_len P L hB hX hC hf hk (hP k hk) rfl hl2 hne

def shD (op:Int):Bool:=decide (1≤op∧op≤22∧op≠19∧op≠22)
def shA (op:Int):Bool:=decide (1≤op∧op≤22∧op≠20∧op≠21)
def shB (op:Int):Bool:=decide ((2≤op∧op≤15)∨op=19)

theorem kK (op:Int) (w:World) (h:1≤op∧op≤22) :
  Calls Tryz.prog 89 #[.int .i64 op] w fun e w'=>e = .returned (.agg #[.bool (shD op),.bool (shA op),.bool (shB op)])∧w'=w.alloc (.cells #[.bool (shD op),.bool (shA op),.bool (shB op)] 139):=by
 obtain hc|hc:(2≤op∧op≤15)∨(op=1∨op=16∨op=17∨op=18∨op=19∨op=20∨op=21∨op=22):=by omega
 ·have hD:shD op=true:=by simp[shD];omega
  have hA:shA op=true:=by simp[shA];omega
  have hB:shB op=true:=by simp[shB];omega
  rw[hD,hA,hB]
  have h1:(op == 1)=false:=by rw[beq_eq_false_iff_ne];omega
  have h2:(op == 16)=false:=by rw[beq_eq_false_iff_ne];omega
  have h3:(op == 17)=false:=by rw[beq_eq_false_iff_ne];omega
  have h4:(op == 18)=false:=by rw[beq_eq_false_iff_ne];omega
  go_enter Tryz.func89,Tryz.ntmps89
  go_wp2
  all_goals (refine bodyPost_ret ?_ rfl ⟨rfl,rfl⟩;simp[results,Tryz.results89,go_sem])
 rcases hc with rfl|rfl|rfl|rfl|rfl|rfl|rfl|rfl
 all_goals
  go_enter Tryz.func89,Tryz.ntmps89
  go_wp2
  (refine bodyPost_ret ?_ rfl ⟨rfl,rfl⟩;simp[results,Tryz.results89,go_sem,shD,shA,shB])

def jJ (regs:Int) (nf:Nat) (P:Nat→Int) (op dst an bn fn:Int) (ar br:Bool) (L:List (Bool×Int)):Int:=
 if ¬(1≤op∧op≤22)then 4
 else if(shD op=false∧dst≠-1)∨(shA op=false∧¬(ar=false∧an=0))∨(shB op=false∧¬(br=false∧bn=0))∨(op≠20∧(fn≠0∨0<L.length))then 5
 else if shD op=true∧¬(op=20∧dst = -1)∧vS regs dst≠0 then vS regs dst
 else qA [zX regs ar an,zX regs br bn,xQ regs nf P (op == 20) fn L]

theorem ins_kind (g1 f1 b1 a1 p:Option Addr) (g2 g3 f2 f3 b2 b3 a2 a3 c:Nat) (nm:ByteArray) (params regs op dst an bn fn:Int) (ar br:Bool) (P:Nat→Int) (L:List (Bool×Int)) (w:World) (h:¬(1≤op∧op≤22)) :
  Calls Tryz.prog 57 #[.agg #[.slice g1 g2 g3,.slice f1 f2 f3,.string nm,.int .i64 params,.int .i64 regs,.slice b1 b2 b3,.slice a1 a2 a3],.agg #[.int .i64 op,.int .i64 dst,.bool ar,.int .i64 an,.bool br,.int .i64 bn,.int .i64 fn,.slice p L.length c]] w fun e w'=>e = .returned (.int .i64 (jJ regs f2 P op dst an bn fn ar br L))∧Below w.heap.size w w':=by
 have hw:zR op 1 22=false:=by simp only[zR,decide_eq_false_iff_not];exact h
 have HV:Hid (jJ regs f2 P op dst an bn fn ar br L=4):=by show _=_;unfold jJ;rw[if_pos h]
 clear h
 go_enter Tryz.func57,Tryz.ntmps57
 go_wp2_with (go_at_call 27;refine(qF _ _ _ _).mono ?_;rintro e w1 ⟨rfl,rfl⟩)
 go_ret
 refine⟨by rw[HV.out];rfl,?_⟩
 exact bZ

theorem jq {regs:Int} {nf:Nat} {P:Nat→Int} {op dst an bn fn:Int} {ar br:Bool} {L:List (Bool×Int)} (h:1≤op∧op≤22)
  (g:(shD op=false∧dst≠-1)∨(shA op=false∧¬(ar=false∧an=0))∨(shB op=false∧¬(br=false∧bn=0))∨(op≠20∧(fn≠0∨0<L.length))):jJ regs nf P op dst an bn fn ar br L=5:=by
 unfold jJ;rw[if_neg (fun x=>x h),if_pos g]
theorem insE_2 {regs:Int} {nf:Nat} {P:Nat→Int} {op dst an bn fn:Int} {ar br:Bool} {L:List (Bool×Int)} (h:1≤op∧op≤22)
  (gd:shD op=true∨dst = -1) (ga:shA op=true∨(¬ar=true∧an=0)) (gb:shB op=true∨(¬br=true∧bn=0)) (gf:(!op == 20)=false∨(fn=0∧¬0<L.length)) :
  jJ regs nf P op dst an bn fn ar br L=if shD op=true∧¬(op=20∧dst = -1)∧vS regs dst≠0 then vS regs dst else qA [zX regs ar an,zX regs br bn,xQ regs nf P (op == 20) fn L]:=by
 unfold jJ
 rw[if_neg (fun x=>x h),if_neg]
 rintro(⟨x,y⟩|⟨x,y⟩|⟨x,y⟩|⟨x,y⟩)
 ·rcases gd with g|g
  ·rw[x]at g;cases g
  exact y g
 ·rcases ga with g|⟨g,k⟩
  ·rw[x]at g;cases g
  exact y ⟨by simpa using g,k⟩
 ·rcases gb with g|⟨g,k⟩
  ·rw[x]at g;cases g
  exact y ⟨by simpa using g,k⟩
 rcases gf with g|⟨g,k⟩
 ·simp at g;exact x g
 rcases y with y|y
 ·exact y g
 exact k y

theorem ins_d0 (g1 f1 b1 a1 p:Option Addr) (g2 g3 f2 f3 b2 b3 a2 a3 c:Nat) (nm:ByteArray) (params regs op dst an bn fn:Int) (ar br d a b:Bool) (P:Nat→Int) (L:List (Bool×Int)) (w:World) (h:1≤op∧op≤22)
  (hf:f2≤9223372036854775807) (h1:0≤regs) (h2:regs≤9223372036854775807)
  (hP:f2=0∨∃fb fo,f1=some ⟨fb,fo,none⟩∧∀i,i<f2→w.cell? ⟨fb,fo+i*4+1,none⟩=some (.int .i64 (P i))) (hl2:L.length≤9223372036854775807) (hL:SliceAt w 2 vO p L)
  (hd:shD op=d) (ha:shA op=a) (hb:shB op=b) (hd0:d=false) :
  Calls Tryz.prog 57 #[.agg #[.slice g1 g2 g3,.slice f1 f2 f3,.string nm,.int .i64 params,.int .i64 regs,.slice b1 b2 b3,.slice a1 a2 a3],.agg #[.int .i64 op,.int .i64 dst,.bool ar,.int .i64 an,.bool br,.int .i64 bn,.int .i64 fn,.slice p L.length c]] w fun e w'=>e = .returned (.int .i64 (jJ regs f2 P op dst an bn fn ar br L))∧Below w.heap.size w w':=by
 have hw:zR op 1 22=true:=by simp only[zR,decide_eq_true_eq];exact h
 have hs:=fun w=>kK op w h
 have E1:Hid (¬dst = -1→jJ regs f2 P op dst an bn fn ar br L=5):=fun x=>jq h (.inl ⟨hd.trans hd0,x⟩)
 have E2:Hid (¬a=true→ar=true→jJ regs f2 P op dst an bn fn ar br L=5):=fun x y=>jq h (.inr (.inl ⟨by rw[ha];simpa using x,by rw[y];simp⟩))
 have E3:Hid (¬a=true→¬an=0→jJ regs f2 P op dst an bn fn ar br L=5):=fun x y=>jq h (.inr (.inl ⟨by rw[ha];simpa using x,fun z=>y z.2⟩))
 have E4:Hid (¬b=true→br=true→jJ regs f2 P op dst an bn fn ar br L=5):=fun x y=>jq h (.inr (.inr (.inl ⟨by rw[hb];simpa using x,by rw[y];simp⟩)))
 have E5:Hid (¬b=true→¬bn=0→jJ regs f2 P op dst an bn fn ar br L=5):=fun x y=>jq h (.inr (.inr (.inl ⟨by rw[hb];simpa using x,fun z=>y z.2⟩)))
 have E6:Hid ((!op == 20)=true→¬fn=0→jJ regs f2 P op dst an bn fn ar br L=5):=fun x y=>jq h (.inr (.inr (.inr ⟨by simpa using x,.inl y⟩)))
 have E7:Hid (((!op == 20)=true∧0<L.length)→jJ regs f2 P op dst an bn fn ar br L=5):=fun x=>jq h (.inr (.inr (.inr ⟨by simpa using x.1,.inr x.2⟩)))
 have E8:Hid (dst = -1→(a=true∨(¬ar=true∧an=0))→(b=true∨(¬br=true∧bn=0))→((!op == 20)=false∨(fn=0∧¬0<L.length))→jJ regs f2 P op dst an bn fn ar br L=qA [zX regs ar an,zX regs br bn,xQ regs f2 P (op == 20) fn L]):=fun x y z u=>by
  rw[insE_2 h (.inr x) (by rw[ha];exact y) (by rw[hb];exact z) u,if_neg]
  rw[hd,hd0];simp
 rw[hd,ha,hb]at hs
 have HS:Hid (∀w,Calls Tryz.prog 89 #[.int .i64 op] w fun e w'=>e = .returned (.agg #[.bool d,.bool a,.bool b])∧w'=w.alloc (.cells #[.bool d,.bool a,.bool b] 139)):=hs
 have HP:Hid (f2=0∨∃fb fo,f1=some ⟨fb,fo,none⟩∧∀i,i<f2→w.cell? ⟨fb,fo+i*4+1,none⟩=some (.int .i64 (P i))):=hP
 have HL:Hid (SliceAt w 2 vO p L):=hL
 subst hd0
 generalize hl:L.length=l at *
 have HZ:Hid (L.length=l):=hl
 clear hs hd ha hb h hP hL hl
 go_enter Tryz.func57,Tryz.ntmps57
 go_wp2_with (first|(go_at_call 27;refine(qF _ _ _ _).mono ?_;rintro e w1 ⟨rfl,rfl⟩)|(go_at_call 89;refine(HS.out _).mono ?_;rintro e w1 ⟨rfl,rfl⟩))
 all_goals first
  | (go_ret;(have hE:jJ regs f2 P op dst an bn fn ar br L=5:=by first|exact E1.out ‹¬dst = -1›|exact E2.out ‹¬a=true› ‹ar=true›|exact E3.out ‹¬a=true› ‹¬an=0›|exact E4.out ‹¬b=true› ‹br=true›|exact E5.out ‹¬b=true› ‹¬bn=0›|exact E6.out ‹(!op == 20)=true› ‹¬fn=0›|exact E7.out ‹(!op == 20)=true∧0<l›);refine⟨by rw[hE];rfl,?_⟩;exact bZ)
  | skip
 all_goals
  have hE:jJ regs f2 P op dst an bn fn ar br L=qA [zX regs ar an,zX regs br bn,xQ regs f2 P (op == 20) fn L]:=by
   refine E8.out ‹dst = -1› ?_ ?_ ?_
   ·first|exact .inl ‹a=true›|exact .inr ⟨‹¬ar=true›,‹an=0›⟩
   ·first|exact .inl ‹b=true›|exact .inr ⟨‹¬br=true›,‹bn=0›⟩
   first|exact .inl ‹(!op == 20)=false›|(refine .inl ?_;have g:=‹op=20›;simp[g];done)|exact .inr ⟨‹fn=0›,‹¬0<l›⟩|(rcases ‹(!op == 20)=false∨¬0<l› with g|g;(exact .inl g);exact .inr ⟨‹fn=0›,g⟩)
  clear E1 E2 E3 E4 E5 E6 E7 E8 HS
  (have g:=HZ.out;subst g)
  generalize hv:qA [zX regs ar an,zX regs br bn,xQ regs f2 P (op == 20) fn L]=v at hE
  have HVV:Hid (qA [zX regs ar an,zX regs br bn,xQ regs f2 P (op == 20) fn L]=v):=hv
  clear hv
  refine(Xg _ _ _ ⟨w.heap.size,0,none⟩ ⟨w.heap.size+1,0,none⟩ ⟨w.heap.size+1+1+1+1,0,none⟩ _ _ _ _ ?g0 ?g1 ?g2 (Xh (g1:=g1) (g2:=g2) (g3:=g3) (f1:=f1) (f2:=f2) (f3:=f3) (nm:=nm) (params:=params) (regs:=regs) (b1:=b1) (b2:=b2) (b3:=b3) (a1:=a1) (a2:=a2) (a3:=a3) (op:=op) (dst:=dst) (an:=an) (bn:=bn) (fn:=fn) (ar:=ar) (br:=br) (p:=p) (c:=c) (l:=L.length) ?hB ?hX h1 h2) (Xi ?hB ?hX h1 h2) (Xj (call:=op == 20) P L ?hB ?hX ?hC hf h1 h2 ?hP hl2 ?hL)).mono ?fin
  case g0=>exact((blk (qh (by simp))).1 0).trans rfl
  case g1=>exact((blk (qh (by simp))).1 1).trans rfl
  case g2=>exact((blk (qh (by simp))).1 2).trans rfl
  case hB=>(repeat (first|exact qh (by simp)|refine qj ?_))
  case hX=>
   (try (have g:=‹dst = -1›;subst g))
   (try (have g:=‹an=0›;subst g))
   (try (have g:=‹bn=0›;subst g))
   (try (have g:=‹fn=0›;subst g))
   (try (have g:=‹op=20›;subst g))
   (try (have g:=Bool.eq_false_iff.2 ‹¬ar=true›;subst g))
   (try (have g:=Bool.eq_false_iff.2 ‹¬br=true›;subst g))
   repeat (first|exact qh (by simp)|refine qj ?_)
  case hC=>
   refine Eq.trans ((blk (qj (qh (by simp)))).1 0) ?_
   first|rfl|(have g:=‹op=20›;subst g;rfl)|(have g:=‹(!op == 20)=false›;simp only[Bool.not_eq_false']at g;rw[g];rfl)|(have g:=‹(!op == 20)=true›;simp only[Bool.not_eq_true']at g;rw[g];rfl)
  case hL=>exact HL.out.to (by decide) bZ (fun _ _ _ h=>h)
  case hP=>
   rcases HP.out with g|⟨fb,fo,g,k⟩
   ·exact .inl g
   refine .inr ⟨fb,fo,g,fun i hi=>?_⟩
   refine Eq.trans (Below.cell (B:=w.heap.size) (w:=w) ?_ (p:=⟨fb,fo+i*4+1,none⟩) (q8 (k i hi))) (k i hi)
   exact bZ
  case fin=>
   rintro e w4 ⟨rfl,hb4⟩
   rw[HVV.out]
   go_wp2
   go_ret
   refine⟨by rw[hE];rfl,?_⟩
   exact bZ

theorem ins_d1 (g1 f1 b1 a1 p:Option Addr) (g2 g3 f2 f3 b2 b3 a2 a3 c:Nat) (nm:ByteArray) (params regs op dst an bn fn:Int) (ar br d a b:Bool) (P:Nat→Int) (L:List (Bool×Int)) (w:World) (h:1≤op∧op≤22)
  (hf:f2≤9223372036854775807) (h1:0≤regs) (h2:regs≤9223372036854775807)
  (hP:f2=0∨∃fb fo,f1=some ⟨fb,fo,none⟩∧∀i,i<f2→w.cell? ⟨fb,fo+i*4+1,none⟩=some (.int .i64 (P i))) (hl2:L.length≤9223372036854775807) (hL:SliceAt w 2 vO p L)
  (hd:shD op=d) (ha:shA op=a) (hb:shB op=b) (hd0:d=true) :
  Calls Tryz.prog 57 #[.agg #[.slice g1 g2 g3,.slice f1 f2 f3,.string nm,.int .i64 params,.int .i64 regs,.slice b1 b2 b3,.slice a1 a2 a3],.agg #[.int .i64 op,.int .i64 dst,.bool ar,.int .i64 an,.bool br,.int .i64 bn,.int .i64 fn,.slice p L.length c]] w fun e w'=>e = .returned (.int .i64 (jJ regs f2 P op dst an bn fn ar br L))∧Below w.heap.size w w':=by
 have hw:zR op 1 22=true:=by simp only[zR,decide_eq_true_eq];exact h
 have hs:=fun w=>kK op w h
 have E2:Hid (¬a=true→ar=true→jJ regs f2 P op dst an bn fn ar br L=5):=fun x y=>jq h (.inr (.inl ⟨by rw[ha];simpa using x,by rw[y];simp⟩))
 have E3:Hid (¬a=true→¬an=0→jJ regs f2 P op dst an bn fn ar br L=5):=fun x y=>jq h (.inr (.inl ⟨by rw[ha];simpa using x,fun z=>y z.2⟩))
 have E4:Hid (¬b=true→br=true→jJ regs f2 P op dst an bn fn ar br L=5):=fun x y=>jq h (.inr (.inr (.inl ⟨by rw[hb];simpa using x,by rw[y];simp⟩)))
 have E5:Hid (¬b=true→¬bn=0→jJ regs f2 P op dst an bn fn ar br L=5):=fun x y=>jq h (.inr (.inr (.inl ⟨by rw[hb];simpa using x,fun z=>y z.2⟩)))
 have E6:Hid ((!op == 20)=true→¬fn=0→jJ regs f2 P op dst an bn fn ar br L=5):=fun x y=>jq h (.inr (.inr (.inr ⟨by simpa using x,.inl y⟩)))
 have E7:Hid (((!op == 20)=true∧0<L.length)→jJ regs f2 P op dst an bn fn ar br L=5):=fun x=>jq h (.inr (.inr (.inr ⟨by simpa using x.1,.inr x.2⟩)))
 have E8:Hid ((a=true∨(¬ar=true∧an=0))→(b=true∨(¬br=true∧bn=0))→((!op == 20)=false∨(fn=0∧¬0<L.length))→jJ regs f2 P op dst an bn fn ar br L=if ¬(op=20∧dst = -1)∧vS regs dst≠0 then vS regs dst else qA [zX regs ar an,zX regs br bn,xQ regs f2 P (op == 20) fn L]):=fun y z u=>by
  rw[insE_2 h (.inl (hd.trans hd0)) (by rw[ha];exact y) (by rw[hb];exact z) u]
  simp[hd,hd0]
 rw[hd,ha,hb]at hs
 have HS:Hid (∀w,Calls Tryz.prog 89 #[.int .i64 op] w fun e w'=>e = .returned (.agg #[.bool d,.bool a,.bool b])∧w'=w.alloc (.cells #[.bool d,.bool a,.bool b] 139)):=hs
 have HP:Hid (f2=0∨∃fb fo,f1=some ⟨fb,fo,none⟩∧∀i,i<f2→w.cell? ⟨fb,fo+i*4+1,none⟩=some (.int .i64 (P i))):=hP
 have HL:Hid (SliceAt w 2 vO p L):=hL
 subst hd0
 generalize hl:L.length=l at *
 have HZ:Hid (L.length=l):=hl
 clear hs hd ha hb h hP hL hl
 go_enter Tryz.func57,Tryz.ntmps57
 go_wp2_with (first|(go_at_call 27;refine(qF _ _ _ _).mono ?_;rintro e w1 ⟨rfl,rfl⟩)|(go_at_call 89;refine(HS.out _).mono ?_;rintro e w1 ⟨rfl,rfl⟩)|(go_at_call 88;refine(Qk _ _ _ _ _ _ _ _ _ _ _ _ _ _ _ _ _ h1 h2).mono ?_;rintro e w3 ⟨rfl,hb3⟩;have hz3:=hb3.size;simp at hz3))
 all_goals first
  | (go_ret;(have hE:jJ regs f2 P op dst an bn fn ar br L=5:=by first|exact E2.out ‹¬a=true› ‹ar=true›|exact E3.out ‹¬a=true› ‹¬an=0›|exact E4.out ‹¬b=true› ‹br=true›|exact E5.out ‹¬b=true› ‹¬bn=0›|exact E6.out ‹(!op == 20)=true› ‹¬fn=0›|exact E7.out ‹(!op == 20)=true∧0<l›);refine⟨by rw[hE];rfl,?_⟩;exact bZ)
  | skip
 all_goals try
  have hED:jJ regs f2 P op dst an bn fn ar br L=vS regs dst:=by
   have gd:=‹(vS regs dst != 0)=true›
   refine(E8.out ?_ ?_ ?_).trans (if_pos ⟨?_,by simpa using gd⟩)
   ·first|exact .inl ‹a=true›|exact .inr ⟨‹¬ar=true›,‹an=0›⟩
   ·first|exact .inl ‹b=true›|exact .inr ⟨‹¬br=true›,‹bn=0›⟩
   ·first|exact .inl ‹(!op == 20)=false›|(refine .inl ?_;have g:=‹op=20›;simp[g];done)|exact .inr ⟨‹fn=0›,‹¬0<l›⟩|(rcases ‹(!op == 20)=false∨¬0<l› with g|g;(exact .inl g);exact .inr ⟨‹fn=0›,g⟩)
   first|exact fun g=>‹¬op=20› g.1|(have g:=‹(!dst == -1)=true›;simp at g;exact fun h=>g h.2)
  go_ret
  refine⟨by rw[hED];rfl,?_⟩
  exact bZ
  done
 all_goals
  have hE:jJ regs f2 P op dst an bn fn ar br L=qA [zX regs ar an,zX regs br bn,xQ regs f2 P (op == 20) fn L]:=by
   refine(E8.out ?_ ?_ ?_).trans (if_neg ?_)
   ·first|exact .inl ‹a=true›|exact .inr ⟨‹¬ar=true›,‹an=0›⟩
   ·first|exact .inl ‹b=true›|exact .inr ⟨‹¬br=true›,‹bn=0›⟩
   ·first|exact .inl ‹(!op == 20)=false›|(refine .inl ?_;have g:=‹op=20›;simp[g];done)|exact .inr ⟨‹fn=0›,‹¬0<l›⟩|(rcases ‹(!op == 20)=false∨¬0<l› with g|g;(exact .inl g);exact .inr ⟨‹fn=0›,g⟩)
   first|(have gd:=‹(vS regs dst != 0)=false›;exact fun g=>g.2 (by simpa using gd))|(have gd:=‹(!dst == -1)=false›;exact fun g=>g.1 ⟨‹op=20›,by simpa using gd⟩)
  clear E2 E3 E4 E5 E6 E7 E8 HS
  (have g:=HZ.out;subst g)
  generalize hv:qA [zX regs ar an,zX regs br bn,xQ regs f2 P (op == 20) fn L]=v at hE
  have HVV:Hid (qA [zX regs ar an,zX regs br bn,xQ regs f2 P (op == 20) fn L]=v):=hv
  clear hv
  refine(Xg _ _ _ ⟨w.heap.size,0,none⟩ ⟨w.heap.size+1,0,none⟩ ⟨w.heap.size+1+1+1+1,0,none⟩ _ _ _ _ ?g0 ?g1 ?g2 (Xh (g1:=g1) (g2:=g2) (g3:=g3) (f1:=f1) (f2:=f2) (f3:=f3) (nm:=nm) (params:=params) (regs:=regs) (b1:=b1) (b2:=b2) (b3:=b3) (a1:=a1) (a2:=a2) (a3:=a3) (op:=op) (dst:=dst) (an:=an) (bn:=bn) (fn:=fn) (ar:=ar) (br:=br) (p:=p) (c:=c) (l:=L.length) ?hB ?hX h1 h2) (Xi ?hB ?hX h1 h2) (Xj (call:=op == 20) P L ?hB ?hX ?hC hf h1 h2 ?hP hl2 ?hL)).mono ?fin
  case g0=>exact((blk (qh (by simp))).1 0).trans rfl
  case g1=>exact((blk (qh (by simp))).1 1).trans rfl
  case g2=>exact((blk (qh (by simp))).1 2).trans rfl
  case hB=>(repeat (first|exact qh (by simp)|refine qd hb3 (by first|(simp;done)|(simp;omega)) ?_|refine qj ?_))
  case hX=>
   (try (have g:=‹(!dst == -1)=false›;simp only[Bool.not_eq_false',beq_iff_eq]at g;subst g))
   (try (have g:=‹an=0›;subst g))
   (try (have g:=‹bn=0›;subst g))
   (try (have g:=‹fn=0›;subst g))
   (try (have g:=‹op=20›;subst g))
   (try (have g:=Bool.eq_false_iff.2 ‹¬ar=true›;subst g))
   (try (have g:=Bool.eq_false_iff.2 ‹¬br=true›;subst g))
   repeat (first|exact qh (by simp)|refine qd hb3 (by first|(simp;done)|(simp;omega)) ?_|refine qj ?_)
  case hC=>
   first|refine Eq.trans ((blk (qj (qd hb3 (by first|(simp;done)|(simp;omega)) (qh (by simp))))).1 0) ?_|refine Eq.trans ((blk (qj (qh (by simp)))).1 0) ?_
   first|rfl|(have g:=‹op=20›;subst g;rfl)|(have g:=‹(!op == 20)=false›;simp only[Bool.not_eq_false']at g;rw[g];rfl)|(have g:=‹(!op == 20)=true›;simp only[Bool.not_eq_true']at g;rw[g];rfl)
  case hL=>exact HL.out.to (by decide) bZ (fun _ _ _ h=>h)
  case hP=>
   rcases HP.out with g|⟨fb,fo,g,k⟩
   ·exact .inl g
   refine .inr ⟨fb,fo,g,fun i hi=>?_⟩
   refine Eq.trans (Below.cell (B:=w.heap.size) (w:=w) ?_ (p:=⟨fb,fo+i*4+1,none⟩) (q8 (k i hi))) (k i hi)
   exact bZ
  case fin=>
   rintro e w4 ⟨rfl,hb4⟩
   rw[HVV.out]
   go_wp2
   go_ret
   refine⟨by rw[hE];rfl,?_⟩
   exact bZ

theorem ins_any (g1 f1 b1 a1 p:Option Addr) (g2 g3 f2 f3 b2 b3 a2 a3 c:Nat) (nm:ByteArray) (params regs op dst an bn fn:Int) (ar br:Bool) (P:Nat→Int) (L:List (Bool×Int)) (w:World)
  (hf:f2≤9223372036854775807) (h1:0≤regs) (h2:regs≤9223372036854775807)
  (hP:f2=0∨∃fb fo,f1=some ⟨fb,fo,none⟩∧∀i,i<f2→w.cell? ⟨fb,fo+i*4+1,none⟩=some (.int .i64 (P i))) (hl2:L.length≤9223372036854775807) (hL:SliceAt w 2 vO p L) :
  Calls Tryz.prog 57 #[.agg #[.slice g1 g2 g3,.slice f1 f2 f3,.string nm,.int .i64 params,.int .i64 regs,.slice b1 b2 b3,.slice a1 a2 a3],.agg #[.int .i64 op,.int .i64 dst,.bool ar,.int .i64 an,.bool br,.int .i64 bn,.int .i64 fn,.slice p L.length c]] w fun e w'=>e = .returned (.int .i64 (jJ regs f2 P op dst an bn fn ar br L))∧Below w.heap.size w w':=by
 by_cases h:1≤op∧op≤22
 ·cases hd:shD op
  ·exact ins_d0 _ _ _ _ _ _ _ _ _ _ _ _ _ _ _ _ _ _ _ _ _ _ _ _ _ _ _ P L w h hf h1 h2 hP hl2 hL hd rfl rfl rfl
  exact ins_d1 _ _ _ _ _ _ _ _ _ _ _ _ _ _ _ _ _ _ _ _ _ _ _ _ _ _ _ P L w h hf h1 h2 hP hl2 hL hd rfl rfl rfl
 exact ins_kind _ _ _ _ _ _ _ _ _ _ _ _ _ _ _ _ _ _ _ _ _ _ _ _ P L w h
end Go.Proofs.YtecdphhdmjmmnaaGreatDoor
