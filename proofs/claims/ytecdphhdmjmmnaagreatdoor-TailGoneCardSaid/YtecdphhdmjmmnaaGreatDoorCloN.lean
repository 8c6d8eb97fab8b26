/-
  The contracts of slices.Clone at phis, instructions, blocks, functions and globals: the sa
-/
import Derived.Test.YtecdphhdmjmmnaaGreatDoorJVlsB
set_option maxRecDepth 100000
set_option maxHeartbeats 16000000
namespace Go.Proofs.YtecdphhdmjmmnaaGreatDoor
open Go.RowKit

theorem zW {w:World} {a:Addr} {u:Value} (h:w.cell? a=some u) (o:Obj):(w.alloc o).cell? a=some u:=(World.cell?_of_block (Below.heap_alloc w o a.block (World.block_lt_of_cell? w a h))).trans h

theorem VM {R:List Value→PhiL→Prop} (h1:∀cs x,R cs x→∀u∈cs,u.oneCell'=true) (xs:List PhiL) (p:Option Addr) (c:Nat) (w:World) (h:SliceAt w 2 R p xs) (hp:p=none→xs.length=0∧c=0) (hl:xs.length*32≤reachBytes) :
  Calls Tryz.prog 95 #[.slice p xs.length c] w fun e w'=>∃p' c',e = .returned (.slice p' xs.length c')∧(∃S,SlQ 101 2 32 (DatO R) w' (.slice p' xs.length c') xs S∧LoB w.heap.size S)∧Below w.heap.size w w':=by
 have hlr:xs.length*32≤140737488351232:=hl
 rcases p with _|a
 ·obtain⟨h0,rfl⟩:=hp rfl
  obtain rfl:=List.length_eq_zero_iff.1 h0
  have he:∀w:World,(binOp .eql 40 (.slice none 0 0) (.slice none 0 0)).run Tryz.prog w = .ok (.bool true) w:=fun _=>rfl
  go_enter Tryz.func95,Tryz.ntmps95
  go_wp2_with fail
  go_ret
  exact⟨none,0,rfl,⟨fun _=>False,⟨SlO.nil _ _ _ _ (fun _ h=>h.elim),by simp⟩,fun _ h=>h.elim⟩,Below.refl _ _⟩
 obtain⟨i1,k1,k2,k3,k4⟩:=info_parts JK
 have HO:=q7 fun i (hi:i<xs.length)=>h.old hi
 have HL:Hid (∀i,i<xs.length→(xJ w (some a) 2 i).length=2):=q7 fun _ _=>ji _ _ _ _
 have HF:Hid (∀j u,((List.range xs.length).flatMap (xJ w (some a) 2))[j]?=some u→w.cell? (a.add j)=some u):=q7 fun j u hu=>by
  have hj:j<xs.length*2:=by
   rw[←qE _ HL.out]
   exact(List.getElem?_eq_some_iff.1 hu).1
  have hi:j / 2<xs.length:=by omega
  have hm:j % 2<2:=by omega
  have e:j=j / 2*2+j % 2:=by omega
  rw[e,zj _ HL.out _ _ hi hm]at hu
  rw[e,(HO.out _ hi).2 _ hm a rfl,hu]
 have he:∀w:World,(binOp .eql 40 (.slice (some a) xs.length c) (.slice none 0 0)).run Tryz.prog w = .ok (.bool false) w:=fun _=>rfl
 have H1:=q7 h1
 clear h h1
 go_enter Tryz.func95,Tryz.ntmps95
 go_wp2_with (at_builtin;refine wpList_append_own _ rfl (.tmp 5) (.tmp 6) 40 rfl w.heap.size 101 i1 _ 2 32 Tryz.underlying40 k1 k2 k3 k4 rfl (by decide) _ 0 [] rfl ?c0 a xs.length c ((List.range xs.length).flatMap (xJ w (some a) 2)) rfl ?c1 ?c2 ?c3 ?c4 ?c5 ?c6 ?_)
 case c0=>exact ja (qm _ _) (Nat.le_refl _)
 case c1=>exact qE _ HL.out
 case c2=>exact fun j u hu=>zW (HF.out j u hu) _
 case c3=>exact xr fun i hi=>H1.out _ _ (HO.out i hi).1
 case c4=>unfold maxLen;omega
 case c5=>omega
 case c6=>simp
 intro v' w' hown hg _
 have hval:∃p' c',v' = .slice p' xs.length c':=by
  rcases hown.2 with⟨h1,h2⟩|⟨g,cap,cur,h1,_⟩
  ·exact⟨none,0,by rw[h1,show xs.length=0 by omega]⟩
  exact⟨some ⟨g,0,none⟩,cap,by rw[h1]⟩
 obtain⟨p',c',rfl⟩:=hval
 go_wp2
 refine bodyPost_ret (v:=.slice p' xs.length c') ?_ rfl ⟨p',c',rfl,⟨_,⟨SlO.flat (base:=w.heap.size) (cs:=xJ w (some a) 2) (by simpa using hown) HL.out (fun i hi=>H1.out _ _ (HO.out i hi).1) (fun i hi=>(HO.out i hi).1),hl⟩,fun k hk=>(hown.lt k hk).1⟩,?_⟩
 ·simp[results,Tryz.results95,go_sem]
 exact Below.grown bZ hg (by simp) (fun b e=>by cases e;exact Nat.le_refl _)

theorem VN {R:List Value→InsL→Prop} (h1:∀cs x,R cs x→∀u∈cs,u.oneCell'=true) (xs:List InsL) (p:Option Addr) (c:Nat) (w:World) (h:SliceAt w 8 R p xs) (hp:p=none→xs.length=0∧c=0) (hl:xs.length*80≤reachBytes) :
  Calls Tryz.prog 97 #[.slice p xs.length c] w fun e w'=>∃p' c',e = .returned (.slice p' xs.length c')∧(∃S,SlQ 53 8 80 (DatO R) w' (.slice p' xs.length c') xs S∧LoB w.heap.size S)∧Below w.heap.size w w':=by
 have hlr:xs.length*80≤140737488351232:=hl
 rcases p with _|a
 ·obtain⟨h0,rfl⟩:=hp rfl
  obtain rfl:=List.length_eq_zero_iff.1 h0
  have he:∀w:World,(binOp .eql 41 (.slice none 0 0) (.slice none 0 0)).run Tryz.prog w = .ok (.bool true) w:=fun _=>rfl
  go_enter Tryz.func97,Tryz.ntmps97
  go_wp2_with fail
  go_ret
  exact⟨none,0,rfl,⟨fun _=>False,⟨SlO.nil _ _ _ _ (fun _ h=>h.elim),by simp⟩,fun _ h=>h.elim⟩,Below.refl _ _⟩
 obtain⟨i1,k1,k2,k3,k4⟩:=info_parts Q0
 have HO:=q7 fun i (hi:i<xs.length)=>h.old hi
 have HL:Hid (∀i,i<xs.length→(xJ w (some a) 8 i).length=8):=q7 fun _ _=>ji _ _ _ _
 have HF:Hid (∀j u,((List.range xs.length).flatMap (xJ w (some a) 8))[j]?=some u→w.cell? (a.add j)=some u):=q7 fun j u hu=>by
  have hj:j<xs.length*8:=by
   rw[←qE _ HL.out]
   exact(List.getElem?_eq_some_iff.1 hu).1
  have hi:j / 8<xs.length:=by omega
  have hm:j % 8<8:=by omega
  have e:j=j / 8*8+j % 8:=by omega
  rw[e,zj _ HL.out _ _ hi hm]at hu
  rw[e,(HO.out _ hi).2 _ hm a rfl,hu]
 have he:∀w:World,(binOp .eql 41 (.slice (some a) xs.length c) (.slice none 0 0)).run Tryz.prog w = .ok (.bool false) w:=fun _=>rfl
 have H1:=q7 h1
 clear h h1
 go_enter Tryz.func97,Tryz.ntmps97
 go_wp2_with (at_builtin;refine wpList_append_own _ rfl (.tmp 5) (.tmp 6) 41 rfl w.heap.size 53 i1 _ 8 80 Tryz.underlying41 k1 k2 k3 k4 rfl (by decide) _ 0 [] rfl ?c0 a xs.length c ((List.range xs.length).flatMap (xJ w (some a) 8)) rfl ?c1 ?c2 ?c3 ?c4 ?c5 ?c6 ?_)
 case c0=>exact ja (qm _ _) (Nat.le_refl _)
 case c1=>exact qE _ HL.out
 case c2=>exact fun j u hu=>zW (HF.out j u hu) _
 case c3=>exact xr fun i hi=>H1.out _ _ (HO.out i hi).1
 case c4=>unfold maxLen;omega
 case c5=>omega
 case c6=>simp
 intro v' w' hown hg _
 have hval:∃p' c',v' = .slice p' xs.length c':=by
  rcases hown.2 with⟨h1,h2⟩|⟨g,cap,cur,h1,_⟩
  ·exact⟨none,0,by rw[h1,show xs.length=0 by omega]⟩
  exact⟨some ⟨g,0,none⟩,cap,by rw[h1]⟩
 obtain⟨p',c',rfl⟩:=hval
 go_wp2
 refine bodyPost_ret (v:=.slice p' xs.length c') ?_ rfl ⟨p',c',rfl,⟨_,⟨SlO.flat (base:=w.heap.size) (cs:=xJ w (some a) 8) (by simpa using hown) HL.out (fun i hi=>H1.out _ _ (HO.out i hi).1) (fun i hi=>(HO.out i hi).1),hl⟩,fun k hk=>(hown.lt k hk).1⟩,?_⟩
 ·simp[results,Tryz.results97,go_sem]
 exact Below.grown bZ hg (by simp) (fun b e=>by cases e;exact Nat.le_refl _)

theorem VO {R:List Value→BlkL→Prop} (h1:∀cs x,R cs x→∀u∈cs,u.oneCell'=true) (xs:List BlkL) (p:Option Addr) (c:Nat) (w:World) (h:SliceAt w 6 R p xs) (hp:p=none→xs.length=0∧c=0) (hl:xs.length*96≤reachBytes) :
  Calls Tryz.prog 94 #[.slice p xs.length c] w fun e w'=>∃p' c',e = .returned (.slice p' xs.length c')∧(∃S,SlQ 48 6 96 (DatO R) w' (.slice p' xs.length c') xs S∧LoB w.heap.size S)∧Below w.heap.size w w':=by
 have hlr:xs.length*96≤140737488351232:=hl
 rcases p with _|a
 ·obtain⟨h0,rfl⟩:=hp rfl
  obtain rfl:=List.length_eq_zero_iff.1 h0
  have he:∀w:World,(binOp .eql 35 (.slice none 0 0) (.slice none 0 0)).run Tryz.prog w = .ok (.bool true) w:=fun _=>rfl
  go_enter Tryz.func94,Tryz.ntmps94
  go_wp2_with fail
  go_ret
  exact⟨none,0,rfl,⟨fun _=>False,⟨SlO.nil _ _ _ _ (fun _ h=>h.elim),by simp⟩,fun _ h=>h.elim⟩,Below.refl _ _⟩
 obtain⟨i1,k1,k2,k3,k4⟩:=info_parts k6
 have HO:=q7 fun i (hi:i<xs.length)=>h.old hi
 have HL:Hid (∀i,i<xs.length→(xJ w (some a) 6 i).length=6):=q7 fun _ _=>ji _ _ _ _
 have HF:Hid (∀j u,((List.range xs.length).flatMap (xJ w (some a) 6))[j]?=some u→w.cell? (a.add j)=some u):=q7 fun j u hu=>by
  have hj:j<xs.length*6:=by
   rw[←qE _ HL.out]
   exact(List.getElem?_eq_some_iff.1 hu).1
  have hi:j / 6<xs.length:=by omega
  have hm:j % 6<6:=by omega
  have e:j=j / 6*6+j % 6:=by omega
  rw[e,zj _ HL.out _ _ hi hm]at hu
  rw[e,(HO.out _ hi).2 _ hm a rfl,hu]
 have he:∀w:World,(binOp .eql 35 (.slice (some a) xs.length c) (.slice none 0 0)).run Tryz.prog w = .ok (.bool false) w:=fun _=>rfl
 have H1:=q7 h1
 clear h h1
 go_enter Tryz.func94,Tryz.ntmps94
 go_wp2_with (at_builtin;refine wpList_append_own _ rfl (.tmp 5) (.tmp 6) 35 rfl w.heap.size 48 i1 _ 6 96 Tryz.underlying35 k1 k2 k3 k4 rfl (by decide) _ 0 [] rfl ?c0 a xs.length c ((List.range xs.length).flatMap (xJ w (some a) 6)) rfl ?c1 ?c2 ?c3 ?c4 ?c5 ?c6 ?_)
 case c0=>exact ja (qm _ _) (Nat.le_refl _)
 case c1=>exact qE _ HL.out
 case c2=>exact fun j u hu=>zW (HF.out j u hu) _
 case c3=>exact xr fun i hi=>H1.out _ _ (HO.out i hi).1
 case c4=>unfold maxLen;omega
 case c5=>omega
 case c6=>simp
 intro v' w' hown hg _
 have hval:∃p' c',v' = .slice p' xs.length c':=by
  rcases hown.2 with⟨h1,h2⟩|⟨g,cap,cur,h1,_⟩
  ·exact⟨none,0,by rw[h1,show xs.length=0 by omega]⟩
  exact⟨some ⟨g,0,none⟩,cap,by rw[h1]⟩
 obtain⟨p',c',rfl⟩:=hval
 go_wp2
 refine bodyPost_ret (v:=.slice p' xs.length c') ?_ rfl ⟨p',c',rfl,⟨_,⟨SlO.flat (base:=w.heap.size) (cs:=xJ w (some a) 6) (by simpa using hown) HL.out (fun i hi=>H1.out _ _ (HO.out i hi).1) (fun i hi=>(HO.out i hi).1),hl⟩,fun k hk=>(hown.lt k hk).1⟩,?_⟩
 ·simp[results,Tryz.results94,go_sem]
 exact Below.grown bZ hg (by simp) (fun b e=>by cases e;exact Nat.le_refl _)

theorem VP {R:List Value→FunL→Prop} (h1:∀cs x,R cs x→∀u∈cs,u.oneCell'=true) (xs:List FunL) (p:Option Addr) (c:Nat) (w:World) (h:SliceAt w 4 R p xs) (hp:p=none→xs.length=0∧c=0) (hl:xs.length*56≤reachBytes) :
  Calls Tryz.prog 59 #[.slice p xs.length c] w fun e w'=>∃p' c',e = .returned (.slice p' xs.length c')∧(∃S,SlQ 37 4 56 (DatO R) w' (.slice p' xs.length c') xs S∧LoB w.heap.size S)∧Below w.heap.size w w':=by
 have hlr:xs.length*56≤140737488351232:=hl
 rcases p with _|a
 ·obtain⟨h0,rfl⟩:=hp rfl
  obtain rfl:=List.length_eq_zero_iff.1 h0
  have he:∀w:World,(binOp .eql 23 (.slice none 0 0) (.slice none 0 0)).run Tryz.prog w = .ok (.bool true) w:=fun _=>rfl
  go_enter Tryz.func59,Tryz.ntmps59
  go_wp2_with fail
  go_ret
  exact⟨none,0,rfl,⟨fun _=>False,⟨SlO.nil _ _ _ _ (fun _ h=>h.elim),by simp⟩,fun _ h=>h.elim⟩,Below.refl _ _⟩
 obtain⟨i1,k1,k2,k3,k4⟩:=info_parts JN
 have HO:=q7 fun i (hi:i<xs.length)=>h.old hi
 have HL:Hid (∀i,i<xs.length→(xJ w (some a) 4 i).length=4):=q7 fun _ _=>ji _ _ _ _
 have HF:Hid (∀j u,((List.range xs.length).flatMap (xJ w (some a) 4))[j]?=some u→w.cell? (a.add j)=some u):=q7 fun j u hu=>by
  have hj:j<xs.length*4:=by
   rw[←qE _ HL.out]
   exact(List.getElem?_eq_some_iff.1 hu).1
  have hi:j / 4<xs.length:=by omega
  have hm:j % 4<4:=by omega
  have e:j=j / 4*4+j % 4:=by omega
  rw[e,zj _ HL.out _ _ hi hm]at hu
  rw[e,(HO.out _ hi).2 _ hm a rfl,hu]
 have he:∀w:World,(binOp .eql 23 (.slice (some a) xs.length c) (.slice none 0 0)).run Tryz.prog w = .ok (.bool false) w:=fun _=>rfl
 have H1:=q7 h1
 clear h h1
 go_enter Tryz.func59,Tryz.ntmps59
 go_wp2_with (at_builtin;refine wpList_append_own _ rfl (.tmp 5) (.tmp 6) 23 rfl w.heap.size 37 i1 _ 4 56 Tryz.underlying23 k1 k2 k3 k4 rfl (by decide) _ 0 [] rfl ?c0 a xs.length c ((List.range xs.length).flatMap (xJ w (some a) 4)) rfl ?c1 ?c2 ?c3 ?c4 ?c5 ?c6 ?_)
 case c0=>exact ja (qm _ _) (Nat.le_refl _)
 case c1=>exact qE _ HL.out
 case c2=>exact fun j u hu=>zW (HF.out j u hu) _
 case c3=>exact xr fun i hi=>H1.out _ _ (HO.out i hi).1
 case c4=>unfold maxLen;omega
 case c5=>omega
 case c6=>simp
 intro v' w' hown hg _
 have hval:∃p' c',v' = .slice p' xs.length c':=by
  rcases hown.2 with⟨h1,h2⟩|⟨g,cap,cur,h1,_⟩
  ·exact⟨none,0,by rw[h1,show xs.length=0 by omega]⟩
  exact⟨some ⟨g,0,none⟩,cap,by rw[h1]⟩
 obtain⟨p',c',rfl⟩:=hval
 go_wp2
 refine bodyPost_ret (v:=.slice p' xs.length c') ?_ rfl ⟨p',c',rfl,⟨_,⟨SlO.flat (base:=w.heap.size) (cs:=xJ w (some a) 4) (by simpa using hown) HL.out (fun i hi=>H1.out _ _ (HO.out i hi).1) (fun i hi=>(HO.out i hi).1),hl⟩,fun k hk=>(hown.lt k hk).1⟩,?_⟩
 ·simp[results,Tryz.results59,go_sem]
 exact Below.grown bZ hg (by simp) (fun b e=>by cases e;exact Nat.le_refl _)

theorem VQ {R:List Value→GloL→Prop} (h1:∀cs x,R cs x→∀u∈cs,u.oneCell'=true) (xs:List GloL) (p:Option Addr) (c:Nat) (w:World) (h:SliceAt w 3 R p xs) (hp:p=none→xs.length=0∧c=0) (hl:xs.length*48≤reachBytes) :
  Calls Tryz.prog 58 #[.slice p xs.length c] w fun e w'=>∃p' c',e = .returned (.slice p' xs.length c')∧(∃S,SlQ 68 3 48 (DatO R) w' (.slice p' xs.length c') xs S∧LoB w.heap.size S)∧Below w.heap.size w w':=by
 have hlr:xs.length*48≤140737488351232:=hl
 rcases p with _|a
 ·obtain⟨h0,rfl⟩:=hp rfl
  obtain rfl:=List.length_eq_zero_iff.1 h0
  have he:∀w:World,(binOp .eql 22 (.slice none 0 0) (.slice none 0 0)).run Tryz.prog w = .ok (.bool true) w:=fun _=>rfl
  go_enter Tryz.func58,Tryz.ntmps58
  go_wp2_with fail
  go_ret
  exact⟨none,0,rfl,⟨fun _=>False,⟨SlO.nil _ _ _ _ (fun _ h=>h.elim),by simp⟩,fun _ h=>h.elim⟩,Below.refl _ _⟩
 obtain⟨i1,k1,k2,k3,k4⟩:=info_parts JM
 have HO:=q7 fun i (hi:i<xs.length)=>h.old hi
 have HL:Hid (∀i,i<xs.length→(xJ w (some a) 3 i).length=3):=q7 fun _ _=>ji _ _ _ _
 have HF:Hid (∀j u,((List.range xs.length).flatMap (xJ w (some a) 3))[j]?=some u→w.cell? (a.add j)=some u):=q7 fun j u hu=>by
  have hj:j<xs.length*3:=by
   rw[←qE _ HL.out]
   exact(List.getElem?_eq_some_iff.1 hu).1
  have hi:j / 3<xs.length:=by omega
  have hm:j % 3<3:=by omega
  have e:j=j / 3*3+j % 3:=by omega
  rw[e,zj _ HL.out _ _ hi hm]at hu
  rw[e,(HO.out _ hi).2 _ hm a rfl,hu]
 have he:∀w:World,(binOp .eql 22 (.slice (some a) xs.length c) (.slice none 0 0)).run Tryz.prog w = .ok (.bool false) w:=fun _=>rfl
 have H1:=q7 h1
 clear h h1
 go_enter Tryz.func58,Tryz.ntmps58
 go_wp2_with (at_builtin;refine wpList_append_own _ rfl (.tmp 5) (.tmp 6) 22 rfl w.heap.size 68 i1 _ 3 48 Tryz.underlying22 k1 k2 k3 k4 rfl (by decide) _ 0 [] rfl ?c0 a xs.length c ((List.range xs.length).flatMap (xJ w (some a) 3)) rfl ?c1 ?c2 ?c3 ?c4 ?c5 ?c6 ?_)
 case c0=>exact ja (qm _ _) (Nat.le_refl _)
 case c1=>exact qE _ HL.out
 case c2=>exact fun j u hu=>zW (HF.out j u hu) _
 case c3=>exact xr fun i hi=>H1.out _ _ (HO.out i hi).1
 case c4=>unfold maxLen;omega
 case c5=>omega
 case c6=>simp
 intro v' w' hown hg _
 have hval:∃p' c',v' = .slice p' xs.length c':=by
  rcases hown.2 with⟨h1,h2⟩|⟨g,cap,cur,h1,_⟩
  ·exact⟨none,0,by rw[h1,show xs.length=0 by omega]⟩
  exact⟨some ⟨g,0,none⟩,cap,by rw[h1]⟩
 obtain⟨p',c',rfl⟩:=hval
 go_wp2
 refine bodyPost_ret (v:=.slice p' xs.length c') ?_ rfl ⟨p',c',rfl,⟨_,⟨SlO.flat (base:=w.heap.size) (cs:=xJ w (some a) 3) (by simpa using hown) HL.out (fun i hi=>H1.out _ _ (HO.out i hi).1) (fun i hi=>(HO.out i hi).1),hl⟩,fun k hk=>(hown.lt k hk).1⟩,?_⟩
 ·simp[results,Tryz.results58,go_sem]
 exact Below.grown bZ hg (by simp) (fun b e=>by cases e;exact Nat.le_refl _)

end Go.Proofs.YtecdphhdmjmmnaaGreatDoor
