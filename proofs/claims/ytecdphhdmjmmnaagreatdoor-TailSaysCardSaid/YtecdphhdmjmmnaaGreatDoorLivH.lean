/-
  The contract of live.AllOf, at functions without phis.
-/
import Derived.Test.YtecdphhdmjmmnaaGreatDoorJLivB
set_option maxRecDepth 100000
set_option maxHeartbeats 16000000
namespace Go.Proofs.YtecdphhdmjmmnaaGreatDoor
open Go.RowKit Go.Shelf
attribute [local go_sem] Oper.semAt_some

def SetO:ElemO SetL:=fun w cs s S=>∃g c,cs=[.slice (some ⟨g,0,none⟩) s.length c]∧SetAt w g s∧S g
theorem kE:jN SetO:=fun _ _ _ _ _ ⟨g,c,e,h,hg⟩ hk _=>⟨g,c,e,h.of_block (hk g hg),hg⟩
def AnyO:ElemO Value:=fun _ cs v _=>cs=[v]
theorem Zp:jN AnyO:=fun _ _ _ _ _ h _ _=>h
theorem infoSetS:(Tryz.prog.info? 169).map (fun i=>(i.zero,i.size,i.bytes))=some (some (.slice none 0 0),1,24):=by kernel_rfl
theorem SlO.insAt {w:World} {v:Value} {ins:List SetL} {S:Blks} {L R:Nat} (h:SlO 169 1 SetO w v ins S) (h0:0<ins.length) (hR:∀s∈ins,s.length=R) (hL:∀k,S k→L≤k):∃I c gs,v = .slice (some ⟨I,0,none⟩) ins.length c∧InsAt w L I R ins gs∧S I:=by
 obtain⟨I,c,_,_,hv,hI,hSI,_,_,_,_,_,_,⟨cur,hau⟩,_⟩:=h.focus kE (by omega) h0
 have hch:∀b,∃g,b<ins.length→(∃c,w.cell? ⟨I,b,none⟩=some (.slice (some ⟨g,0,none⟩) R c))∧SetAt w g (ins.getD b [])∧L≤g∧g≠I:=fun b=>by
  by_cases hb:b<ins.length
  ·obtain⟨I',c',cs,T,hv',_,_,hl,hx,hTI,hTS,hcell,_⟩:=h.focus kE (by omega) hb
   obtain rfl:I=I':=by
    rw[hv]at hv'
    injection hv' with a
    injection a with a
    injection a
   obtain⟨g,d,rfl,hs,hg⟩:=hx
   have h1:=hcell 0 (by omega)
   rw[Nat.mul_one,Nat.add_zero]at h1
   have e:ins.getD b []=ins[b]:=by rw[List.getD_eq_getElem?_getD,List.getElem?_eq_getElem hb];rfl
   refine⟨g,fun _=>⟨⟨d,?_⟩,by rw[e];exact hs,hL g (hTS g hg),fun e=>hTI (e ▸ hg)⟩⟩
   rw[h1,hR _ (List.getElem_mem hb)]
   rfl
  exact⟨0,fun h=>absurd h hb⟩
 obtain⟨gs,hgs⟩:=Classical.axiomOfChoice hch
 refine⟨I,c,gs,hv,⟨⟨cur,hau⟩,fun b hb=>(hgs b hb).1,fun b hb=>⟨(hgs b hb).2.1,?_⟩,hL I hSI,fun b hb=>(hgs b hb).2.2⟩,hSI⟩
 rw[List.getD_eq_getElem?_getD,List.getElem?_eq_getElem hb]
 exact hR _ (List.getElem_mem hb)

def K9 (s:SetL) (l:List InsL) (i:Nat):SetL:=(l.reverse.take i).foldl XZ s
theorem revS_succ (s:SetL) (l:List InsL) {i:Nat} (h:i<l.length):K9 s l (i+1)=XZ (K9 s l i) (l[l.length - 1 - i]'(by omega)):=by
 unfold K9
 have hr:i<l.reverse.length:=by simpa using h
 rw[←List.take_append_getElem hr,List.foldl_append,List.getElem_reverse]
 rfl
theorem revS_all (s:SetL) (x:BlkL):K9 (vY s (x.fin.onr,x.fin.onn)) x.list x.list.length=ahiS s x:=by
 unfold K9 ahiS
 rw[List.take_of_length_le (by simp),List.foldl_reverse]
theorem revS_len (s:SetL) (l:List InsL) (i:Nat):(K9 s l i).length=s.length:=by
 unfold K9
 have:∀(m:List InsL) (s:SetL),(m.foldl XZ s).length=s.length:=by
  intro m
  induction m with
  | nil=>intro s;rfl
  | cons x m ih=>intro s;exact(ih _).trans (X0 _ _)
 exact this _ _
theorem Ka (w:World) (R:Nat):SetAt (w.alloc (.cells (madeCells #[.bool false] R) 4)) w.heap.size (List.replicate R false):=by
 have h1:=World.rowIs_made w (.bool false) R 4
 refine⟨?_,fun r hr=>?_⟩
 ·obtain⟨cs,hcs⟩:=h1
  exact⟨cs,hcs.1⟩
 rw[List.length_replicate]at hr
 rw[h1.cell hr]
 unfold inS
 rw[List.getD_eq_getElem?_getD,List.getElem?_replicate,if_pos hr]
 rfl
theorem vh {F:Fence} {k:Nat} {P:Program} {Q:Exit→Act→World→Prop} {a:Act} {w:World} {c:Code} (I:Nat→Act→World→Prop) (n:Nat) (h0:I n a w) (round:∀n a w,I n a w→c.wpIn F k P (Exit.then (fun a' w'=>∃m,m<n∧I m a' w') Q) a w):(Code.loop c).wpIn F k P Q a w:=by
 have key:∀N n a w,n<N→I n a w→Code.roundsIn F k P c Q N a w:=by
  intro N
  induction N with
  | zero=>intro n a w h;omega
  | succ N ih=>
   intro n a w hn hI
   refine wpIn_mono (round n a w hI) fun e a' w' hq=>?_
   cases e with
   | normal=>
    obtain⟨m,hm,hJ⟩:=hq
    exact ih m a' w' (by omega) hJ
   | _=>exact hq
 exact wpIn_loop_rounds (n+1) (key (n+1) n a w (by omega) h0)

theorem allOf_any {nf:Nat} {P:Nat→Int} (f:FunL) (R:Nat) (fp:Option Addr) (fc:Nat) (w:World) (hC:FunC nf P f) (hR:f.regs=R) (hph:∀x∈f.blocks,x.phis=[]) (hF:SliceAt w 6 (BlkR w) fp f.blocks) :
  Calls Tryz.prog 81 #[.agg #[.string f.name,.int .i64 f.params,.int .i64 f.regs,.slice fp f.blocks.length fc]] w fun e w'=>(∃I,(∃ic v,e = .returned (.tuple #[.slice (some ⟨I,0,none⟩) f.blocks.length ic,v]))∧∃gs,InsAt w' w.heap.size I R (jM f) gs)∧Below w.heap.size w w':=by
 obtain⟨i1,k1,k2,k3,k4⟩:=info_parts X3
 obtain⟨iS,m1,m2,m3,m4⟩:=info_parts infoSetS
 have hRb:R≤100:=by have:=hC.reg;omega
 have hn1:=hC.n1
 have haA:=hC.n40
 have hmk:=run_make_row 169 4 i1 (.bool false) Tryz.underlying169 k1 k2 k3 rfl .i64 .i64 R (by rw[k4];omega) (by omega)
 obtain⟨bb,bo,_,_,_,_,_,_,hp,e0,_⟩:=zE hF (Below.refl _ _) hn1
 subst hp
 have bz:=q8 e0
 have HC:=q7 hC
 have HPh:=q7 hph
 have HF:=q7 hF
 have hlv:∀n,UpS f (zQ f n):=xJ f
 have HUp:=q7 hlv
 have HR:=q7 hR
 clear hC hph hF e0 hlv
 refine(callsIn_wide (n:=3)).1 ?_
 refine callsIn_of_wp_marks Tryz.func81 rfl trivial ?_ rfl
 simp only[Tryz.ntmps81,List.size_toArray,List.length_cons,List.length_nil,Nat.reduceAdd,Nat.reduceSub,Array.replicate_succ,Array.replicate_zero,List.push_toArray,List.append_toArray,List.nil_append,List.cons_append]
 rw[hR]
 clear hR
 refine wpIn_wide.2 ?_
 go_wp2_with fail
 obtain⟨W1,hW1⟩:∃W1,W1=w.alloc (.cells #[.string f.name,.int .i64 f.params,.int .i64 R,.slice (some ⟨bb,bo,none⟩) f.blocks.length fc] 37):=⟨_,rfl⟩
 rw[←hW1]
 have hb1:Below w.heap.size w W1:=by rw[hW1];exact bZ
 have hz1:W1.heap.size=w.heap.size+1:=by rw[hW1];simp
 have hF1:W1.heap[w.heap.size]?=some (.cells #[.string f.name,.int .i64 f.params,.int .i64 R,.slice (some ⟨bb,bo,none⟩) f.blocks.length fc] 37 (0,0)):=by rw[hW1];exact qh rfl
 have hG:=xK f.name f.params R bb bo fc f.blocks.length (kL f) W1 haA (fun i hi=>Zv HF.out hb1 i hi) HC.out.funD.toFunS.tosD
 clear hW1
 refine hG.mono ?_
 rintro e W2 ⟨⟨fr,rfl,ham⟩,hb2⟩
 have hAh:AhdAt W2 (W1.heap.size+1) f.blocks.length:=fun t ht=>by
  have hc:=ham.tab.cell ht
  have hr:=ham.row t ht
  have hle:(qP (qJ (kL f) f.blocks.length) t).length≤1000000:=by
   have:(insN f t).length≤f.blocks.length:=by
    refine xl _ _ (HC.out.funD.insD t) fun x hx=>(HC.out.funD.mem.1 hx).1
   have e:insN f t=qP (qJ (kL f) f.blocks.length) t:=rfl
   rw[←e]
   omega
  obtain⟨p,c,hv,hsl⟩:=own_ints (n:=(qP (qJ (kL f) f.blocks.length) t).length) (xs:=(qP (qJ (kL f) f.blocks.length) t).map fun i:Nat=>(i:Int)) (by simp) (by rw[List.map_map];exact hr) (fun x hx=>by
   obtain⟨i,hi,rfl⟩:=List.mem_map.1 hx
   have:i<f.blocks.length:=(HC.out.funD.mem.1 (show i∈insN f t from hi)).1
   unfold I64
   omega)
  refine⟨p,c,_,by rw[hc,hv],by rw[List.length_map];exact hle,hsl⟩
 have hz2:=hb2.size
 rw[hz1]at hAh
 have HAh:=q7 hAh
 have HF2:=q7 ((hb2.block _ (by omega)).trans hF1)
 have HB2:=q7 (hb1.trans (hb2.mono (by omega)))
 have hS0:SlO 169 1 SetO W2 (.slice none 0 0) (List.replicate 0 (List.replicate R false)) fun _=>False:=SlO.nil _ _ _ _ fun _ h=>h.elim
 have f2:W2.cell? ⟨w.heap.size,2,none⟩=some (.int .i64 R):=(blk HF2.out).1 2
 have f3:W2.cell? ⟨w.heap.size,3,none⟩=some (.slice (some ⟨bb,bo,none⟩) f.blocks.length fc):=(blk HF2.out).1 3
 have fz:=q9 HF2.out
 have HS0:=q7 hS0
 clear hG hAh hb1 hF1 hb2 ham hS0
 go_wp2_with fail
 clear f2 f3
 go_loopg [2,17] f.blocks.length (fun m s2 s17 wr=>∃(k:Nat) (S:Blks),k≤f.blocks.length∧m=f.blocks.length - k∧s17 = .int .i64 k∧SlO 169 1 SetO wr s2 (List.replicate k (List.replicate R false)) S∧(∀i,S i→W2.heap.size≤i)∧Below W2.heap.size W2 wr)
 case atStart=>exact⟨0,_,by omega,rfl,rfl,HS0.out,fun _ h=>h.elim,Below.refl _ _⟩
 case round=>
  obtain⟨wp,hwp⟩:∃wp,wp=wr:=⟨_,rfl⟩
  subst hwp
  obtain⟨k,S,hk,rfl,rfl,hS,hL,hb⟩:=hrel
  have HS:=q7 hS
  have HL:=q7 hL
  have HB:=q7 hb
  have hzp:=hb.size
  have hFp:=(hb.block w.heap.size (by omega)).trans HF2.out
  have f2:wp.cell? ⟨w.heap.size,2,none⟩=some (.int .i64 R):=(blk hFp).1 2
  have fzp:=q9 hFp
  have hSi:=hS.inb
  have HSi:=q7 hSi
  clear hS hL hb hSi
  by_cases hlt:k<f.blocks.length
  ·go_wp2_with (at_builtin;refine qD _ rfl _ _ 128 rfl 169 iS _ 1 24 Tryz.underlying128 m1 m2 m3 m4 rfl (by decide) kE rfl (HS.out.below kE (((Below.refl _ wp).alloc (Nat.le_refl _) _).alloc (by simp) _)) ⟨wp.heap.size+1,0,none⟩ 1 [.slice (some ⟨wp.heap.size,0,none⟩) R R] (List.replicate R false) rfl rfl ?hn ?ho (T:=fun i=>i=wp.heap.size) ?hy ?ha ?ht ?hm ?hb ?_)
   case hn=>exact xq _ _ _ _ (by simp)
   case ho=>intro u hu;rw[List.mem_singleton.1 hu];rfl
   case hy=>exact⟨wp.heap.size,R,by simp,(Ka wp R).below ((Below.refl _ _).alloc (Nat.le_refl _) _),rfl⟩
   case ha=>exact fun i h1 h2=>by(have h2:i=wp.heap.size:=h2);have:=HSi.out i h1;omega
   case ht=>exact fun i h2=>by(have h2:i=wp.heap.size:=h2);simp;omega
   case hm=>rw[List.length_replicate];unfold maxLen;omega
   case hb=>rw[List.length_replicate];omega
   intro v' w' hsn
   obtain⟨S',hS',hsub,hkp⟩:=hsn
   rw[←List.replicate_succ']at hS'
   have HS':=q7 hS'
   have HL':Hid (∀i,S' i→W2.heap.size≤i):=q7 fun i hi=>by
    rcases hsub i hi with h|h|h
    ·exact HL.out i h
    ·have h:i=wp.heap.size:=h
     omega
    have:wp.heap.size≤i:=by simp at h;omega
    omega
   have HB':Hid (Below W2.heap.size W2 w'):=q7 ((HB.out.trans ((((Below.refl wp.heap.size wp).alloc (Nat.le_refl _) _).alloc (by simp) _).mono hzp)).trans (hkp.below (by simp;omega) HL.out))
   clear hS' hsub hkp f2
   go_wp2_with fail
   go_roundg (f.blocks.length - (k+1))
   case measure=>omega
   case rel=>exact⟨k+1,S',by omega,rfl,by go_num,HS'.out,HL'.out,HB'.out⟩
  obtain rfl:k=f.blocks.length:=by omega
  go_wp2_with fail
  refine(wpIn_wide (n:=3)).1 ?_
  refine vh (fun q a' w'=>∃(m:Nat) (more:Bool) (vin:Value) (S:Blks) (Ds:List Nat),(q=2*jx (zQ f m)+(if more=true then 1 else 0)∧(more=false→zQ f m=jM f)∧SlO 169 1 SetO w' vin (zQ f m) S∧(∀i,S i→W2.heap.size≤i)∧Ds.Nodup∧(∀D∈Ds,W2.heap.size≤D∧w'.heap[D]?=some (.deferred (some []))∧¬ S D)∧Below W2.heap.size W2 w')∧a'.defers=marks Ds∧a'.tmps.size=97∧a'.tmps.getD 1 undef = .pointer (some ⟨w.heap.size,0,none⟩)∧a'.tmps.getD 2 undef=vin∧a'.tmps.getD 4 undef = .slice (some ⟨w.heap.size+1+1,0,none⟩) f.blocks.length f.blocks.length∧a'.tmps.getD 5 undef = .bool more) (2*jx (zQ f 0)+1) ?start ?round
  case start=>
   refine⟨0,true,_,S,[],⟨rfl,(fun h=>by cases h),?_,HL.out,List.nodup_nil,(fun D h=>by cases h),HB.out⟩,rfl,rfl,rfl,rfl,rfl,rfl⟩
   have e:zQ f 0=List.replicate f.blocks.length (List.replicate R false):=by
    show Q8 f=_
    unfold Q8
    rw[HR.out]
    rfl
   rw[e]
   exact HS.out
  case round=>
   clear HS HSi HB HL HS0 f2 hFp fzp
   rintro q ⟨ts,ds⟩ wr ⟨m,more,vin,S,Ds,⟨hq,hst,hS,hL,hN,hD,hb⟩,hdf,hfs,hf1,hf2,hf4,hf5⟩
   simp only at hdf hfs hf1 hf2 hf4 hf5
   subst hdf
   obtain⟨us,hus⟩:∃us:Nat→Value,us=fun i=>ts.getD i undef:=⟨_,rfl⟩
   have hts:ts=((us 0)::(.pointer (some ⟨w.heap.size,0,none⟩))::vin::(us 3)::(.slice (some ⟨w.heap.size+1+1,0,none⟩) f.blocks.length f.blocks.length)::(.bool more)::(us 6)::(us 7)::(us 8)::(us 9)::(us 10)::(us 11)::(us 12)::(us 13)::(us 14)::(us 15)::(us 16)::(us 17)::(us 18)::(us 19)::(us 20)::(us 21)::(us 22)::(us 23)::(us 24)::(us 25)::(us 26)::(us 27)::(us 28)::(us 29)::(us 30)::(us 31)::(us 32)::(us 33)::(us 34)::(us 35)::(us 36)::(us 37)::(us 38)::(us 39)::(us 40)::(us 41)::(us 42)::(us 43)::(us 44)::(us 45)::(us 46)::(us 47)::(us 48)::(us 49)::(us 50)::(us 51)::(us 52)::(us 53)::(us 54)::(us 55)::(us 56)::(us 57)::(us 58)::(us 59)::(us 60)::(us 61)::(us 62)::(us 63)::(us 64)::(us 65)::(us 66)::(us 67)::(us 68)::(us 69)::(us 70)::(us 71)::(us 72)::(us 73)::(us 74)::(us 75)::(us 76)::(us 77)::(us 78)::(us 79)::(us 80)::(us 81)::(us 82)::(us 83)::(us 84)::(us 85)::(us 86)::(us 87)::(us 88)::(us 89)::(us 90)::(us 91)::(us 92)::(us 93)::(us 94)::(us 95)::(us 96)::[]).toArray:=by
    have hfr:=Zb hfs
    rw[←hus]at hfr
    have h1:us 1 = .pointer (some ⟨w.heap.size,0,none⟩):=by rw[hus];exact hf1
    have h2:us 2=vin:=by rw[hus];exact hf2
    have h4:us 4 = .slice (some ⟨w.heap.size+1+1,0,none⟩) f.blocks.length f.blocks.length:=by rw[hus];exact hf4
    have h5:us 5 = .bool more:=by rw[hus];exact hf5
    refine hfr.trans ?_
    show((us 0)::(us 1)::(us 2)::(us 3)::(us 4)::(us 5)::(us 6)::(us 7)::(us 8)::(us 9)::(us 10)::(us 11)::(us 12)::(us 13)::(us 14)::(us 15)::(us 16)::(us 17)::(us 18)::(us 19)::(us 20)::(us 21)::(us 22)::(us 23)::(us 24)::(us 25)::(us 26)::(us 27)::(us 28)::(us 29)::(us 30)::(us 31)::(us 32)::(us 33)::(us 34)::(us 35)::(us 36)::(us 37)::(us 38)::(us 39)::(us 40)::(us 41)::(us 42)::(us 43)::(us 44)::(us 45)::(us 46)::(us 47)::(us 48)::(us 49)::(us 50)::(us 51)::(us 52)::(us 53)::(us 54)::(us 55)::(us 56)::(us 57)::(us 58)::(us 59)::(us 60)::(us 61)::(us 62)::(us 63)::(us 64)::(us 65)::(us 66)::(us 67)::(us 68)::(us 69)::(us 70)::(us 71)::(us 72)::(us 73)::(us 74)::(us 75)::(us 76)::(us 77)::(us 78)::(us 79)::(us 80)::(us 81)::(us 82)::(us 83)::(us 84)::(us 85)::(us 86)::(us 87)::(us 88)::(us 89)::(us 90)::(us 91)::(us 92)::(us 93)::(us 94)::(us 95)::(us 96)::[]).toArray=_
    rw[h1,h2,h4,h5]
   clear hus hfs hf1 hf2 hf4 hf5
   subst hts
   have HQ:=q7 hq
   have HSt:=q7 hst
   have HS:=q7 hS
   have HL:=q7 hL
   have HN:=q7 hN
   have HD:=q7 hD
   have HB:=q7 hb
   have hzr:=hb.size
   have hFr:=(hb.block w.heap.size (by omega)).trans HF2.out
   have HFr:=q7 hFr
   have f3:wr.cell? ⟨w.heap.size,3,none⟩=some (.slice (some ⟨bb,bo,none⟩) f.blocks.length fc):=(blk hFr).1 3
   have fzr:=q9 hFr
   clear hq hst hS hL hN hD hb hFr
   refine wpIn_wide.2 ?_
   cases more
   ·go_wp2_with fail
    show LeavesInM _ _ _ _ _ _ (marks Ds) .returning wr
    refine xP W2.heap.size Ds wr HN.out (fun D h=>⟨(HD.out D h).1,(HD.out D h).2.1⟩) (fun w' h1 h2 h3 h4 h5=>?_)
    have hS':=HS.out.loc (w':=w') kE (fun k hk=>h5 k fun hD=>(HD.out k hD).2.2 hk) h4
    rw[HSt.out (by first|rfl|trivial)]at hS'
    obtain⟨I,ic,gs,hvi,hIn,_⟩:=hS'.insAt (L:=w.heap.size) (R:=R) (by rw[(jG f).1.len];exact hn1) (fun s hs=>by
     obtain⟨j,hj,rfl⟩:=List.mem_iff_getElem.1 hs
     have:=(jG f).1.row j hj
     rw[List.getD_eq_getElem?_getD,List.getElem?_eq_getElem hj]at this
     have h2:=HR.out
     simp only[Option.getD_some]at this
     omega) (fun k hk=>by have:=HL.out k hk;omega)
    rw[(jG f).1.len]at hvi
    subst hvi
    have hbw:=HB2.out.trans (HB.out.mono (by omega))
    refine⟨.tuple #[.slice (some ⟨I,0,none⟩) f.blocks.length ic,us 3],by simp[results,Tryz.results81,go_sem],⟨I,⟨ic,us 3,rfl⟩,gs,hIn⟩,h1.trans hbw.os,h2.trans hbw.tape,h3.trans hbw.output,Nat.le_trans hbw.size h4,fun k hk=>(h5 k fun hD=>by have:=(HD.out k hD).1;omega).trans (hbw.block k hk)⟩
   go_wp2_with fail
   refine(wpIn_wide (n:=3)).1 ?_
   refine vh (fun q a' w'=>∃(b:Nat) (vi vo:Value) (S1 S2:Blks) (vals:List Value) (Es:List Nat),(q=f.blocks.length - b∧b≤f.blocks.length∧SlO 169 1 SetO w' vi (turnTo f (zQ f m) b).1 S1∧SlO 169 1 AnyO w' vo vals S2∧vals.length=b∧Apart S1 S2∧(∀i,S1 i∨S2 i→W2.heap.size≤i)∧Es.Nodup∧(∀D∈Es,W2.heap.size≤D∧w'.heap[D]?=some (.deferred (some []))∧¬ S1 D∧¬ S2 D)∧Below W2.heap.size W2 w')∧a'.defers=marks Es∧a'.tmps.size=97∧a'.tmps.getD 1 undef = .pointer (some ⟨w.heap.size,0,none⟩)∧a'.tmps.getD 2 undef=vi∧a'.tmps.getD 3 undef=vo∧a'.tmps.getD 4 undef = .slice (some ⟨w.heap.size+1+1,0,none⟩) f.blocks.length f.blocks.length∧a'.tmps.getD 5 undef = .bool (turnTo f (zQ f m) b).2∧a'.tmps.getD 29 undef = .int .i64 f.blocks.length∧a'.tmps.getD 30 undef = .int .i64 b) f.blocks.length ?startB ?roundB
   case startB=>
    exact⟨0,vin,.slice none 0 0,S,fun _=>False,[],Ds,⟨rfl,Nat.zero_le _,HS.out,SlO.nil _ _ _ _ fun _ h=>h.elim,rfl,fun _ _ h=>h.elim,fun i h=>h.elim (HL.out i) fun h=>h.elim,HN.out,fun D hD=>⟨(HD.out D hD).1,(HD.out D hD).2.1,(HD.out D hD).2.2,fun h=>h.elim⟩,HB.out⟩,rfl,rfl,rfl,rfl,rfl,rfl,rfl,rfl,rfl⟩
   case roundB=>
    clear HS HD HB HL HN f3 fzr HFr hzr
    rintro q3 ⟨ts,ds⟩ wr ⟨b,vi,vo,S1,S2,vals,Es,⟨hq3,hbn,hS1,hS2,hvl,hap,hL,hN,hD,hb⟩,hdf,hfs,hf1,hf2,hf3,hf4,hf5,hi8,hio⟩
    simp only at hdf hfs hf1 hf2 hf3 hf4 hf5 hi8 hio
    subst hdf
    obtain⟨vs,hvs⟩:∃vs:Nat→Value,vs=us:=⟨_,rfl⟩
    clear hvs
    obtain⟨us,hus⟩:∃us:Nat→Value,us=fun i=>ts.getD i undef:=⟨_,rfl⟩
    have hts:ts=((us 0)::(.pointer (some ⟨w.heap.size,0,none⟩))::vi::vo::(.slice (some ⟨w.heap.size+1+1,0,none⟩) f.blocks.length f.blocks.length)::(.bool (turnTo f (zQ f m) b).2)::(us 6)::(us 7)::(us 8)::(us 9)::(us 10)::(us 11)::(us 12)::(us 13)::(us 14)::(us 15)::(us 16)::(us 17)::(us 18)::(us 19)::(us 20)::(us 21)::(us 22)::(us 23)::(us 24)::(us 25)::(us 26)::(us 27)::(us 28)::(.int .i64 f.blocks.length)::(.int .i64 b)::(us 31)::(us 32)::(us 33)::(us 34)::(us 35)::(us 36)::(us 37)::(us 38)::(us 39)::(us 40)::(us 41)::(us 42)::(us 43)::(us 44)::(us 45)::(us 46)::(us 47)::(us 48)::(us 49)::(us 50)::(us 51)::(us 52)::(us 53)::(us 54)::(us 55)::(us 56)::(us 57)::(us 58)::(us 59)::(us 60)::(us 61)::(us 62)::(us 63)::(us 64)::(us 65)::(us 66)::(us 67)::(us 68)::(us 69)::(us 70)::(us 71)::(us 72)::(us 73)::(us 74)::(us 75)::(us 76)::(us 77)::(us 78)::(us 79)::(us 80)::(us 81)::(us 82)::(us 83)::(us 84)::(us 85)::(us 86)::(us 87)::(us 88)::(us 89)::(us 90)::(us 91)::(us 92)::(us 93)::(us 94)::(us 95)::(us 96)::[]).toArray:=by
     have hfr:=Zb hfs
     rw[←hus]at hfr
     have h1:us 1 = .pointer (some ⟨w.heap.size,0,none⟩):=by rw[hus];exact hf1
     have h2:us 2=vi:=by rw[hus];exact hf2
     have h3:us 3=vo:=by rw[hus];exact hf3
     have h4:us 4 = .slice (some ⟨w.heap.size+1+1,0,none⟩) f.blocks.length f.blocks.length:=by rw[hus];exact hf4
     have h5:us 5 = .bool (turnTo f (zQ f m) b).2:=by rw[hus];exact hf5
     have h29:us 29 = .int .i64 f.blocks.length:=by rw[hus];exact hi8
     have h30:us 30 = .int .i64 b:=by rw[hus];exact hio
     refine hfr.trans ?_
     show((us 0)::(us 1)::(us 2)::(us 3)::(us 4)::(us 5)::(us 6)::(us 7)::(us 8)::(us 9)::(us 10)::(us 11)::(us 12)::(us 13)::(us 14)::(us 15)::(us 16)::(us 17)::(us 18)::(us 19)::(us 20)::(us 21)::(us 22)::(us 23)::(us 24)::(us 25)::(us 26)::(us 27)::(us 28)::(us 29)::(us 30)::(us 31)::(us 32)::(us 33)::(us 34)::(us 35)::(us 36)::(us 37)::(us 38)::(us 39)::(us 40)::(us 41)::(us 42)::(us 43)::(us 44)::(us 45)::(us 46)::(us 47)::(us 48)::(us 49)::(us 50)::(us 51)::(us 52)::(us 53)::(us 54)::(us 55)::(us 56)::(us 57)::(us 58)::(us 59)::(us 60)::(us 61)::(us 62)::(us 63)::(us 64)::(us 65)::(us 66)::(us 67)::(us 68)::(us 69)::(us 70)::(us 71)::(us 72)::(us 73)::(us 74)::(us 75)::(us 76)::(us 77)::(us 78)::(us 79)::(us 80)::(us 81)::(us 82)::(us 83)::(us 84)::(us 85)::(us 86)::(us 87)::(us 88)::(us 89)::(us 90)::(us 91)::(us 92)::(us 93)::(us 94)::(us 95)::(us 96)::[]).toArray=_
     rw[h1,h2,h3,h4,h5,h29,h30]
    clear hus hfs hf1 hf2 hf3 hf4 hf5 hi8 hio
    subst hts
    obtain⟨st,hst⟩:∃st,st=turnTo f (zQ f m) b:=⟨_,rfl⟩
    rw[←hst]at hS1
    have hup:=((HUp.out m).turnTo b (by rw[(HUp.out m).len];exact hbn)).1
    rw[←hst]at hup ⊢
    have hil:st.1.length=f.blocks.length:=hup.len
    have hrow:∀s∈st.1,s.length=R:=fun s hs=>by
     obtain⟨j,hj,rfl⟩:=List.mem_iff_getElem.1 hs
     have:=hup.row j hj
     rw[List.getD_eq_getElem?_getD,List.getElem?_eq_getElem hj]at this
     have h2:=HR.out
     simp only[Option.getD_some]at this
     omega
    obtain⟨I,ic,gs,hvi,hIn,hSI⟩:=hS1.insAt (L:=W2.heap.size) (by omega) hrow (fun k h=>hL k (.inl h))
    rw[hil]at hvi
    subst hvi
    have HTu:=q7 hst
    have HUs:=q7 hup
    have HIl:=q7 hil
    have hgP:=q7 hrow
    have HIn:=q7 hIn
    have HSI:=q7 hSI
    have HQ3:=q7 hq3
    have HS1:=q7 hS1
    have HS2:=q7 hS2
    have HVl:=q7 hvl
    have HAp:=q7 hap
    have HL:=q7 hL
    have HN:=q7 hN
    have HD:=q7 hD
    have HB:=q7 hb
    have hzr:=hb.size
    have hBw:Below w.heap.size w wr:=HB2.out.trans (hb.mono (by omega))
    have HBw:=q7 hBw
    have hFr:=(hb.block w.heap.size (by omega)).trans HF2.out
    have HFr:=q7 hFr
    have f2:wr.cell? ⟨w.heap.size,2,none⟩=some (.int .i64 R):=(blk hFr).1 2
    have f0:wr.cell? ⟨w.heap.size,0,none⟩=some (.string f.name):=(blk hFr).1 0
    have f1:wr.cell? ⟨w.heap.size,1,none⟩=some (.int .i64 f.params):=(blk hFr).1 1
    have f3:wr.cell? ⟨w.heap.size,3,none⟩=some (.slice (some ⟨bb,bo,none⟩) f.blocks.length fc):=(blk hFr).1 3
    have fzr:=q9 hFr
    clear hst hup hil hrow hIn hSI hq3 hS1 hS2 hvl hap hL hN hD hb hBw hFr
    refine wpIn_wide.2 ?_
    by_cases hlt:b<f.blocks.length
    rotate_left
    ·have hb':b=f.blocks.length:=by omega
     subst hb'
     clear f0 f1 f2 f3 fzr
     go_wp2_with fail
     have e1:zQ f (m+1)=st.1:=by rw[HTu.out];rfl
     have htt:=(HUp.out m).turnTo f.blocks.length (by rw[(HUp.out m).len];exact Nat.le_refl _)
     rw[←HTu.out]at htt
     have hq:=HQ.out
     simp only[if_true]at hq
     refine⟨2*jx (zQ f (m+1))+(if st.2=true then 1 else 0),?_,m+1,st.2,_,S1,Es,⟨rfl,fun hf=>?_,by rw[e1];exact HS1.out,fun i h=>HL.out i (.inl h),HN.out,fun D hD=>⟨(HD.out D hD).1,(HD.out D hD).2.1,(HD.out D hD).2.2.1⟩,HB.out⟩,rfl,rfl,rfl,rfl,rfl,rfl⟩
     ·rw[e1]
      cases e2:st.2 with
      | true=>
       have:=htt.2.2.1 e2
       simp only[if_true]
       omega
      | false=>
       have:=htt.2.1.falses.1
       simp only[Bool.false_eq_true,if_false]
       omega
     have h3:=Vr (f:=f) (n:=m) (by rw[←HTu.out];exact hf)
     rw[e1,(htt.2.2.2 hf).1]
     exact h3
    have hts:=(HC.out.fin b hlt).to
    have htl:f.blocks[b].fin.to.length≤2:=by have:=(HC.out.fin b hlt).len;have:=(HC.out.fin b hlt).kind;omega
    have hbe:=K8 f R b (some ⟨bb,bo,none⟩) fc (w.heap.size+1+1) I ic W2.heap.size st.1 gs wr HR.out hRb hlt haA (HF.out.mono HBw.out (by omega) fun _ _ h=>h.below HBw.out) HPh.out hts htl (HAh.out.below HB.out) HIn.out HIl.out
    rw[HR.out]at hbe
    have HBe:=q7 hbe
    clear hbe hts htl
    go_wp2_with (first|(go_at_call 115;refine HBe.out.mono ?_;rintro e w3 ⟨rfl,hs3,hb3⟩;have HS3:=q7 hs3;have HB3:=q7 hb3;have hz3:=hb3.size;clear hs3 hb3)|(at_builtin;refine qD _ rfl _ _ 128 rfl 169 iS _ 1 24 Tryz.underlying128 m1 m2 m3 m4 rfl (by decide) Zp rfl ((HS2.out.below Zp HB3.out).below Zp ((Below.refl _ w3).alloc (Nat.le_refl _) _)) ⟨w3.heap.size,0,none⟩ 1 [.slice (some ⟨wr.heap.size+1,0,none⟩) R R] (.slice (some ⟨wr.heap.size+1,0,none⟩) R R) rfl rfl ?hn ?ho (T:=fun _=>False) rfl ?ha ?ht ?hm ?hb ?_))
    case hn=>exact xq _ _ _ _ rfl
    case ho=>intro u hu;rw[List.mem_singleton.1 hu];rfl
    case ha=>exact fun i h1 h2=>h2
    case ht=>exact fun i h2=>h2.elim
    case hm=>rw[HVl.out];unfold maxLen;omega
    case hb=>rw[HVl.out];omega
    intro v' w4 hsn
    obtain⟨S2',hip,hsub,hkp⟩:=hsn
    have hlen:(vals++[Value.slice (some ⟨wr.heap.size+1,0,none⟩) R R]).length=b+1:=by rw[List.length_append,HVl.out];rfl
    obtain⟨O,co,csO,TO,hvO,hOz,hSO,hlO,hxO,_,_,hcO,_⟩:=hip.focus Zp (by omega) (i:=b) (by rw[hlen];omega)
    have hyb:(vals++[Value.slice (some ⟨wr.heap.size+1,0,none⟩) R R])[b]'(by rw[hlen];omega) = .slice (some ⟨wr.heap.size+1,0,none⟩) R R:=by
     rw[List.getElem_append_right (by rw[HVl.out];exact Nat.le_refl _)]
     simp
    rw[hyb]at hxO
    rw[hlen]at hvO
    subst hvO
    have cO:w4.cell? ⟨O,b,none⟩=some (.slice (some ⟨wr.heap.size+1,0,none⟩) R R):=by
     have:=hcO 0 (by omega)
     rw[Nat.mul_one,Nat.add_zero]at this
     rw[this,hxO]
     rfl
    have hkw:Kept S2 wr w4:=(Kept.of_below ((HB3.out).trans (((Below.refl w3.heap.size w3).alloc (Nat.le_refl _) _).mono hz3))).trans hkp (fun _ _ h=>h)
    have heO:SetAt w4 (wr.heap.size+1) (QN R st.1 f.blocks[b].fin.to):=(HS3.out.below ((Below.refl w3.heap.size w3).alloc (Nat.le_refl _) _)).of_block (hkp.block _ (by have:=HS3.out.lt;simp;omega) fun h=>by have:=HS2.out.inb _ h;omega)
    have hiq:=q7 hip
    have HSub:Hid (∀k,S2' k→S2 k∨wr.heap.size≤k):=q7 fun k hk=>by
     rcases hsub k hk with h|h|h
     ·exact .inl h
     ·exact h.elim
     exact .inr (by simp at h;omega)
    have HKw:=q7 hkw
    have hcl:=J4 (wr.heap.size+1) R _ w4 heO (by rw[xn];omega)
    rw[xn]at hcl
    have HCl:=q7 hcl
    have hB4:Below W2.heap.size W2 w4:=HB.out.trans (hkw.below hzr fun i h=>HL.out i (.inr h))
    have HB4:=q7 hB4
    have hz4:=hB4.size
    have ht7:=hkw.size
    have b0:(0:Int)≤(b:Int):=by omega
    have b1:(b:Int)<(b:Int)+1:=by omega
    clear hip hsub hkp hlen hSO hlO hxO hcO hyb hkw heO hcl hB4
    go_wp2_with (go_at_call 116;refine HCl.out.mono ?_;rintro e w5 ⟨g,cg,rfl,hg,hs5,hb5⟩;have HS5:=q7 hs5;have HB5:=q7 hb5;have hz5:=hb5.size;clear hs5 hb5 cO)
    obtain⟨W6,hW6⟩:∃W6,W6=w5.alloc (.cells #[.slice (some ⟨g,0,none⟩) R cg] 169):=⟨_,rfl⟩
    rw[←hW6]
    have hb6:Below w5.heap.size w5 W6:=by rw[hW6];exact bZ
    have hx6:W6.heap[w5.heap.size]?=some (.cells #[.slice (some ⟨g,0,none⟩) R cg] 169 (0,0)):=by rw[hW6];exact qh rfl
    have hz6:W6.heap.size=w5.heap.size+1:=by rw[hW6];simp
    have hs6:SetAt W6 g (QN R st.1 f.blocks[b].fin.to):=HS5.out.below hb6
    have hiv:Below w4.heap.size w4 W6:=HB5.out.trans (hb6.mono hz5)
    clear hW6
    have hB6:Below W2.heap.size W2 W6:=HB4.out.trans (hiv.mono (by omega))
    obtain⟨b2,o2,q1,c1,q2,c2,q3',c3,hp2,e0,e1,e2,e3,e4,e5,_,_,_,hl2,_,_,hsl,_⟩:=zE HF.out (HB2.out.trans (hB6.mono (by omega))) hlt
    obtain⟨rfl,rfl⟩:bb=b2∧bo=o2:=by cases hp2;exact⟨rfl,rfl⟩
    have hF6:=(hB6.block w.heap.size (by omega)).trans HF2.out
    have f3:W6.cell? ⟨w.heap.size,3,none⟩=some (.slice (some ⟨bb,bo,none⟩) f.blocks.length fc):=(blk hF6).1 3
    have x6:W6.cell? ⟨w5.heap.size,0,none⟩=some (.slice (some ⟨g,0,none⟩) R cg):=(blk hx6).1 0
    have fz6:=q9 hF6
    have xz6:=q9 hx6
    have bz6:=q8 e0
    have hgz:=hs6.lt
    have hon:=(HC.out.fin b hlt).on
    have htk:=fun(W:World) (h:SetAt W g (QN R st.1 f.blocks[b].fin.to))=>X2 g cg (QN R st.1 f.blocks[b].fin.to) (f.blocks[b].fin.onr,f.blocks[b].fin.onn) W h (fun e=>by rw[xn];have:=hon e;have:=HR.out;simp only;omega)
    rw[xn]at htk
    have HTk:=q7 htk
    have HS6:=q7 hs6
    have HX6:=q7 hx6
    have HF6:=q7 hF6
    have HB6:=q7 hB6
    have hlF:=q7 hiv
    have HSl:=q7 (And.intro hsl hl2)
    have b1':(b:Int)<f.blocks.length:=by omega
    clear hb6 hx6 hs6 hiv hB6 hF6 hon htk hsl hl2 b1
    obtain⟨Sq,hSq⟩:∃Sq:World→Prop,Sq=fun w'=>w'.cell? ⟨w.heap.size,3,none⟩=some (.slice (some ⟨bb,bo,none⟩) f.blocks.length fc)∧w'.cell? ⟨w5.heap.size,0,none⟩=some (.slice (some ⟨g,0,none⟩) R cg)∧w'.cell? ⟨bb,bo+b*6+2+1,none⟩=some (.bool f.blocks[b].fin.onr)∧w'.cell? ⟨bb,bo+b*6+2+1+1,none⟩=some (.int .i64 f.blocks[b].fin.onn):=⟨_,rfl⟩
    have ha8:∀w',Sq w'→w'.cell? ⟨w.heap.size,3,none⟩=some (.slice (some ⟨bb,bo,none⟩) f.blocks.length fc)∧w'.cell? ⟨w5.heap.size,0,none⟩=some (.slice (some ⟨g,0,none⟩) R cg)∧w'.cell? ⟨bb,bo+b*6+2+1,none⟩=some (.bool f.blocks[b].fin.onr)∧w'.cell? ⟨bb,bo+b*6+2+1+1,none⟩=some (.int .i64 f.blocks[b].fin.onn)∧w.heap.size<w'.heap.size∧w5.heap.size<w'.heap.size∧bb<w'.heap.size:=fun w' h=>by
     rw[hSq]at h
     exact⟨h.1,h.2.1,h.2.2.1,h.2.2.2,q8 h.1,q8 h.2.1,q8 h.2.2.1⟩
    have hq0:Sq W6.drew:=by rw[hSq];exact⟨f3,x6,e3,e4⟩
    have hqK:∀w',Kept (fun i=>i=g) W6 w'→Sq w':=fun w' hk=>by
     rw[hSq]
     exact⟨(hk.cell (p:=⟨w.heap.size,3,none⟩) fz6 (by show ¬ w.heap.size=g;omega)).trans f3,(hk.cell (p:=⟨w5.heap.size,0,none⟩) xz6 (by show ¬ w5.heap.size=g;have:=HS5.out.lt;omega)).trans x6,(hk.cell (p:=⟨bb,bo+b*6+3,none⟩) bz6 (by show ¬ bb=g;omega)).trans e3,(hk.cell (p:=⟨bb,bo+b*6+4,none⟩) bz6 (by show ¬ bb=g;omega)).trans e4⟩
    clear hSq f3 x6 e0 e1 e2 e3 e4 e5
    refine qm (S:=Sq) (by kernel_rfl) 9 ?_
    refine jZ 0 46 (.slice (some ⟨g,0,none⟩) R cg) rfl rfl (Nat.le_refl _) (by kernel_rfl) (by kernel_rfl) (by kernel_rfl) (fun _ _ _ h=>h) (Or.inl ⟨by rfl,fun w' h=>?_⟩) hq0 ?_
    ·obtain⟨a1,a2,a3,a4,z1,z2,z3⟩:=ha8 w' h
     clear ha8 hq0
     go_simp
    refine jZ 1 47 (.pointer (some ⟨w.heap.size,3,none⟩)) rfl rfl (Nat.le_refl _) (by kernel_rfl) (by kernel_rfl) (by kernel_rfl) (fun _ _ _ h=>h) (Or.inl ⟨by rfl,fun w' h=>?_⟩) hq0 ?_
    ·obtain⟨a1,a2,a3,a4,z1,z2,z3⟩:=ha8 w' h
     clear ha8 hq0
     go_simp
    refine jZ 2 48 (.slice (some ⟨bb,bo,none⟩) f.blocks.length fc) rfl rfl (Nat.le_refl _) (by kernel_rfl) (by kernel_rfl) (by kernel_rfl) (fun _ _ _ h=>h) (Or.inl ⟨by rfl,fun w' h=>?_⟩) hq0 ?_
    ·obtain⟨a1,a2,a3,a4,z1,z2,z3⟩:=ha8 w' h
     clear ha8 hq0
     go_simp
    refine jZ 3 49 (.int .i64 b) rfl rfl (Nat.le_refl _) (by kernel_rfl) (by kernel_rfl) (by kernel_rfl) (fun _ _ _ h=>h) (Or.inl ⟨by rfl,fun w' h=>?_⟩) hq0 ?_
    ·obtain⟨a1,a2,a3,a4,z1,z2,z3⟩:=ha8 w' h
     clear ha8 hq0
     go_simp
    refine jZ 4 50 (.pointer (some ⟨bb,bo+b*6,none⟩)) rfl rfl (Nat.le_refl _) (by kernel_rfl) (by kernel_rfl) (by kernel_rfl) (fun _ _ _ h=>h) (Or.inl ⟨by rfl,fun w' h=>?_⟩) hq0 ?_
    ·obtain⟨a1,a2,a3,a4,z1,z2,z3⟩:=ha8 w' h
     clear ha8 hq0
     go_simp
    refine jZ 5 51 (.pointer (some ⟨bb,bo+b*6+2,none⟩)) rfl rfl (Nat.le_refl _) (by kernel_rfl) (by kernel_rfl) (by kernel_rfl) (fun _ _ _ h=>h) (Or.inl ⟨by rfl,fun w' h=>?_⟩) hq0 ?_
    ·obtain⟨a1,a2,a3,a4,z1,z2,z3⟩:=ha8 w' h
     clear ha8 hq0
     go_simp
    refine jZ 6 52 (.pointer (some ⟨bb,bo+b*6+2+1,none⟩)) rfl rfl (Nat.le_refl _) (by kernel_rfl) (by kernel_rfl) (by kernel_rfl) (fun _ _ _ h=>h) (Or.inl ⟨by rfl,fun w' h=>?_⟩) hq0 ?_
    ·obtain⟨a1,a2,a3,a4,z1,z2,z3⟩:=ha8 w' h
     clear ha8 hq0
     go_simp
    refine jZ 7 53 (.agg #[.bool f.blocks[b].fin.onr,.int .i64 f.blocks[b].fin.onn]) rfl rfl (Nat.le_refl _) (by kernel_rfl) (by kernel_rfl) (by kernel_rfl) (fun _ _ _ h=>h) (Or.inl ⟨by rfl,fun w' h=>?_⟩) hq0 ?_
    ·obtain⟨a1,a2,a3,a4,z1,z2,z3⟩:=ha8 w' h
     clear ha8 hq0
     go_simp
    refine qk (i:=8) (by kernel_rfl) (qt 54 rfl rfl rfl (by go_simp) (HTk.out W6.drew (HS6.out.of_block rfl)) ?_)
    rintro e w7 ⟨rfl,hs7,hk7⟩
    have heP:Kept (fun i=>i=g) W6 w7:=(Kept.refl _ _).drew.trans hk7 (fun _ _ h=>h)
    refine⟨_,rfl,hqK w7 heP,qB (by kernel_rfl) ?_ _⟩
    show calm _ Exit.normal _ _
    simp only[calm,Exit.then]
    go_simp
    have hiw:Below w4.heap.size w4 w7:=hlF.out.trans (heP.below (by have:=hlF.out.size;omega) fun i e=>by(have e:i=g:=e);omega)
    have hB7:Below W2.heap.size W2 w7:=HB4.out.trans (hiw.mono hz4)
    have hiy:Below w.heap.size w w7:=HB2.out.trans (hB7.mono (by omega))
    have hx7:=(heP.block w5.heap.size (by omega) (by have:=HS5.out.lt;omega)).trans HX6.out
    have HX7:=q7 hx7
    have HB7:=q7 hB7
    have hpC:=q7 hiw
    have hgU:=q7 hiy
    have HS7:=q7 hs7
    have hz7:=hB7.size
    have ht9:=heP.size
    have f3:w7.cell? ⟨w.heap.size,3,none⟩=some (.slice (some ⟨bb,bo,none⟩) f.blocks.length fc):=(blk ((hB7.block w.heap.size (by omega)).trans HF2.out)).1 3
    have fz7:=q8 f3
    obtain⟨b2,o2,q1',c1',q2,c2,q3',c3',hp2,e0,e1w,_,_,_,_,_,_,_,hpD,_,_,hsl,_⟩:=zE HF.out (Below.refl _ _) hlt
    obtain⟨rfl,rfl⟩:bb=b2∧bo=o2:=by cases hp2;exact⟨rfl,rfl⟩
    obtain⟨l,hl⟩:∃l,l=f.blocks[b].list:=⟨_,rfl⟩
    have hins:=HC.out.ins b hlt
    rw[←hl]at e1w hpD hsl hins
    have e1:w7.cell? ⟨bb,bo+b*6+1,none⟩=some (.slice q2 l.length c2):=(hiy.cell (p:=⟨bb,bo+b*6+1,none⟩) (q8 e1w)).trans e1w
    have hch:∀i,∃p:Option Addr×Nat,∀h:i<l.length,(∃lb lo,q2=some ⟨lb,lo,none⟩∧w.cell? ⟨lb,lo+i*8,none⟩=some (.int .i64 l[i].op)∧w.cell? ⟨lb,lo+i*8+1,none⟩=some (.int .i64 l[i].dst)∧w.cell? ⟨lb,lo+i*8+2,none⟩=some (.bool l[i].ar)∧w.cell? ⟨lb,lo+i*8+3,none⟩=some (.int .i64 l[i].an)∧w.cell? ⟨lb,lo+i*8+4,none⟩=some (.bool l[i].br)∧w.cell? ⟨lb,lo+i*8+5,none⟩=some (.int .i64 l[i].bn)∧w.cell? ⟨lb,lo+i*8+6,none⟩=some (.int .i64 l[i].fn)∧w.cell? ⟨lb,lo+i*8+7,none⟩=some (.slice p.1 l[i].args.length p.2))∧l[i].args.length*16≤140737488351232∧SliceAt w 2 vO p.1 l[i].args:=fun i=>by
     by_cases hi:i<l.length
     ·obtain⟨lb,lo,qs,cs,hlp,i0,i1,i2,i3,i4,i5,i6,i7,_,_,_,_,_,hls,hss⟩:=Q1 hsl (Below.refl _ _) hi
      exact⟨(qs,cs),fun _=>⟨⟨lb,lo,hlp,i0,i1,i2,i3,i4,i5,i6,i7⟩,hls,hss⟩⟩
     exact⟨(none,0),fun h=>absurd h hi⟩
    obtain⟨qc,hqc⟩:=Classical.axiomOfChoice hch
    have bz7:bb<w7.heap.size:=q8 e1
    have HQc:=q7 hqc
    have HLl:=q7 hl
    have hiA:=q7 hins
    clear hiw hB7 hiy hx7 hs7 heP hk7 ha8 hq0 hqK e0 e1w hch hqc hl hsl hins hp2
    go_wp2_with (go_at_call 118;refine(ZU _ _ _ _).mono ?_;rintro e w8 ⟨rfl,rfl⟩)
    obtain⟨W8,hW8⟩:∃W8,W8=w7.alloc (.cells #[.slice q2 l.length c2] 41):=⟨_,rfl⟩
    rw[←hW8]
    have hb8:Below w7.heap.size w7 W8:=by rw[hW8];exact bZ
    have hz8:W8.heap.size=w7.heap.size+1:=by rw[hW8];simp
    have hX8:W8.heap[w7.heap.size]?=some (.cells #[.slice q2 l.length c2] 41 (0,0)):=by rw[hW8];exact qh rfl
    have hcD:Below w.heap.size w W8:=hgU.out.trans (hb8.mono (by omega))
    have hBk:BackI w7.heap.size q2 c2 l (fun i=>(qc i).1) (fun i=>(qc i).2) W8:=⟨(blk hX8).1 0,fun i hi=>by
     obtain⟨⟨lb,lo,hq,j0,j1,j2,j3,j4,j5,j6,j7⟩,_⟩:=HQc.out i hi
     have hz:=q8 j0
     exact⟨lb,lo,hq,(hcD.cell (p:=⟨lb,_,none⟩) hz).trans j0,(hcD.cell (p:=⟨lb,_,none⟩) hz).trans j1,(hcD.cell (p:=⟨lb,_,none⟩) hz).trans j2,(hcD.cell (p:=⟨lb,_,none⟩) hz).trans j3,(hcD.cell (p:=⟨lb,_,none⟩) hz).trans j4,(hcD.cell (p:=⟨lb,_,none⟩) hz).trans j5,(hcD.cell (p:=⟨lb,_,none⟩) hz).trans j6,(hcD.cell (p:=⟨lb,_,none⟩) hz).trans j7⟩⟩
    have hqz:∀lb lo,q2=some ⟨lb,lo,none⟩→0<l.length→lb<w.heap.size:=fun lb lo e h0=>by
     obtain⟨⟨lb',lo',hq,j0,_⟩,_⟩:=HQc.out 0 h0
     rw[e]at hq
     cases hq
     exact q8 j0
    have hs8:=HS7.out.below hb8
    have HBk:=q7 hBk
    have HQz:=q7 hqz
    have HS8:=q7 hs8
    have HB8:=q7 hb8
    have he4:=q7 hcD
    have hgl:g<W8.heap.size:=hs8.lt
    have hx8:=(hb8.block w5.heap.size (by have:=q9 HX7.out;omega)).trans HX7.out
    have HX8:=q7 hx8
    clear hW8 hb8 hX8 hcD hBk hqz hs8 hx8 f3 e1
    obtain⟨s0,hs0⟩:∃s0,s0=vY (QN R st.1 f.blocks[b].fin.to) (f.blocks[b].fin.onr,f.blocks[b].fin.onn):=⟨_,rfl⟩
    have hsl0:s0.length=R:=by rw[hs0,ky,xn]
    have hpE:=q7 hs0
    have hpF:=q7 hsl0
    rw[←hs0]at HS8
    clear hs0 hsl0
    have HOw:Hid (OwnFrom W8.heap.size (fun(i:Nat) W=>Kept (fun k=>k=g) W8 W∧SetAt W g (K9 s0 l i))):=q7 ((ZI (Nat.le_refl _)).and (JI hgl _))
    refine(wpIn_wide (n:=3)).1 ?_
    refine jH rfl (by omega) (gf:=145) (lb:=#[.pointer (some ⟨w7.heap.size,0,none⟩)]) rfl trivial (enters_of Tryz.func145 (by kernel_rfl) rfl)
     (backI_at Fence.wide 2 trivial rfl (by omega) w7.heap.size c2 q2 l (fun i=>(qc i).1) (fun i=>(qc i).2) W8 (by omega) HBk.out) (fun h k x=>k (h x)) (fun W l o o' _ hl ho _ h=>h.putObj o' hl ho) (Below.refl _ _) (fun i _=>rfl)
     (fun i W=>Kept (fun k=>k=g) W8 W∧SetAt W g (K9 s0 l i)) (fun _ _ _=>False)
     HOw.out (fun _ _ _ _ _ hs _ _=>hs) ⟨Kept.refl _ _,HS8.out⟩
     (fun m W=>(Kept (fun k=>k=g) W8 W∧SetAt W g (K9 s0 l m.1))∧∃V,m.2={ tmps:=((us 0)::(.pointer (some ⟨w.heap.size,0,none⟩))::(.slice (some ⟨I,0,none⟩) f.blocks.length ic)::(.slice (some ⟨O,0,none⟩) (b+1) co)::(.slice (some ⟨w.heap.size+1+1,0,none⟩) f.blocks.length f.blocks.length)::(.bool st.2)::(.int .i64 b)::(.pointer (some ⟨w5.heap.size,0,none⟩))::(us 8)::(.pointer (some ⟨V,0,none⟩))::(us 10)::(us 11)::(us 12)::(us 13)::(us 14)::(us 15)::(us 16)::(us 17)::(us 18)::(us 19)::(us 20)::(us 21)::(us 22)::(us 23)::(us 24)::(us 25)::(us 26)::(us 27)::(us 28)::(.int .i64 f.blocks.length)::(.int .i64 b)::(.bool true)::(.int .i64 b)::vo::(.agg #[.string f.name,.int .i64 f.params,.int .i64 R,.slice (some ⟨bb,bo,none⟩) f.blocks.length fc])::(.slice (some ⟨w.heap.size+1+1,0,none⟩) f.blocks.length f.blocks.length)::(.slice (some ⟨I,0,none⟩) f.blocks.length ic)::(.int .i64 b)::(.slice (some ⟨wr.heap.size+1,0,none⟩) R R)::(.slice (some ⟨w3.heap.size,0,none⟩) 1 1)::(.slice (some ⟨O,0,none⟩) (b+1) co)::(.slice (some ⟨O,0,none⟩) (b+1) co)::(.int .i64 b)::(.pointer (some ⟨O,b,none⟩))::(.slice (some ⟨wr.heap.size+1,0,none⟩) R R)::(.slice (some ⟨g,0,none⟩) R cg)::(.slice (some ⟨g,0,none⟩) R cg)::(.pointer (some ⟨w.heap.size,3,none⟩))::(.slice (some ⟨bb,bo,none⟩) f.blocks.length fc)::(.int .i64 b)::(.pointer (some ⟨bb,bo+b*6,none⟩))::(.pointer (some ⟨bb,bo+b*6+2,none⟩))::(.pointer (some ⟨bb,bo+b*6+2+1,none⟩))::(.agg #[.bool f.blocks[b].fin.onr,.int .i64 f.blocks[b].fin.onn])::(.tuple #[])::(.pointer (some ⟨w.heap.size,3,none⟩))::(.slice (some ⟨bb,bo,none⟩) f.blocks.length fc)::(.int .i64 b)::(.pointer (some ⟨bb,bo+b*6,none⟩))::(.pointer (some ⟨bb,bo+b*6+1,none⟩))::(.slice q2 l.length c2)::(.func (.func 145) #[] #[.pointer (some ⟨w7.heap.size,0,none⟩)])::(.int .i64 ((l.length - 1 - m.1:Nat):Int))::(.agg (k9 (l.getD (l.length - 1 - m.1) noneI) (qc (l.length - 1 - m.1)).1 (qc (l.length - 1 - m.1)).2))::(us 64)::(us 65)::(us 66)::(us 67)::(us 68)::(us 69)::(us 70)::(us 71)::(us 72)::(us 73)::(us 74)::(us 75)::(us 76)::(us 77)::(us 78)::(us 79)::(us 80)::(us 81)::(us 82)::(us 83)::(us 84)::(us 85)::(us 86)::(us 87)::(us 88)::(us 89)::(us 90)::(us 91)::(us 92)::(us 93)::(us 94)::(us 95)::(us 96)::[]).toArray,defers:=[] }∧W8.heap.size≤V∧W.heap[V]?=some (.cells (k9 (l.getD (l.length - 1 - m.1) noneI) (qc (l.length - 1 - m.1)).1 (qc (l.length - 1 - m.1)).2) 53 (0,0))) ?ownM ?assign ?body ?done ?stop
    case ownM=>
     rintro m W W' row ⟨h,V,e,hV,hv⟩ hg hr
     refine⟨HOw.out m.1 W W' row h hg hr,V,e,hV,(hg.block V (q9 hv) fun e2=>?_).trans hv⟩
     obtain⟨_,o,ho,hc⟩:=hr V e2.symm
     rw[hv]at ho
     cases ho
     cases hc
    case assign=>
     rintro l' i W K hl hi ⟨hk,hs⟩ hK
     unfold ZT
     simp only[k9]at hK ⊢
     gi_wp2
     exact hK _ _ ⟨⟨hk.alloc _,hs.below ((Below.refl _ _).alloc (Nat.le_refl _) _)⟩,W.heap.size,rfl,hk.size,qr W _⟩ (keepsB ((Below.refl _ _).alloc (Nat.le_refl _) _)) (fun h=>h.kept (S:=fun _=>False) (Kept.of_below ((Below.refl _ _).alloc (Nat.le_refl _) _)) (fun h=>h) fun _ _ _ h=>h)
    case body=>
     rintro l' i a₁ W hl hi ⟨⟨hk,hs⟩,V,ea,hVb,hV⟩
     simp only at ea hV hs
     subst ea
     have hki:l.length - 1 - i<l.length:=by omega
     have hgd:l.getD (l.length - 1 - i) noneI=l[l.length - 1 - i]:=by rw[List.getD_eq_getElem?_getD,List.getElem?_eq_getElem hki];rfl
     have hins:=insC_iff.1 (hiA.out _ (List.getElem_mem hki))
     have hnx:=revS_succ s0 l hi
     obtain⟨_,hal,has⟩:=HQc.out _ hki
     rw[hgd]at hV ⊢
     generalize l[l.length - 1 - i]=x at *
     generalize qc (l.length - 1 - i)=qx at *
     have hWw:Below w.heap.size w W:=he4.out.trans (hk.below he4.out.size fun j e=>by(have e:j=g:=e);omega)
     have hrl:(K9 s0 l i).length=R:=by rw[revS_len,hpF.out]
     have hdst:0≤x.dst→x.dst<R:=fun h0=>by
      have hbh:=HR.out
      by_cases e:shD x.op=true∧¬(x.op=20∧x.dst = -1)
      ·have:=hins.d1 e.1 e.2;omega
      by_cases e2:shD x.op=true
      ·have:x.op=20∧x.dst = -1:=Classical.byContradiction fun g=>e ⟨e2,g⟩
       omega
      have:=hins.d0 (by simpa using e2);omega
     have hah:=J3 g cg (K9 s0 l i) x qx.1 qx.2 W hs hins.op hal (has.mono hWw (by omega) fun _ _ h=>h) (fun b2 o2 e h0=>by
      obtain⟨b3,o3,e3,j0,_⟩:=Xk has (Below.refl _ _) h0
      rw[e]at e3
      cases e3
      have:=q8 j0
      omega) (by rw[hrl];exact hdst) (fun v hv e=>by rw[hrl];have:=Vu hins v hv e;have:=HR.out;omega)
     rw[hrl]at hah
     have hbx:W.cell? ⟨w5.heap.size,0,none⟩=some (.slice (some ⟨g,0,none⟩) R cg):=(hk.cell (p:=⟨w5.heap.size,0,none⟩) (q9 HX8.out) (by show ¬ w5.heap.size=g;have:=HS5.out.lt;omega)).trans ((blk HX8.out).1 0)
     unfold k9 at hV ⊢
     have hbV:=(blk hV).1
     have y0:=hbV 0
     have y1:=hbV 1
     have y2:=hbV 2
     have y3:=hbV 3
     have y4:=hbV 4
     have y5:=hbV 5
     have y6:=hbV 6
     have y7:=hbV 7
     simp only[List.getElem?_toArray,List.getElem?_cons_zero,List.getElem?_cons_succ]at y0 y1 y2 y3 y4 y5 y6 y7
     have yz:=q9 hV
     have xz:=q8 hbx
     have hpG:=q7 hah
     have HNx:=q7 hnx
     have HK:=q7 hk
     have HSs:=q7 hs
     clear hah hnx hk hs hgd hins hal has hWw hrl hdst hV hbV
     gi_wp2_with fail
     refine⟨trivial,?_⟩
     refine(CallsIn.inRound l' (callsIn_wide.2 hpG.out)).mono ?_
     rintro e w9 ⟨rfl,hs9,hk9⟩
     gi_wp2
     exact⟨QS hk9 HSs.out,fun h=>h.kept hk9 (by show ¬ w7.heap.size=g;have:=HS7.out.lt;omega) (fun lb lo e=>by show ¬ lb=g;have:=HQz.out lb lo e (by omega);omega),HK.out.trans hk9 (fun _ _ h=>h),by rw[HNx.out];exact hs9⟩
    case done=>
     rintro D W9 hD ⟨hk9,hs9⟩ hDl
     have hfin:K9 s0 l l.length=J0 f st.1 b:=by
      have e1:atF f b=f.blocks[b]:=qG hlt
      have e2:f.regs.toNat=R:=by have:=HR.out;omega
      rw[hpE.out,HLl.out,revS_all]
      unfold J0
      rw[e1,e2]
     rw[hfin]at hs9
     obtain⟨s9,hgV⟩:∃s9,s9=J0 f st.1 b:=⟨_,rfl⟩
     rw[←hgV]at hs9
     have hgZ:s9.length=R:=by rw[hgV,X1];have:=HR.out;omega
     have hh5:Below w4.heap.size w4 W9:=(hpC.out.trans (HB8.out.mono (by omega))).trans (hk9.below (by omega) fun j e=>by(have e:j=g:=e);omega)
     have hB9:Below W2.heap.size W2 W9:=HB4.out.trans (hh5.mono hz4)
     have hdH:=HS1.out.kept kE HKw.out (fun k a b=>HAp.out k b a)
     have hiB:=hdH.below kE hh5
     obtain⟨I',ic',gs',hvI,hh6,_⟩:=hiB.insAt (L:=W2.heap.size) (by rw[HIl.out];exact hn1) hgP.out (fun k h=>HL.out k (.inl h))
     rw[HIl.out]at hvI
     simp only[Value.slice.injEq,Option.some.injEq,Addr.mk.injEq,and_true,true_and]at hvI
     obtain⟨rfl,rfl⟩:=hvI
     have hh7:b<st.1.length:=by rw[HIl.out];exact hlt
     obtain⟨ci,hci⟩:=hh6.cell b hh7
     obtain⟨hsb,hiC⟩:=hh6.set b hh7
     have heq:=eqSet_any g (gs' b) cg ci s9 (st.1.getD b []) W9.drew (hs9.of_block rfl) (hsb.of_block rfl) (by rw[hiC,hgZ]) (by omega)
     rw[hgZ]at heq
     have HFo:=q7 (fun D (hD:D∈Es)=>q9 (HD.out D hD).2.1)
     have hlG:f.blocks[b].phis.length=0:=by rw[HPh.out _ (List.getElem_mem hlt)];rfl
     obtain⟨b2,o2,q1,c1,_,_,_,_,hp2,e0,_⟩:=zE HF.out (HB2.out.trans (hB9.mono (by omega))) hlt
     obtain⟨rfl,rfl⟩:bb=b2∧bo=o2:=by cases hp2;exact⟨rfl,rfl⟩
     rw[hlG]at e0
     have f3:W9.cell? ⟨w.heap.size,3,none⟩=some (.slice (some ⟨bb,bo,none⟩) f.blocks.length fc):=(blk ((hB9.block w.heap.size (by omega)).trans HF2.out)).1 3
     have fz9:=q8 f3
     have bz9:=q8 e0
     have hx9:W9.cell? ⟨w5.heap.size,0,none⟩=some (.slice (some ⟨g,0,none⟩) R cg):=(hk9.cell (p:=⟨w5.heap.size,0,none⟩) (q9 HX8.out) (by show ¬ w5.heap.size=g;have:=HS5.out.lt;omega)).trans ((blk HX8.out).1 0)
     have HX9:=q7 hx9
     have HCi:=q7 hci
     have HEq:=q7 heq
     have HS9:=q7 hs9
     have hiD:=q7 hgV
     have hpH:=q7 hgZ
     have HB9:=q7 hB9
     have hh8:=q7 hh5
     have hpI:=q7 hiB
     have HK9:=q7 hk9
     have HDl:=q7 hDl
     have hpJ:=q7 hh6
     have htg:=q7 hiC
     have hz9:=hB9.size
     have htq:=hs9.lt
     have hpK:=q7 hdH
     clear hk9 hs9 hDl hfin hgV hgZ hh5 hB9 hdH hiB hh6 hci hsb hiC heq hlG hp2 hx9
     go_wp2_with fail
     obtain⟨WA,hWA⟩:∃WA,WA=W9:=⟨_,rfl⟩
     subst hWA
     clear e0 f3
     obtain⟨wo,hwo⟩:∃wo,wo=wr:=⟨_,rfl⟩
     subst hwo
     go_loopg [74] 0 (fun m s wr=>m=0∧s = .int .i64 0∧wr=WA)
     case atStart=>exact⟨rfl,rfl,rfl⟩
     case round=>
     obtain⟨rfl,rfl,rfl⟩:=hrel
     go_wp2_with fail
     obtain⟨Sq,hSq⟩:∃Sq:World→Prop,Sq=fun w'=>w'.cell? ⟨w5.heap.size,0,none⟩=some (.slice (some ⟨g,0,none⟩) R cg)∧w'.cell? ⟨I,b,none⟩=some (.slice (some ⟨gs' b,0,none⟩) R ci):=⟨_,rfl⟩
     have ha8:∀w',Sq w'→w'.cell? ⟨w5.heap.size,0,none⟩=some (.slice (some ⟨g,0,none⟩) R cg)∧w'.cell? ⟨I,b,none⟩=some (.slice (some ⟨gs' b,0,none⟩) R ci)∧w5.heap.size<w'.heap.size∧I<w'.heap.size:=fun w' h=>by
      rw[hSq]at h
      exact⟨h.1,h.2,q8 h.1,q8 h.2⟩
     have hq0:Sq wr.drew:=by rw[hSq];exact⟨HX9.out,HCi.out⟩
     have hqd:∀n,Sq (wr.drew.drewN n):=fun n=>by rw[hSq];exact⟨HX9.out,HCi.out⟩
     obtain⟨eqb,hiE⟩:∃eqb,eqb=decide (s9=st.1.getD b []):=⟨_,rfl⟩
     have hiF:=HEq.out
     rw[←hiE]at hiF
     have HEq:=q7 hiF
     have HEb:=q7 hiE
     have bn1:(b:Int)<f.blocks.length:=by omega
     clear hSq hiE hiF
     refine qm (S:=Sq) (by kernel_rfl) 7 ?_
     refine jZ 0 83 (.slice (some ⟨g,0,none⟩) R cg) rfl rfl (Nat.le_refl _) (by kernel_rfl) (by kernel_rfl) (by kernel_rfl) (fun _ _ _ h=>h) (Or.inl ⟨by rfl,fun w' h=>?_⟩) hq0 ?_
     ·obtain⟨a1,a2,z1,z2⟩:=ha8 w' h
      clear ha8 hq0
      go_simp
     refine jZ 1 84 (.slice (some ⟨I,0,none⟩) f.blocks.length ic) rfl rfl (Nat.le_refl _) (by kernel_rfl) (by kernel_rfl) (by kernel_rfl) (fun _ _ _ h=>h) (Or.inl ⟨by rfl,fun w' h=>?_⟩) hq0 ?_
     ·obtain⟨a1,a2,z1,z2⟩:=ha8 w' h
      clear ha8 hq0
      go_simp
     refine jZ 2 85 (.int .i64 b) rfl rfl (Nat.le_refl _) (by kernel_rfl) (by kernel_rfl) (by kernel_rfl) (fun _ _ _ h=>h) (Or.inl ⟨by rfl,fun w' h=>?_⟩) hq0 ?_
     ·obtain⟨a1,a2,z1,z2⟩:=ha8 w' h
      clear ha8 hq0
      go_simp
     refine jZ 3 86 (.pointer (some ⟨I,b,none⟩)) rfl rfl (Nat.le_refl _) (by kernel_rfl) (by kernel_rfl) (by kernel_rfl) (fun _ _ _ h=>h) (Or.inl ⟨by rfl,fun w' h=>?_⟩) hq0 ?_
     ·obtain⟨a1,a2,z1,z2⟩:=ha8 w' h
      clear ha8 hq0
      go_simp
     refine jZ 4 87 (.slice (some ⟨gs' b,0,none⟩) R ci) rfl rfl (Nat.le_refl _) (by kernel_rfl) (by kernel_rfl) (by kernel_rfl) (fun _ _ _ h=>h) (Or.inl ⟨by rfl,fun w' h=>?_⟩) hq0 ?_
     ·obtain⟨a1,a2,z1,z2⟩:=ha8 w' h
      clear ha8 hq0
      go_simp
     refine qk (i:=5) (by kernel_rfl) (qt 88 rfl rfl rfl (by go_simp) HEq.out ?_)
     rintro e WC ⟨rfl,n,hwC⟩
     have hqC:Sq WC:=by rw[hwC];exact hqd n
     have hbC:Below wr.heap.size wr WC:=by rw[hwC];exact below_drewN (Below.refl _ _).drew n
     have hzC:WC.heap.size=wr.heap.size:=by rw[hwC];rfl
     have HbC:=q7 hbC
     have HzC:=q7 hzC
     clear hwC hbC hzC hqd
     refine⟨_,rfl,hqC,?_⟩
     refine jZ 6 89 (.bool (!eqb)) rfl rfl (Nat.le_refl _) (by kernel_rfl) (by kernel_rfl) (by kernel_rfl) (fun _ _ _ h=>h) (Or.inl ⟨by rfl,fun w' h=>?_⟩) hqC ?_
     ·clear ha8 hq0 hqC
      go_simp
     refine qB (by kernel_rfl) ?_ _
     show calm _ Exit.normal _ _
     simp only[calm,Exit.then]
     go_simp
     clear ha8 hq0 hqC
     have hbC:=HbC.out
     have hzC:=HzC.out
     have hiG:=QQ f (zQ f m) b
     rw[←HTu.out]at hiG
     have hlH:=q7 hiG
     have hBC:Below W2.heap.size W2 WC:=HB9.out.trans (hbC.mono hz9)
     have he5:Below w4.heap.size w4 WC:=hh8.out.trans (hbC.mono hh8.out.size)
     have HBC:=q7 hBC
     have hlJ:=hiq.out.below Zp he5
     have hlK:=q7 hlJ
     have hlL:=hpI.out.below kE hbC
     have hpL:=q7 hlL
     have hIC:=hpJ.out.below hbC
     have HIC:=q7 hIC
     have heQ:(vals++[Value.slice (some ⟨wo.heap.size+1,0,none⟩) R R]).length=b+1:=by rw[List.length_append,HVl.out];rfl
     have heR:=q7 heQ
     have hDs:(D::Es).Nodup:=List.nodup_cons.2 ⟨fun h=>by have:=HFo.out D h;omega,HN.out⟩
     have HDs:=q7 hDs
     have hDo:∀E∈D::Es,W2.heap.size≤E∧WC.heap[E]?=some (.deferred (some []))∧¬ S1 E∧¬ S2' E:=fun E hE=>by
      rcases List.mem_cons.1 hE with rfl|hE
      ·exact⟨by omega,(hbC.block _ (q9 HDl.out)).trans HDl.out,fun h=>by have:=HS1.out.inb _ h;omega,fun h=>by have:=hiq.out.inb _ h;omega⟩
      obtain⟨d1,d2,d3,d4⟩:=HD.out E hE
      have hlt2:=q9 d2
      have e4:w4.heap[E]?=wo.heap[E]?:=HKw.out.block E hlt2 d4
      exact⟨d1,(he5.block E (by omega)).trans (e4.trans d2),d3,fun h=>(HSub.out E h).elim d4 fun h2=>by omega⟩
     have HDo:=q7 hDo
     have heS:∀i,S2' i→W2.heap.size≤i:=fun i h=>(HSub.out i h).elim (fun h=>HL.out i (.inr h)) fun h=>by omega
     have heT:=q7 heS
     have hlM:Apart S1 S2':=fun k h1 h2=>(HSub.out k h2).elim (HAp.out k h1) fun h=>by have:=HS1.out.inb k h1;omega
     have hiH:=q7 hlM
     have cx:WC.cell? ⟨w5.heap.size,0,none⟩=some (.slice (some ⟨g,0,none⟩) R cg):=(hbC.cell (p:=⟨w5.heap.size,0,none⟩) (q8 HX9.out)).trans HX9.out
     have ci9:WC.cell? ⟨I,b,none⟩=some (.slice (some ⟨gs' b,0,none⟩) R ci):=(hbC.cell (p:=⟨I,b,none⟩) (q8 HCi.out)).trans HCi.out
     have cxz:=q8 cx
     have ciz:=q8 ci9
     have cif:∀o,WC.frozen? ⟨I,o,none⟩=false:=fun o=>by
      obtain⟨_,hI⟩:=HIC.out.blk
      exact(blk hI).2 o
     clear hiG hbC hzC hBC he5 hlJ hlL hIC heQ hDs hDo heS hlM
     cases eqb
     ·go_wp2_with fail
      clear cx ci9 cif
      have hne:¬ s9=st.1.getD b []:=of_decide_eq_false HEb.out.symm
      have heU:turnTo f (zQ f m) (b+1)=(st.1.set b s9,true):=by
       rw[hlH.out]
       unfold kX
       rw[if_neg (fun h=>hne (hiD.out.trans h)),←hiD.out]
      have hh7:b<st.1.length:=by rw[HIl.out];exact hlt
      obtain⟨I2,c2',csI,TI,hvI,hIz,htu,hlI,_,_,_,hcI,_,⟨curI,hiI⟩,hput⟩:=hpK.out.focus kE (by omega) hh7
      obtain rfl:I=I2:=by
       simp only[Value.slice.injEq,Option.some.injEq,Addr.mk.injEq,and_true]at hvI
       exact hvI.1
      have he5:Below w4.heap.size w4 WC:=hh8.out.trans (HbC.out.mono hh8.out.size)
      obtain⟨WF,hWF⟩:∃WF,WF=WC.setCell ⟨I,b,none⟩ (.slice (some ⟨g,0,none⟩) R cg):=⟨_,rfl⟩
      rw[←hWF]
      have hkF:Kept (fun k=>k=I) WC WF:=by rw[hWF];exact(Kept.refl (fun k=>k=I) WC).setCell (p:=⟨I,b,none⟩) rfl _
      have hrp:RowPut w4 WF 169 I (b*1) 1 (csI.set 0 (.slice (some ⟨g,0,none⟩) R cg)):=by
       rw[hWF]
       have h1:RowPut w4 WC 169 I (b*1) 1 csI:=RowPut.same hiI (he5.block I hIz) hcI
       have h2:=h1.set (j:=0) hlI (by omega) (.slice (some ⟨g,0,none⟩) R cg)
       rw[Nat.mul_one,Nat.add_zero]at h2
       rw[Nat.mul_one]
       exact h2
      have hzF:=hkF.size
      have hgC:SetAt WF g s9:=(HS9.out.below HbC.out).of_block (hkF.block g (by have:=HS9.out.lt;have:=HbC.out.size;omega) (by show ¬ g=I;omega))
      have hpM:=hput WF _ s9 (fun k=>k=g) hrp (by rw[List.length_set];exact hlI) (fun u hu=>by
       have hl1:csI.length=1:=hlI
       match csI,hl1 with
       | [x],_=>rw[List.mem_singleton.1 hu];rfl) (by omega) (fun k hk hT hne=>(hkF.block k (by have:=HS1.out.inb k hk;omega) hne).trans (he5.block k (by have:=HS1.out.inb k hk;omega))) ⟨g,cg,by
       have hl1:csI.length=1:=hlI
       match csI,hl1 with
       | [x],_=>rw[hpH.out];rfl,hgC,rfl⟩ (fun k hk=>by(have hk:k=g:=hk);exact⟨.inr (by omega),by have:=hgC.lt;omega⟩)
      have hI4:∀k,S2' k→k<w4.heap.size:=hiq.out.inb
      refine⟨f.blocks.length - (b+1),by have:=HQ3.out;omega,b+1,_,_,(fun k=>S1 k∨k=g),S2',_,D::Es,⟨rfl,hlt,by rw[heU];exact hpM,hlK.out.kept Zp hkF (fun k h1 h2=>by(have h1:k=I:=h1);exact hiH.out I HSI.out (h1 ▸ h2)),heR.out,fun k h1 h2=>Or.elim h1 (fun h1=>hiH.out k h1 h2) fun h1=>by(have h1:k=g:=h1);have:=hI4 k h2;omega,fun i h=>Or.elim h (fun h=>Or.elim h (fun h=>HL.out i (.inl h)) fun h=>by(have h:i=g:=h);omega) (heT.out i),HDs.out,fun E hE=>?_,HBC.out.trans (hkF.below (by have:=HBC.out.size;omega) fun i e=>by(have e:i=I:=e);rw[e];exact HL.out I (.inl HSI.out))⟩,rfl,rfl,rfl,rfl,rfl,rfl,(by rw[heU];rfl),rfl,rfl⟩
      obtain⟨d1,d2,d3,d4⟩:=HDo.out E hE
      refine⟨d1,(hkF.block E (q9 d2) (fun e=>by(have e:E=I:=e);exact d3 (e ▸ HSI.out))).trans d2,fun h=>h.elim d3 fun h=>?_,d4⟩
      have h:E=g:=h
      have hg9:=(HS9.out.below HbC.out).blk
      obtain⟨_,hg9⟩:=hg9
      rw[h,hg9]at d2
      cases d2
     have he9:s9=st.1.getD b []:=of_decide_eq_true HEb.out.symm
     have heU:turnTo f (zQ f m) (b+1)=st:=by
      rw[hlH.out]
      unfold kX
      rw[if_pos (hiD.out.symm.trans he9)]
     have hlP:=q7 heU
     clear he9 heU cx ci9 cif
     go_wp2_with fail
     refine⟨f.blocks.length - (b+1),by have:=HQ3.out;omega,b+1,_,_,S1,S2',_,D::Es,⟨rfl,hlt,?_,hlK.out,heR.out,hiH.out,fun i h=>h.elim (fun h=>HL.out i (.inl h)) (heT.out i),HDs.out,HDo.out,HBC.out⟩,rfl,rfl,rfl,rfl,rfl,rfl,(by rw[hlP.out];rfl),rfl,rfl⟩
     rw[hlP.out]
     exact hpL.out
    case stop=>exact fun _ _ _ _ _ _ h _=>h.elim
end Go.Proofs.YtecdphhdmjmmnaaGreatDoor
