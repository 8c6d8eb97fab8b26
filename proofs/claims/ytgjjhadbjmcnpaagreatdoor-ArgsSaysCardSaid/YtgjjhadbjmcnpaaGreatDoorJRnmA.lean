/-
  A block, an instruction written anew in memory of the call's own; the contract of turneryr
-/
import Derived.Test.YtgjjhadbjmcnpaaGreatDoorJArgJ
import Derived.Test.YtgjjhadbjmcnpaaGreatDoorJArgU
set_option maxRecDepth 100000
set_option maxHeartbeats 16000000
namespace Go.Proofs.YtgjjhadbjmcnpaaGreatDoor
open Go.RowKit
attribute [local go_sem] Oper.semAt_some

theorem Va {xs:List FunL} {m:Nat} (h:kb xs=some m):m<xs.length:=by
 unfold kb at h;exact yR.1 (List.mem_of_find?_eq_some h)

def AdoR (u:UniL) (w:World) (e:Ending) (w':World):Prop:=∃xs ys,Dr (qI u).funcs xs/\Taken xs/\Al xs xs.length 0 ys []/\
  ((xD ys≠(0,0)/\e = .returned (.tuple #[.agg #[.slice none 0 0,.slice none 0 0],.agg #[Z (xD ys).1,Z (xD ys).2]]))\/
   (xD ys=(0,0)/\(chk { globals:=(qI u).globals,funcs:=ys }).1≠0/\e = .returned (.tuple #[.agg #[.slice none 0 0,.slice none 0 0],.agg #[Z (chk { globals:=(qI u).globals,funcs:=ys }).1,Z (chk { globals:=(qI u).globals,funcs:=ys }).2]]))\/
   (xD ys=(0,0)/\(chk { globals:=(qI u).globals,funcs:=ys }).1=0/\∃p1 c1 p2 c2,e = .returned (.tuple #[.agg #[.slice p1 u.globals.length c1,.slice p2 ys.length c2],.agg #[Z 0,Z 0]])/\
      ∃S,UniO w' [.slice p1 u.globals.length c1,.slice p2 ys.length c2] (qI { globals:=(qI u).globals,funcs:=ys }) S/\LoB w.heap.size S))

theorem ado_bad (u:UniL) (gp fp:Option Addr) (gc fc:Nat) (w:World) (hgl:u.globals.length*48<=140737488351232) (hG:SliceAt w 3 (GloR w) gp u.globals) (hfl:u.funcs.length*56<=140737488351232) (hF:SliceAt w 4 (FunR w) fp u.funcs) (hw0:Ways w) (h:(chk u).1≠0) :
  Calls Tryz.prog 8 #[.agg #[.slice gp u.globals.length gc,.slice fp u.funcs.length fc]] w fun e w'=>e = .returned (.tuple #[.agg #[.slice none 0 0,.slice none 0 0],.agg #[Z (chk u).1,Z (chk u).2]])/\Below w.heap.size w w':=by
 have HG:=q8 hG;have HF:=q8 hF;have HW:=q8 hw0;have hne:((chk u).1 == 0&&(chk u).2 == 0)=false:=by simp[h]
 have hq:∀w,(binOp .neq 27 (.agg #[Z (chk u).1,Z (chk u).2]) (.agg #[Z 0,Z 0])).run Tryz.prog w = .ok (.bool true) w:=fun w=>by rw[jp,hne];rfl
 clear hG hF hw0 h hne
 go_enter Tryz.func8,Tryz.ntmps8
 go_wp2_with fail
 go_step3
 go_wp2_with fail
 refine(vy u _ _ _ _ _ hgl (jg HG.out bZ) hfl (vQ HF.out bZ) (HW.out.below bZ)).mono ?_;rintro e w1 ⟨rfl,hb1⟩;have HB1:Hid (Below w.heap.size w w1):=yo bZ (hb1.mono bW);have hR:=qg hb1 (k:=w.heap.size+1) bV (qh (qr (w:=w.alloc (.cells #[.slice gp u.globals.length gc,.slice fp u.funcs.length fc] 25)) (o:=.cells #[.slice none 0 0,.slice none 0 0] 25) bV));have hR2:=qg hb1 (k:=w.heap.size+1+1) bV (qr (w:=(w.alloc (.cells #[.slice gp u.globals.length gc,.slice fp u.funcs.length fc] 25)).alloc (.cells #[.slice none 0 0,.slice none 0 0] 25)) (o:=.cells #[Z 0,Z 0] 27) bV);obtain⟨hcc,hcf⟩:=blk hR;obtain⟨hgL,hj7⟩:=blk hR2;have z1:=qd hR;have z2:=qd hR2;clear hb1
 go_wp2_with fail
 go_region
 all_goals go_wp2
 all_goals
  simp only[Exit.noGoto];refine zk (v:=.tuple #[.agg #[.slice none 0 0,.slice none 0 0],.agg #[Z (chk u).1,Z (chk u).2]]) ?_ rfl ⟨rfl,?_⟩
  ·simp[results,Tryz.results8,go_sem, *]
  exact bZ

theorem ado_ok (u:UniL) (gp fp:Option Addr) (gc fc:Nat) (w:World) (hgl:u.globals.length*48<=140737488351232) (hG:SlF w 3 48 (GloR w) (.slice gp u.globals.length gc) u.globals) (hfl:u.funcs.length*56<=140737488351232) (hF:SlF w 4 56 (FunR w) (.slice fp u.funcs.length fc) u.funcs) (hw0:Ways w) (h:(chk u).1=0) :
  Calls Tryz.prog 8 #[.agg #[.slice gp u.globals.length gc,.slice fp u.funcs.length fc]] w fun e w'=>AdoR u w e w'/\Below w.heap.size w w':=by
 have hG':SliceAt w 3 (GloR w) gp u.globals:=by
  obtain⟨p,c,e,_,_,h⟩:=hG.outC;cases e;exact h
 have hF':SliceAt w 4 (FunR w) fp u.funcs:=by
  obtain⟨p,c,e,_,_,h⟩:=hF.outC;cases e;exact h
 have HGs:=q8 hG;have HFs:=q8 hF;have HG:=q8 hG';have HF:=q8 hF';have HW:=q8 hw0;have HH:=q8 h;have HK:=q8 (Xh h).2;have hne:((chk u).1 == 0&&(chk u).2 == 0)=true:=by rw[(Xh h).1];rfl
 have hq:∀w,(binOp .neq 27 (.agg #[Z (chk u).1,Z (chk u).2]) (.agg #[Z 0,Z 0])).run Tryz.prog w = .ok (.bool false) w:=fun w=>by rw[jp,hne];rfl
 have hq0:∀w,(binOp .neq 27 (.agg #[Z 0,Z 0]) (.agg #[Z 0,Z 0])).run Tryz.prog w = .ok (.bool false) w:=fun w=>by rw[jp];rfl
 clear hG hF hG' hF' hw0 h hne
 go_enter Tryz.func8,Tryz.ntmps8
 go_wp2_with fail
 have HC0:Hid (CallN (qI u).funcs):=HK.out.tidy.2.callN;have HS0:Hid (∀f∈(qI u).funcs,Small 300 f):=HK.out.tidy.2.small;refine X4 0 (fun n a' W=>∃(O g c:Nat) (p1:Option Addr) (c1:Nat) (xs:List FunL) (S1 S2:Blks),OutAt w O g c p1 c1 (qI u).globals xs S1 S2 W/\Dr (qI u).funcs xs/\n=Z7 xs/\a'.defers=[]/\a'.tmps.size=130/\a'.tmps.getD 2 undef = .pointer (some (J (w.heap.size+1) 0))/\a'.tmps.getD 3 undef = .pointer (some (J (w.heap.size+1+1) 0))/\a'.tmps.getD 6 undef = .pointer (some (J O 0))) rfl ?pass fun hrest=>?first
 case pass=>
  rintro n ⟨ts,ds⟩ W ⟨O,g,c,p1,c1,xs,S1,S2,hO,hDr,rfl,hdf,hfs,hf2,hf3,hf6⟩;simp only at hdf hf2 hf3 hf6 hfs;subst hdf;obtain⟨us,hus⟩:∃us:Nat->Value,us=fun i=>ts.getD i undef:=⟨_,rfl⟩
  have hts:ts=((us 0)::(us 1)::(.pointer (some (J (w.heap.size+1) 0)))::(.pointer (some (J (w.heap.size+1+1) 0)))::(us 4)::(us 5)::(.pointer (some (J O 0)))::(us 7)::(us 8)::(us 9)::(us 10)::(us 11)::(us 12)::(us 13)::(us 14)::(us 15)::(us 16)::(us 17)::(us 18)::(us 19)::(us 20)::(us 21)::(us 22)::(us 23)::(us 24)::(us 25)::(us 26)::(us 27)::(us 28)::(us 29)::(us 30)::(us 31)::(us 32)::(us 33)::(us 34)::(us 35)::(us 36)::(us 37)::(us 38)::(us 39)::(us 40)::(us 41)::(us 42)::(us 43)::(us 44)::(us 45)::(us 46)::(us 47)::(us 48)::(us 49)::(us 50)::(us 51)::(us 52)::(us 53)::(us 54)::(us 55)::(us 56)::(us 57)::(us 58)::(us 59)::(us 60)::(us 61)::(us 62)::(us 63)::(us 64)::(us 65)::(us 66)::(us 67)::(us 68)::(us 69)::(us 70)::(us 71)::(us 72)::(us 73)::(us 74)::(us 75)::(us 76)::(us 77)::(us 78)::(us 79)::(us 80)::(us 81)::(us 82)::(us 83)::(us 84)::(us 85)::(us 86)::(us 87)::(us 88)::(us 89)::(us 90)::(us 91)::(us 92)::(us 93)::(us 94)::(us 95)::(us 96)::(us 97)::(us 98)::(us 99)::(us 100)::(us 101)::(us 102)::(us 103)::(us 104)::(us 105)::(us 106)::(us 107)::(us 108)::(us 109)::(us 110)::(us 111)::(us 112)::(us 113)::(us 114)::(us 115)::(us 116)::(us 117)::(us 118)::(us 119)::(us 120)::(us 121)::(us 122)::(us 123)::(us 124)::(us 125)::(us 126)::(us 127)::(us 128)::(us 129)::[]).toArray:=by
   have hfr:=js hfs;rw[←hus]at hfr;have h2:us 2 = .pointer (some (J (w.heap.size+1) 0)):=(by rw[hus];exact hf2);have h3:us 3 = .pointer (some (J (w.heap.size+1+1) 0)):=(by rw[hus];exact hf3);have h6:us 6 = .pointer (some (J O 0)):=(by rw[hus];exact hf6);refine hfr.trans ?_;show((us 0)::(us 1)::(us 2)::(us 3)::(us 4)::(us 5)::(us 6)::(us 7)::(us 8)::(us 9)::(us 10)::(us 11)::(us 12)::(us 13)::(us 14)::(us 15)::(us 16)::(us 17)::(us 18)::(us 19)::(us 20)::(us 21)::(us 22)::(us 23)::(us 24)::(us 25)::(us 26)::(us 27)::(us 28)::(us 29)::(us 30)::(us 31)::(us 32)::(us 33)::(us 34)::(us 35)::(us 36)::(us 37)::(us 38)::(us 39)::(us 40)::(us 41)::(us 42)::(us 43)::(us 44)::(us 45)::(us 46)::(us 47)::(us 48)::(us 49)::(us 50)::(us 51)::(us 52)::(us 53)::(us 54)::(us 55)::(us 56)::(us 57)::(us 58)::(us 59)::(us 60)::(us 61)::(us 62)::(us 63)::(us 64)::(us 65)::(us 66)::(us 67)::(us 68)::(us 69)::(us 70)::(us 71)::(us 72)::(us 73)::(us 74)::(us 75)::(us 76)::(us 77)::(us 78)::(us 79)::(us 80)::(us 81)::(us 82)::(us 83)::(us 84)::(us 85)::(us 86)::(us 87)::(us 88)::(us 89)::(us 90)::(us 91)::(us 92)::(us 93)::(us 94)::(us 95)::(us 96)::(us 97)::(us 98)::(us 99)::(us 100)::(us 101)::(us 102)::(us 103)::(us 104)::(us 105)::(us 106)::(us 107)::(us 108)::(us 109)::(us 110)::(us 111)::(us 112)::(us 113)::(us 114)::(us 115)::(us 116)::(us 117)::(us 118)::(us 119)::(us 120)::(us 121)::(us 122)::(us 123)::(us 124)::(us 125)::(us 126)::(us 127)::(us 128)::(us 129)::[]).toArray=_;rw[h2,h3,h6]
  clear hus hfs hf2 hf3 hf6;subst hts;have HO:=q8 hO;have HDr:=q8 hDr;have HCN:=q8 (hDr.callN HC0.out);have HSm:=q8 (hDr.small HS0.out);have eO:=hO.cO.2;have zO:=qd hO.out;have hlen:xs.length<=10:=by rw[hDr.len];have:=HK.out.nf;simp[qI];omega
  clear hO hDr
  go_wp2_with fail
  refine wp_loop (fun a' W'=>∃k:Nat,(k<=xs.length/\XQ xs k 0/\OutAt w O g c p1 c1 (qI u).globals xs S1 S2 W')/\a'.defers=[]/\a'.tmps.size=130/\a'.tmps.getD 2 undef = .pointer (some (J (w.heap.size+1) 0))/\a'.tmps.getD 3 undef = .pointer (some (J (w.heap.size+1+1) 0))/\a'.tmps.getD 6 undef = .pointer (some (J O 0))/\a'.tmps.getD 37 undef=Z xs.length/\a'.tmps.getD 38 undef=Z k) (fun a' _=>xs.length - (intOf (a'.tmps.getD 38 undef)).toNat) ?s1 ?r1
  case s1=>
   exact⟨0,⟨Nat.zero_le _,fun k' _ p' _ h=>by omega,HO.out⟩,rfl,rfl,rfl,rfl,rfl,rfl,rfl⟩
  case r1=>
   rintro⟨ts,ds⟩ W1 ⟨k,⟨hk,hTk,hO1⟩,hdf,hfs,hf2,hf3,hf6,heQ,heR⟩;simp only at hdf hf2 hf3 hf6 heQ heR hfs;subst hdf;obtain⟨us,hus⟩:∃us:Nat->Value,us=fun i=>ts.getD i undef:=⟨_,rfl⟩
   have hts:ts=((us 0)::(us 1)::(.pointer (some (J (w.heap.size+1) 0)))::(.pointer (some (J (w.heap.size+1+1) 0)))::(us 4)::(us 5)::(.pointer (some (J O 0)))::(us 7)::(us 8)::(us 9)::(us 10)::(us 11)::(us 12)::(us 13)::(us 14)::(us 15)::(us 16)::(us 17)::(us 18)::(us 19)::(us 20)::(us 21)::(us 22)::(us 23)::(us 24)::(us 25)::(us 26)::(us 27)::(us 28)::(us 29)::(us 30)::(us 31)::(us 32)::(us 33)::(us 34)::(us 35)::(us 36)::(Z xs.length)::(Z k)::(us 39)::(us 40)::(us 41)::(us 42)::(us 43)::(us 44)::(us 45)::(us 46)::(us 47)::(us 48)::(us 49)::(us 50)::(us 51)::(us 52)::(us 53)::(us 54)::(us 55)::(us 56)::(us 57)::(us 58)::(us 59)::(us 60)::(us 61)::(us 62)::(us 63)::(us 64)::(us 65)::(us 66)::(us 67)::(us 68)::(us 69)::(us 70)::(us 71)::(us 72)::(us 73)::(us 74)::(us 75)::(us 76)::(us 77)::(us 78)::(us 79)::(us 80)::(us 81)::(us 82)::(us 83)::(us 84)::(us 85)::(us 86)::(us 87)::(us 88)::(us 89)::(us 90)::(us 91)::(us 92)::(us 93)::(us 94)::(us 95)::(us 96)::(us 97)::(us 98)::(us 99)::(us 100)::(us 101)::(us 102)::(us 103)::(us 104)::(us 105)::(us 106)::(us 107)::(us 108)::(us 109)::(us 110)::(us 111)::(us 112)::(us 113)::(us 114)::(us 115)::(us 116)::(us 117)::(us 118)::(us 119)::(us 120)::(us 121)::(us 122)::(us 123)::(us 124)::(us 125)::(us 126)::(us 127)::(us 128)::(us 129)::[]).toArray:=by
    have hfr:=js hfs;rw[←hus]at hfr;have h2:us 2 = .pointer (some (J (w.heap.size+1) 0)):=(by rw[hus];exact hf2);have h3:us 3 = .pointer (some (J (w.heap.size+1+1) 0)):=(by rw[hus];exact hf3);have h6:us 6 = .pointer (some (J O 0)):=(by rw[hus];exact hf6);have h37:us 37=Z xs.length:=(by rw[hus];exact heQ);have h38:us 38=Z k:=(by rw[hus];exact heR);refine hfr.trans ?_;show((us 0)::(us 1)::(us 2)::(us 3)::(us 4)::(us 5)::(us 6)::(us 7)::(us 8)::(us 9)::(us 10)::(us 11)::(us 12)::(us 13)::(us 14)::(us 15)::(us 16)::(us 17)::(us 18)::(us 19)::(us 20)::(us 21)::(us 22)::(us 23)::(us 24)::(us 25)::(us 26)::(us 27)::(us 28)::(us 29)::(us 30)::(us 31)::(us 32)::(us 33)::(us 34)::(us 35)::(us 36)::(us 37)::(us 38)::(us 39)::(us 40)::(us 41)::(us 42)::(us 43)::(us 44)::(us 45)::(us 46)::(us 47)::(us 48)::(us 49)::(us 50)::(us 51)::(us 52)::(us 53)::(us 54)::(us 55)::(us 56)::(us 57)::(us 58)::(us 59)::(us 60)::(us 61)::(us 62)::(us 63)::(us 64)::(us 65)::(us 66)::(us 67)::(us 68)::(us 69)::(us 70)::(us 71)::(us 72)::(us 73)::(us 74)::(us 75)::(us 76)::(us 77)::(us 78)::(us 79)::(us 80)::(us 81)::(us 82)::(us 83)::(us 84)::(us 85)::(us 86)::(us 87)::(us 88)::(us 89)::(us 90)::(us 91)::(us 92)::(us 93)::(us 94)::(us 95)::(us 96)::(us 97)::(us 98)::(us 99)::(us 100)::(us 101)::(us 102)::(us 103)::(us 104)::(us 105)::(us 106)::(us 107)::(us 108)::(us 109)::(us 110)::(us 111)::(us 112)::(us 113)::(us 114)::(us 115)::(us 116)::(us 117)::(us 118)::(us 119)::(us 120)::(us 121)::(us 122)::(us 123)::(us 124)::(us 125)::(us 126)::(us 127)::(us 128)::(us 129)::[]).toArray=_;rw[h2,h3,h6,h37,h38]
   clear hus hfs hf2 hf3 hf6 heQ heR;subst hts;have HO1:=q8 hO1;have HTk:=q8 hTk;have eO1:=hO1.cO.2;have zO1:=qd hO1.out;clear hO1 hTk eO zO
   by_cases hlt:k<xs.length
   ·obtain⟨ePar,hjG⟩:=HO1.out.par hlt;have zg:=q9 ePar;have ham:=HCN.out.par _ (zP hlt);have hvX:=q8 hjG;clear hjG
    go_wp2_with fail
    refine wp_loop (fun a' W'=>∃p:Nat,((p:Int)<=xs[k].params/\XQ xs k p/\OutAt w O g c p1 c1 (qI u).globals xs S1 S2 W')/\a'.defers=[]/\a'.tmps.size=130/\a'.tmps.getD 2 undef = .pointer (some (J (w.heap.size+1) 0))/\a'.tmps.getD 3 undef = .pointer (some (J (w.heap.size+1+1) 0))/\a'.tmps.getD 6 undef = .pointer (some (J O 0))/\a'.tmps.getD 7 undef=Z k/\a'.tmps.getD 37 undef=Z xs.length/\a'.tmps.getD 38 undef=Z k/\a'.tmps.getD 46 undef=Z xs[k].params/\a'.tmps.getD 47 undef=Z p) (fun a' _=>xs[k].params.toNat - (intOf (a'.tmps.getD 47 undef)).toNat) ?s2 ?r2
    case s2=>
     exact⟨0,⟨ham.1,HTk.out,HO1.out⟩,rfl,rfl,rfl,rfl,rfl,rfl,rfl,rfl,rfl,rfl⟩
    case r2=>
     rintro⟨ts,ds⟩ W2 ⟨p,⟨hp,hTp,hO2⟩,hdf,hfs,hf2,hf3,hf6,hf7,heQ,heR,hmF,hmG⟩;simp only at hdf hf2 hf3 hf6 hf7 heQ heR hmF hmG hfs;subst hdf;obtain⟨us,hus⟩:∃us:Nat->Value,us=fun i=>ts.getD i undef:=⟨_,rfl⟩
     have hts:ts=((us 0)::(us 1)::(.pointer (some (J (w.heap.size+1) 0)))::(.pointer (some (J (w.heap.size+1+1) 0)))::(us 4)::(us 5)::(.pointer (some (J O 0)))::(Z k)::(us 8)::(us 9)::(us 10)::(us 11)::(us 12)::(us 13)::(us 14)::(us 15)::(us 16)::(us 17)::(us 18)::(us 19)::(us 20)::(us 21)::(us 22)::(us 23)::(us 24)::(us 25)::(us 26)::(us 27)::(us 28)::(us 29)::(us 30)::(us 31)::(us 32)::(us 33)::(us 34)::(us 35)::(us 36)::(Z xs.length)::(Z k)::(us 39)::(us 40)::(us 41)::(us 42)::(us 43)::(us 44)::(us 45)::(Z xs[k].params)::(Z p)::(us 48)::(us 49)::(us 50)::(us 51)::(us 52)::(us 53)::(us 54)::(us 55)::(us 56)::(us 57)::(us 58)::(us 59)::(us 60)::(us 61)::(us 62)::(us 63)::(us 64)::(us 65)::(us 66)::(us 67)::(us 68)::(us 69)::(us 70)::(us 71)::(us 72)::(us 73)::(us 74)::(us 75)::(us 76)::(us 77)::(us 78)::(us 79)::(us 80)::(us 81)::(us 82)::(us 83)::(us 84)::(us 85)::(us 86)::(us 87)::(us 88)::(us 89)::(us 90)::(us 91)::(us 92)::(us 93)::(us 94)::(us 95)::(us 96)::(us 97)::(us 98)::(us 99)::(us 100)::(us 101)::(us 102)::(us 103)::(us 104)::(us 105)::(us 106)::(us 107)::(us 108)::(us 109)::(us 110)::(us 111)::(us 112)::(us 113)::(us 114)::(us 115)::(us 116)::(us 117)::(us 118)::(us 119)::(us 120)::(us 121)::(us 122)::(us 123)::(us 124)::(us 125)::(us 126)::(us 127)::(us 128)::(us 129)::[]).toArray:=by
      have hfr:=js hfs;rw[←hus]at hfr;have h2:us 2 = .pointer (some (J (w.heap.size+1) 0)):=(by rw[hus];exact hf2);have h3:us 3 = .pointer (some (J (w.heap.size+1+1) 0)):=(by rw[hus];exact hf3);have h6:us 6 = .pointer (some (J O 0)):=(by rw[hus];exact hf6);have h7:us 7=Z k:=(by rw[hus];exact hf7);have h37:us 37=Z xs.length:=(by rw[hus];exact heQ);have h38:us 38=Z k:=(by rw[hus];exact heR);have h46:us 46=Z xs[k].params:=(by rw[hus];exact hmF);have h47:us 47=Z p:=(by rw[hus];exact hmG);refine hfr.trans ?_;show((us 0)::(us 1)::(us 2)::(us 3)::(us 4)::(us 5)::(us 6)::(us 7)::(us 8)::(us 9)::(us 10)::(us 11)::(us 12)::(us 13)::(us 14)::(us 15)::(us 16)::(us 17)::(us 18)::(us 19)::(us 20)::(us 21)::(us 22)::(us 23)::(us 24)::(us 25)::(us 26)::(us 27)::(us 28)::(us 29)::(us 30)::(us 31)::(us 32)::(us 33)::(us 34)::(us 35)::(us 36)::(us 37)::(us 38)::(us 39)::(us 40)::(us 41)::(us 42)::(us 43)::(us 44)::(us 45)::(us 46)::(us 47)::(us 48)::(us 49)::(us 50)::(us 51)::(us 52)::(us 53)::(us 54)::(us 55)::(us 56)::(us 57)::(us 58)::(us 59)::(us 60)::(us 61)::(us 62)::(us 63)::(us 64)::(us 65)::(us 66)::(us 67)::(us 68)::(us 69)::(us 70)::(us 71)::(us 72)::(us 73)::(us 74)::(us 75)::(us 76)::(us 77)::(us 78)::(us 79)::(us 80)::(us 81)::(us 82)::(us 83)::(us 84)::(us 85)::(us 86)::(us 87)::(us 88)::(us 89)::(us 90)::(us 91)::(us 92)::(us 93)::(us 94)::(us 95)::(us 96)::(us 97)::(us 98)::(us 99)::(us 100)::(us 101)::(us 102)::(us 103)::(us 104)::(us 105)::(us 106)::(us 107)::(us 108)::(us 109)::(us 110)::(us 111)::(us 112)::(us 113)::(us 114)::(us 115)::(us 116)::(us 117)::(us 118)::(us 119)::(us 120)::(us 121)::(us 122)::(us 123)::(us 124)::(us 125)::(us 126)::(us 127)::(us 128)::(us 129)::[]).toArray=_;rw[h2,h3,h6,h7,h37,h38,h46,h47]
     clear hus hfs hf2 hf3 hf6 hf7 heQ heR hmF hmG;subst hts;have HO2:=q8 hO2;have HTp:=q8 hTp;have eO2:=hO2.cO.2;have zO2:=qd hO2.out;clear hO2 hTp eO1 zO1 ePar zg
     by_cases hpl:(p:Int)<xs[k].params
     ·have hpb:(p:Int)<=6:=(by omega);have htk:=takes_any g xs.length c k p xs W2 S2 HO2.out.fn hlt (HCN.out.blk _ (zP hlt));have HTa:=q8 htk;clear htk;cases htb:tkF p xs[k]
      ·rw[htb]at HTa;have HTb:=q8 htb;clear htb
       go_wp2_with (first|(go_at_call 18;refine HTa.out.mono ?_;rintro e W3 ⟨rfl,hb3⟩;have hO3:=HO2.out.below hb3;have HO3:=q8 hO3;clear hb3 hO3)|(go_at_call 19;refine(KS O g c k p xs W3 S2 HO3.out.cO.2 HO3.out.notO HO3.out.fn hlt bO HCN.out.blk hpl (HCN.out.at_call hlt hpl)).mono ?_;rintro e W4 ⟨rfl,hS4,hK4⟩;have hO4:=HO3.out.put (qQ k p xs) hK4 hS4;have HO4:=q8 hO4;clear hS4 hK4 hO4))
       refine wp_goto ?_;exact⟨rfl,_,jr hlt hpl,O,g,c,p1,c1,zC k p xs,S1,S2,HO4.out,Dr.step HDr.out hlt hpl HTb.out HTp.out,rfl,rfl,rfl,rfl,rfl,rfl⟩
      rw[htb]at HTa;have HTb:=q8 htb;clear htb
      go_wp2_with (go_at_call 18;refine HTa.out.mono ?_;rintro e W3 ⟨rfl,hb3⟩;have hO3:=HO2.out.below hb3;have HO3:=q8 hO3;clear hb3 hO3)
      refine⟨⟨p+1,⟨by omega,fun k' hk' p' hp' hl=>?_,HO3.out⟩,trivial,rfl,rfl,rfl,rfl,rfl,rfl,rfl,rfl,by show Z _=_;go_num⟩,by simp[intOf];omega⟩
      by_cases he:k'=k/\p'=p
      ·obtain⟨rfl,rfl⟩:=he;exact HTb.out
      exact HTp.out k' hk' p' hp' bO
     go_wp2_with fail
     refine⟨⟨k+1,⟨by omega,fun k' hk' p' hp' hl=>HTp.out k' hk' p' hp' ?_,HO2.out⟩,rfl⟩,by simp only[intOf];omega⟩
     by_cases he:k'=k
     ·subst he;omega
     omega
   obtain rfl:k=xs.length:=(by omega);have HT:Hid (Taken xs):=HTk.out
   go_wp2_with fail
   refine wp_loop (fun a' W'=>∃(k:Nat) (ys:List FunL) (S3:Blks),(k<=xs.length/\Al xs k 0 ys []/\OutAt w O g c p1 c1 (qI u).globals ys S1 S3 W')/\a'.defers=[]/\a'.tmps.size=130/\a'.tmps.getD 2 undef = .pointer (some (J (w.heap.size+1) 0))/\a'.tmps.getD 3 undef = .pointer (some (J (w.heap.size+1+1) 0))/\a'.tmps.getD 6 undef = .pointer (some (J O 0))/\a'.tmps.getD 64 undef=Z xs.length/\a'.tmps.getD 65 undef=Z k) (fun a' _=>xs.length - (intOf (a'.tmps.getD 65 undef)).toNat) ?s3 ?r3
   case s3=>
    exact⟨0,xs,S2,⟨Nat.zero_le _,Al.start,HO1.out⟩,rfl,rfl,rfl,rfl,rfl,rfl,rfl⟩
   case r3=>
    rintro⟨ts,ds⟩ W2 ⟨k,ys,S3,⟨hk,hAl,hO2⟩,hdf,hfs,hf2,hf3,hf6,heS,heT⟩;simp only at hdf hf2 hf3 hf6 heS heT hfs;subst hdf;obtain⟨us,hus⟩:∃us:Nat->Value,us=fun i=>ts.getD i undef:=⟨_,rfl⟩
    have hts:ts=((us 0)::(us 1)::(.pointer (some (J (w.heap.size+1) 0)))::(.pointer (some (J (w.heap.size+1+1) 0)))::(us 4)::(us 5)::(.pointer (some (J O 0)))::(us 7)::(us 8)::(us 9)::(us 10)::(us 11)::(us 12)::(us 13)::(us 14)::(us 15)::(us 16)::(us 17)::(us 18)::(us 19)::(us 20)::(us 21)::(us 22)::(us 23)::(us 24)::(us 25)::(us 26)::(us 27)::(us 28)::(us 29)::(us 30)::(us 31)::(us 32)::(us 33)::(us 34)::(us 35)::(us 36)::(us 37)::(us 38)::(us 39)::(us 40)::(us 41)::(us 42)::(us 43)::(us 44)::(us 45)::(us 46)::(us 47)::(us 48)::(us 49)::(us 50)::(us 51)::(us 52)::(us 53)::(us 54)::(us 55)::(us 56)::(us 57)::(us 58)::(us 59)::(us 60)::(us 61)::(us 62)::(us 63)::(Z xs.length)::(Z k)::(us 66)::(us 67)::(us 68)::(us 69)::(us 70)::(us 71)::(us 72)::(us 73)::(us 74)::(us 75)::(us 76)::(us 77)::(us 78)::(us 79)::(us 80)::(us 81)::(us 82)::(us 83)::(us 84)::(us 85)::(us 86)::(us 87)::(us 88)::(us 89)::(us 90)::(us 91)::(us 92)::(us 93)::(us 94)::(us 95)::(us 96)::(us 97)::(us 98)::(us 99)::(us 100)::(us 101)::(us 102)::(us 103)::(us 104)::(us 105)::(us 106)::(us 107)::(us 108)::(us 109)::(us 110)::(us 111)::(us 112)::(us 113)::(us 114)::(us 115)::(us 116)::(us 117)::(us 118)::(us 119)::(us 120)::(us 121)::(us 122)::(us 123)::(us 124)::(us 125)::(us 126)::(us 127)::(us 128)::(us 129)::[]).toArray:=by
     have hfr:=js hfs;rw[←hus]at hfr;have h2:us 2 = .pointer (some (J (w.heap.size+1) 0)):=(by rw[hus];exact hf2);have h3:us 3 = .pointer (some (J (w.heap.size+1+1) 0)):=(by rw[hus];exact hf3);have h6:us 6 = .pointer (some (J O 0)):=(by rw[hus];exact hf6);have h64:us 64=Z xs.length:=(by rw[hus];exact heS);have h65:us 65=Z k:=(by rw[hus];exact heT);refine hfr.trans ?_;show((us 0)::(us 1)::(us 2)::(us 3)::(us 4)::(us 5)::(us 6)::(us 7)::(us 8)::(us 9)::(us 10)::(us 11)::(us 12)::(us 13)::(us 14)::(us 15)::(us 16)::(us 17)::(us 18)::(us 19)::(us 20)::(us 21)::(us 22)::(us 23)::(us 24)::(us 25)::(us 26)::(us 27)::(us 28)::(us 29)::(us 30)::(us 31)::(us 32)::(us 33)::(us 34)::(us 35)::(us 36)::(us 37)::(us 38)::(us 39)::(us 40)::(us 41)::(us 42)::(us 43)::(us 44)::(us 45)::(us 46)::(us 47)::(us 48)::(us 49)::(us 50)::(us 51)::(us 52)::(us 53)::(us 54)::(us 55)::(us 56)::(us 57)::(us 58)::(us 59)::(us 60)::(us 61)::(us 62)::(us 63)::(us 64)::(us 65)::(us 66)::(us 67)::(us 68)::(us 69)::(us 70)::(us 71)::(us 72)::(us 73)::(us 74)::(us 75)::(us 76)::(us 77)::(us 78)::(us 79)::(us 80)::(us 81)::(us 82)::(us 83)::(us 84)::(us 85)::(us 86)::(us 87)::(us 88)::(us 89)::(us 90)::(us 91)::(us 92)::(us 93)::(us 94)::(us 95)::(us 96)::(us 97)::(us 98)::(us 99)::(us 100)::(us 101)::(us 102)::(us 103)::(us 104)::(us 105)::(us 106)::(us 107)::(us 108)::(us 109)::(us 110)::(us 111)::(us 112)::(us 113)::(us 114)::(us 115)::(us 116)::(us 117)::(us 118)::(us 119)::(us 120)::(us 121)::(us 122)::(us 123)::(us 124)::(us 125)::(us 126)::(us 127)::(us 128)::(us 129)::[]).toArray=_;rw[h2,h3,h6,h64,h65]
    clear hus hfs hf2 hf3 hf6 heS heT;subst hts;have hly:=hAl.len;have HO2:=q8 hO2;have HAl:=q8 hAl;have HCY:=q8 (hAl.callN HCN.out).1;have eO2:=hO2.cO.2;have zO2:=qd hO2.out;clear hO2 hAl eO1 zO1;rw[hly]at eO2
    by_cases hlt:k<xs.length
    ·go_wp2_with fail
     refine XC (fun n a' W'=>∃(p:Nat) (zs:List FunL) (S4:Blks) (hd:List InsL) (hv:Value),(Al xs k p zs hd/\OutAt w O g c p1 c1 (qI u).globals zs S1 S4 W'/\HeadR W' w.heap.size hv hd/\(∀b,hv.ownBlock=some b->¬ S1 b/\¬ S4 b/\b≠O/\w.heap.size+1+1<b)/\∀hz:k<zs.length,n=(zs[k].params - p).toNat)/\a'.defers=[]/\a'.tmps.size=130/\a'.tmps.getD 2 undef = .pointer (some (J (w.heap.size+1) 0))/\a'.tmps.getD 3 undef = .pointer (some (J (w.heap.size+1+1) 0))/\a'.tmps.getD 6 undef = .pointer (some (J O 0))/\a'.tmps.getD 9 undef=Z k/\a'.tmps.getD 10 undef=hv/\a'.tmps.getD 11 undef=Z p/\a'.tmps.getD 64 undef=Z xs.length/\a'.tmps.getD 65 undef=Z k) (ys[k]'bO).params.toNat ?s4 ?r4
     case s4=>
      exact⟨0,ys,S3,[],.slice none 0 0,⟨HAl.out,HO2.out,⟨World.ownsRow_nil _ _ _ _,fun x h=>by cases h⟩,fun b h=>(by cases h),fun _=>by omega⟩,rfl,rfl,rfl,rfl,rfl,rfl,rfl,rfl,rfl,rfl⟩
     case r4=>
      rintro n ⟨ts,ds⟩ W3 ⟨p,zs,S4,hd,hv,⟨hAl,hO3,hH,hHb,hn⟩,hdf,hfs,hf2,hf3,hf6,hf9,hmH,hmI,heS,heT⟩;simp only at hdf hf2 hf3 hf6 hf9 hmH hmI heS heT hfs;subst hdf;obtain⟨us,hus⟩:∃us:Nat->Value,us=fun i=>ts.getD i undef:=⟨_,rfl⟩
      have hts:ts=((us 0)::(us 1)::(.pointer (some (J (w.heap.size+1) 0)))::(.pointer (some (J (w.heap.size+1+1) 0)))::(us 4)::(us 5)::(.pointer (some (J O 0)))::(us 7)::(us 8)::(Z k)::hv::(Z p)::(us 12)::(us 13)::(us 14)::(us 15)::(us 16)::(us 17)::(us 18)::(us 19)::(us 20)::(us 21)::(us 22)::(us 23)::(us 24)::(us 25)::(us 26)::(us 27)::(us 28)::(us 29)::(us 30)::(us 31)::(us 32)::(us 33)::(us 34)::(us 35)::(us 36)::(us 37)::(us 38)::(us 39)::(us 40)::(us 41)::(us 42)::(us 43)::(us 44)::(us 45)::(us 46)::(us 47)::(us 48)::(us 49)::(us 50)::(us 51)::(us 52)::(us 53)::(us 54)::(us 55)::(us 56)::(us 57)::(us 58)::(us 59)::(us 60)::(us 61)::(us 62)::(us 63)::(Z xs.length)::(Z k)::(us 66)::(us 67)::(us 68)::(us 69)::(us 70)::(us 71)::(us 72)::(us 73)::(us 74)::(us 75)::(us 76)::(us 77)::(us 78)::(us 79)::(us 80)::(us 81)::(us 82)::(us 83)::(us 84)::(us 85)::(us 86)::(us 87)::(us 88)::(us 89)::(us 90)::(us 91)::(us 92)::(us 93)::(us 94)::(us 95)::(us 96)::(us 97)::(us 98)::(us 99)::(us 100)::(us 101)::(us 102)::(us 103)::(us 104)::(us 105)::(us 106)::(us 107)::(us 108)::(us 109)::(us 110)::(us 111)::(us 112)::(us 113)::(us 114)::(us 115)::(us 116)::(us 117)::(us 118)::(us 119)::(us 120)::(us 121)::(us 122)::(us 123)::(us 124)::(us 125)::(us 126)::(us 127)::(us 128)::(us 129)::[]).toArray:=by
       have hfr:=js hfs;rw[←hus]at hfr;have h2:us 2 = .pointer (some (J (w.heap.size+1) 0)):=(by rw[hus];exact hf2);have h3:us 3 = .pointer (some (J (w.heap.size+1+1) 0)):=(by rw[hus];exact hf3);have h6:us 6 = .pointer (some (J O 0)):=(by rw[hus];exact hf6);have h9:us 9=Z k:=(by rw[hus];exact hf9);have h10:us 10=hv:=(by rw[hus];exact hmH);have h11:us 11=Z p:=(by rw[hus];exact hmI);have h64:us 64=Z xs.length:=(by rw[hus];exact heS);have h65:us 65=Z k:=(by rw[hus];exact heT);refine hfr.trans ?_;show((us 0)::(us 1)::(us 2)::(us 3)::(us 4)::(us 5)::(us 6)::(us 7)::(us 8)::(us 9)::(us 10)::(us 11)::(us 12)::(us 13)::(us 14)::(us 15)::(us 16)::(us 17)::(us 18)::(us 19)::(us 20)::(us 21)::(us 22)::(us 23)::(us 24)::(us 25)::(us 26)::(us 27)::(us 28)::(us 29)::(us 30)::(us 31)::(us 32)::(us 33)::(us 34)::(us 35)::(us 36)::(us 37)::(us 38)::(us 39)::(us 40)::(us 41)::(us 42)::(us 43)::(us 44)::(us 45)::(us 46)::(us 47)::(us 48)::(us 49)::(us 50)::(us 51)::(us 52)::(us 53)::(us 54)::(us 55)::(us 56)::(us 57)::(us 58)::(us 59)::(us 60)::(us 61)::(us 62)::(us 63)::(us 64)::(us 65)::(us 66)::(us 67)::(us 68)::(us 69)::(us 70)::(us 71)::(us 72)::(us 73)::(us 74)::(us 75)::(us 76)::(us 77)::(us 78)::(us 79)::(us 80)::(us 81)::(us 82)::(us 83)::(us 84)::(us 85)::(us 86)::(us 87)::(us 88)::(us 89)::(us 90)::(us 91)::(us 92)::(us 93)::(us 94)::(us 95)::(us 96)::(us 97)::(us 98)::(us 99)::(us 100)::(us 101)::(us 102)::(us 103)::(us 104)::(us 105)::(us 106)::(us 107)::(us 108)::(us 109)::(us 110)::(us 111)::(us 112)::(us 113)::(us 114)::(us 115)::(us 116)::(us 117)::(us 118)::(us 119)::(us 120)::(us 121)::(us 122)::(us 123)::(us 124)::(us 125)::(us 126)::(us 127)::(us 128)::(us 129)::[]).toArray=_;rw[h2,h3,h6,h9,h10,h11,h64,h65]
      clear hus hfs hf2 hf3 hf6 hf9 hmH hmI heS heT;subst hts;have hlz:=hAl.len;have hkz:k<zs.length:=(by omega);have HO3:=q8 hO3;have heU:=q8 hAl;have HCZ:=q8 (hAl.callN HCN.out).1;have eO3:=hO3.cO.2;have zO3:=qd hO3.out;obtain⟨ePar,hjG⟩:=hO3.par hkz;have zg:=q9 ePar;have HH3:=q8 hH;have HHb:=q8 hHb;have hn2:=hn hkz;have ham:=HCZ.out.par _ (zP hkz);have hp6:0<=zs[k].params/\zs[k].params<=6:=ham;clear hO3 hAl eO2 zO2 hH hHb hjG hn ham;rw[hlz]at eO3
      by_cases hpl:(p:Int)<zs[k].params
      ·have haw:=YG O g c k p zs W3 S4 HO3.out.cO.2 HO3.out.fn bO HCZ.out.blk (HCZ.out.at_call hkz hpl);have HAw:=q8 haw;clear haw;cases hal:jy k p zs with
       | none=>
        rw[hal]at HAw;have HA0:=q8 hal;clear hal
        go_wp2_with (go_at_call 20;refine HAw.out.mono ?_;rintro e W4 ⟨rfl,hb4⟩;have HB4:=q8 hb4;clear hb4)
        exact⟨(zs[k].params - ((p+1:Nat):Int)).toNat,by omega,p+1,zs,S4,hd,hv,⟨heU.out.skip hkz hpl HA0.out,HO3.out.below HB4.out,HH3.out.kept fun b hb=>HB4.out.block b (HH3.out.slW.inb b hb),HHb.out,fun _=>rfl⟩,trivial,rfl,rfl,rfl,rfl,rfl,rfl,rfl,rfl,rfl⟩
       | some m=>
        rw[hal]at HAw;have HA0:=q8 hal;clear hal;have hd6:hd.length<=6:=(by have:=heU.out.head_len HCN.out hkz;omega);have hmJ:Hid (I64 (zs[k].params - 1)):=q8 ⟨by omega,by omega⟩;have htR:=q8 (alw64 HO3.out.fn (HCZ.out.at_call hkz hpl) HA0.out)
        go_wp2_with (first|(go_at_call 20;refine HAw.out.mono ?_;rintro e W4 ⟨rfl,hb4⟩;have HO4:=q8 (HO3.out.below hb4);have HH4:=q8 (HH3.out.kept fun b hb=>hb4.block b (HH3.out.slW.inb b hb));clear hb4)|(go_at_call 19;refine(KS O g c k p zs W4 S4 HO4.out.cO.2 HO4.out.notO HO4.out.fn hkz bO HCZ.out.blk hpl (HCZ.out.at_call hkz hpl)).mono ?_;rintro e W5 ⟨rfl,hS5,hK5⟩;have HO5:=q8 (HO4.out.put (qQ k p zs) hK5 hS5);have hH5:=HH4.out.kept fun b hb=>hK5.block b (HH4.out.slW.inb b hb) (HHb.out b hb).2.1;have HH5:=q8 hH5;have hap:=head_app W5 w.heap.size hv hd (zs[k].params - 1) m HO5.out.b.size hH5 hmJ.out htR.out hd6 42;obtain⟨v',w6,hr6,hh6,hk6,hb6⟩:=hap;have HR6:=q8 hr6;have HH6:=q8 hh6;have HK6:=q8 hk6;have HB6:=q8 hb6;clear hS5 hK5 hH5 hr6 hh6 hk6 hb6)|(at_builtin;refine Lib.wpList_append_run _ rfl _ _ _ _ rfl _ _ rfl rfl _ _ HR6.out ?_))
        have hpp:((zC k p zs)[k]'(by rw[qQ];exact hkz)).params=zs[k].params - 1:=(by rw[jk,zZ rfl]);refine⟨(zs[k].params - 1 - (p:Int)).toNat,by omega,p,zC k p zs,S4,hd++[j8 (zs[k].params - 1) m],v',⟨heU.out.drop hkz hpl HA0.out,HO5.out.kept HK6.out fun b hb=>?_,HH6.out,fun b hb=>?_,fun _=>by rw[hpp]⟩,trivial,rfl,rfl,rfl,rfl,rfl,rfl,rfl,rfl,rfl⟩
        ·obtain⟨x1,x2,x3,x4⟩:=HHb.out b hb;exact⟨⟨x1,x3,x4⟩,x2⟩
        rcases HB6.out b hb with x|x
        ·exact HHb.out b x
        have y1:=qd HO5.out.out;have y2:=HO5.out.hO;exact⟨fun h=>by have:=HO5.out.glo.sl.inb b h;omega,fun h=>by have:=HO5.out.fn.inb b h;omega,by omega,by omega⟩
      obtain⟨hq,cq,rfl,hqn,hqc⟩:=HH3.out.slW.rowX.val
      by_cases hdl:0<hd.length
      rotate_left
      ·obtain rfl:hd=[]:=List.eq_nil_of_length_eq_zero bO;have hnx:=heU.out.next hkz hpl;rw[show(zF []:FunL->FunL)=id from funext headF_nil,List.modify_id]at hnx;have HNx:=q8 hnx;clear hnx
       go_wp2_with fail
       exact⟨⟨k+1,⟨by omega,zs,HNx.out,S4,HO3.out⟩,rfl⟩,by simp only[intOf];omega⟩
      have hb0:0<zs[k].blocks.length:=HCZ.out.blk _ (zP hkz);have hd6:hd.length<=6:=(by have:=heU.out.head_len HCN.out hkz;omega);have hsm:=heU.out.small HSm.out k hkz (zK _) zs[k].blocks[0] (zP hb0);obtain⟨bb,cb,v2,X1,X2,e1,hSb,hbz,hbf,e2,hx1,hx2,hput⟩:=head_own HO3.out.fn hkz hb0 HH3.out (by rw[yN];unfold reachBytes;omega);obtain⟨q2,c2,rfl,hq2,hc2⟩:=hx2.val;obtain⟨hq',cq',hqe,hq7,hq9⟩:=hx1.val;simp only[Value.slice.injEq]at hqe;obtain⟨rfl,_,rfl⟩:=hqe;have HX1:=q8 hx1;have HX2:=q8 hx2;have haA:=q8 hput;have HQ:=q8 (zh (zh hq7 hq9) (zh hq2 hc2));have HSb:=q8 hSb;clear hx1 hx2 hput hq2 hc2 hqn hqc hq7 hq9 hSb
      go_wp2_with fail
      refine qA (S:=(fun W':World=>W'.cell? (J g (k*4+3))=some (.slice (some (J bb 0)) zs[k].blocks.length cb)/\W'.cell? (J bb 1)=some (.slice q2 zs[k].blocks[0].list.length c2))) bK 16 ?_;have hSp:(fun W':World=>W'.cell? (J g (k*4+3))=some (.slice (some (J bb 0)) zs[k].blocks.length cb)/\W'.cell? (J bb 1)=some (.slice q2 zs[k].blocks[0].list.length c2)) W3.drew:=⟨e1,e2⟩;have htS:bb<W3.drew.heap.size:=hbz;refine qx 0 102 (.pointer (some (J g (k*4)))) rfl rfl hSp (fun W' hS'=>by obtain⟨h1,h2⟩:=hS';go_simp) ?_;refine qx 1 103 (.pointer (some (J g (k*4)))) rfl rfl hSp (fun W' hS'=>by obtain⟨h1,h2⟩:=hS';go_simp) ?_;refine qx 2 104 (.pointer (some (J g (k*4+3)))) rfl rfl hSp (fun W' hS'=>by obtain⟨h1,h2⟩:=hS';go_simp) ?_;refine qx 3 105 (.slice (some (J bb 0)) zs[k].blocks.length cb) rfl rfl hSp (fun W' hS'=>by obtain⟨h1,h2⟩:=hS';go_simp) ?_;refine qx 4 106 (.slice hq hd.length cq) rfl rfl hSp (fun W' hS'=>by obtain⟨h1,h2⟩:=hS';go_simp) ?_;refine qx 5 107 (.pointer (some (J g (k*4)))) rfl rfl hSp (fun W' hS'=>by obtain⟨h1,h2⟩:=hS';go_simp) ?_;refine qx 6 108 (.pointer (some (J g (k*4)))) rfl rfl hSp (fun W' hS'=>by obtain⟨h1,h2⟩:=hS';go_simp) ?_;refine qx 7 109 (.pointer (some (J g (k*4+3)))) rfl rfl hSp (fun W' hS'=>by obtain⟨h1,h2⟩:=hS';go_simp) ?_;refine qx 8 110 (.slice (some (J bb 0)) zs[k].blocks.length cb) rfl rfl hSp (fun W' hS'=>by obtain⟨h1,h2⟩:=hS';go_simp) ?_;refine qx 9 111 (.pointer (some (J bb 0))) rfl rfl hSp (fun W' hS'=>by obtain⟨h1,h2⟩:=hS';go_simp) ?_;refine qx 10 112 (.pointer (some (J bb 1))) rfl rfl hSp (fun W' hS'=>by obtain⟨h1,h2⟩:=hS';go_simp) ?_;refine qx 11 113 (.slice q2 zs[k].blocks[0].list.length c2) rfl rfl hSp (fun W' hS'=>by obtain⟨h1,h2⟩:=hS';go_simp) ?_;have hSa:∀W',Below W3.drew.heap.size W3.drew W'->(fun W':World=>W'.cell? (J g (k*4+3))=some (.slice (some (J bb 0)) zs[k].blocks.length cb)/\W'.cell? (J bb 1)=some (.slice q2 zs[k].blocks[0].list.length c2)) W':=fun W' hb=>⟨(hb.cell (p:=(J g (k*4+3))) (q9 hSp.1)).trans hSp.1,(hb.cell (p:=(J bb 1)) (q9 hSp.2)).trans hSp.2⟩;have hba:Below W3.drew.heap.size W3.drew (W3.drew.alloc (.cells #[.slice hq hd.length cq,.slice q2 zs[k].blocks[0].list.length c2] 42)):=(by exact bZ);refine qm (i:=12) bK (qC 114 (.slice (some (J W3.drew.heap.size 0)) 2 2) (W3.drew.alloc (.cells #[.slice hq hd.length cq,.slice q2 zs[k].blocks[0].list.length c2] 42)) rfl rfl rfl (by go_simp) (hSa _ hba) ?_);obtain⟨Wa,hWa⟩:=nZ (W3.drew.alloc (.cells #[.slice hq hd.length cq,.slice q2 zs[k].blocks[0].list.length c2] 42));have hA:=qB W3.drew (.cells #[.slice hq hd.length cq,.slice q2 zs[k].blocks[0].list.length c2] 42);rw[←hWa]at hba hA ⊢;clear hWa
      have hca:=VW W3.drew.heap.size 2 2 (fun i=>if i=0 then hq else q2) (fun i=>if i=0 then hd.length else zs[k].blocks[0].list.length) (fun i=>if i=0 then cq else c2) (fun i=>if i=0 then X1 else X2) Wa bO
       (fun i hi=>match i,hi with|0,_=>(blk hA).1 0|1,_=>(blk hA).1 1)
       (fun i hi=>match i,hi with|0,_=>HX1.out.len|1,_=>HX2.out.len)
       (fun i hi=>match i,hi with|0,_=>HX1.out.one|1,_=>HX2.out.one)
       (fun i hi=>match i,hi with|0,_=>HQ.out.1.1|1,_=>HQ.out.2.1)
       (fun i hi=>match i,hi with
        | 0,_=>fun a ha j u hu=>by
         have h1:=HQ.out.1.2 a ha j u hu;exact(hba.cell (p:=a.add j) (blk_lt h1)).trans h1
        | 1,_=>fun a ha j u hu=>by
         have h1:=HQ.out.2.2 a ha j u hu
         exact(hba.cell (p:=a.add j) (blk_lt h1)).trans h1)
       (by simp[QE,yt];omega)
      have es:QE (fun i=>if i=0 then hd.length else zs[k].blocks[0].list.length) 2=hd.length+zs[k].blocks[0].list.length:=(by simp[QE,yt]);have ex:(List.range 2).flatMap (fun i=>if i=0 then X1 else X2)=X1++X2:=(by simp[yt]);rw[es,ex]at hca;refine qm (i:=13) bK (qt 115 rfl rfl rfl (by go_simp) hca ?_);rintro e W7 ⟨v',rfl,hown,hb7⟩
      obtain⟨q7,c7,rfl⟩:∃q c,v' = .slice q (hd.length+zs[k].blocks[0].list.length) c:=by
       rcases hown.2 with⟨rfl,h⟩|⟨_,_,_,rfl,_⟩
       ·exact⟨none,0,by rw[h]⟩
       exact⟨_,_,rfl⟩
      have hiG:Below W3.heap.size W3 W7:=by
       have:=hba.trans (hb7.mono hba.size);exact⟨this.os,this.tape,this.output,this.size,this.block⟩
      have hS7:=hSa W7 (hba.trans (hb7.mono hba.size));refine⟨_,rfl,hS7,?_⟩;have hz7:bb<W7.heap.size:=xB hbz hiG.size;have hf7:∀o,W7.frozen? (J bb o)=false:=fun o=>(hiG.frozen (p:=(J bb o)) hbz).trans (hbf o);refine qx 14 116 (.pointer (some (J bb 0))) rfl rfl hS7 (fun W' hS'=>by obtain⟨h1,h2⟩:=hS';go_simp) ?_;refine qx 15 117 (.pointer (some (J bb 1))) rfl rfl hS7 (fun W' hS'=>by obtain⟨h1,h2⟩:=hS';go_simp) ?_;have e7:=hS7.2;refine qm (i:=16) bK (qz (W7.setCell (J bb 1) (.slice q7 (hd.length+zs[k].blocks[0].list.length) c7)) rfl rfl rfl (by go_simp) (fun h=>absurd rfl h) ?_);refine⟨by kernel_rfl,?_⟩;obtain⟨W8,hW8⟩:=nZ (W7.setCell (J bb 1) (.slice q7 (hd.length+zs[k].blocks[0].list.length) c7));rw[←hW8];have htT:=hba.size;have hfn:=haA.out W7 W8 _ hiG ⟨hown.1,hown.2.imp id fun⟨g,cap,cur,a,b,r⟩=>⟨g,cap,cur,a,yv htT b,r⟩⟩ hW8;have hK8:Kept (fun b=>b=bb) W3 W8:=by rw[hW8];exact(Kept.of_below hiG:Kept (fun b=>b=bb) W3 W7).setCell (p:=(J bb 1)) rfl _
      have hO8:=HO3.out.to (xs':=zs.modify k (zF hd)) bV hK8 (fun b hb=>by
       obtain rfl:b=bb:=hb
       exact⟨fun h=>HO3.out.ap _ h HSb.out,(HO3.out.l2 _ HSb.out).2,(HO3.out.l2 _ HSb.out).1⟩) hfn (fun b hb=>hb.elim .inl fun h=>.inr h.1)
      have HO8:=q8 hO8;unfold calm;dsimp only [Act.put];clear hW8 hfn hK8 hO8 hS7 e7 hz7 hf7 hSp hSa hba hA hca es ex hown hb7 hiG e1 e2 hbz htS hbf
      go_wp2_with fail
      exact⟨⟨k+1,_,_,⟨by omega,heU.out.next hkz bO,HO8.out⟩,trivial,rfl,rfl,rfl,rfl,rfl,by show Z _=_;go_num⟩,by show xs.length - ((k:Int)+1).toNat<xs.length - (k:Int).toNat;omega⟩
    obtain rfl:k=xs.length:=(by omega);have eO2a:=HO2.out.cO.1
    have hF2:SliceAt W2 4 (FunR W2) (some (J g 0)) ys:=by
     obtain⟨p',c',e,_,_,h⟩:=HO2.out.fn.read qK bO fun _ _ _ h=>FunO.read h;cases e;exact h
    have hff:=fits_any ys p1 (some (J g 0)) (qI u).globals.length c1 c W2 bO hF2;rw[←hly]at eO2 ⊢;have htU:ys.length<=10:=(by omega);have HLy:=q8 hly;clear hly
    by_cases hfit:xD ys=(0,0)
    rotate_left
    ·have HFf:=q8 hff
     have hqd:((xD ys).1 == 0&&(xD ys).2 == 0)=false:=by
      cases hb:((xD ys).1 == 0&&(xD ys).2 == 0)
      ·rfl
      simp only[Bool.and_eq_true,beq_iff_eq]at hb;exact absurd (Prod.ext hb.1 hb.2) hfit
     have hq3:∀w,(binOp .neq 27 (.agg #[Z (xD ys).1,Z (xD ys).2]) (.agg #[Z 0,Z 0])).run Tryz.prog w = .ok (.bool true) w:=fun w=>by rw[jp,hqd];rfl
     have hjH:=q8 hfit;clear hff hfit hF2 hqd
     go_wp2_with (go_at_call 22;refine HFf.out.mono ?_;rintro e W5 ⟨rfl,hb5⟩;have hO5:=HO2.out.below hb5;have HO5:=q8 hO5;obtain⟨hcc,hcf⟩:=blk hO5.r1;obtain⟨hgL,hj7⟩:=blk hO5.r2;have z1:=qd hO5.r1;have z2:=qd hO5.r2;clear hb5 hO5)
     have HB5:=q8 HO5.out.b
     go_region
     all_goals go_wp2
     all_goals
      simp only[Exit.jump];refine zk (v:=.tuple #[.agg #[.slice none 0 0,.slice none 0 0],.agg #[Z (xD ys).1,Z (xD ys).2]]) ?_ rfl ⟨⟨xs,ys,HDr.out,HT.out,HAl.out,.inl ⟨hjH.out,rfl⟩⟩,?_⟩
      ·simp[results,Tryz.results8,go_sem,hcc,hgL,z1,z2]
      exact bZ
    rw[hfit]at hff;dsimp only at hff;have HFf:=q8 hff;have hjH:=q8 hfit;clear hff hfit hF2
    by_cases hc:(chk { globals:=(qI u).globals,funcs:=ys }).1=0
    ·have HC:=q8 hc;clear hc
     go_wp2_with (go_at_call 22;refine HFf.out.mono ?_;rintro e W5 ⟨rfl,hb5⟩;have hO5:=HO2.out.below hb5;have HO5:=q8 hO5;have eO5:=hO5.cO.2;have eO5a:=hO5.cO.1;have zO5:=qd hO5.out;clear hb5 hO5)
     obtain⟨W6,hW6⟩:=nZ (W5.alloc (.cells #[Z 0,Z 0] 27));rw[←hW6];have hO6:=HO5.out.below (show Below W5.heap.size W5 W6 by rw[hW6];exact bZ);have HO6:=q8 hO6;have hG6:=hO6.glo.read xl bO fun _ _ _ h=>GloO.read h;have hF6:=(show SlQ 38 4 56 FunO W6 (.slice (some (J g 0)) ys.length c) ys S3 from⟨hO6.fn,by unfold reachBytes;omega⟩).read qK bO fun _ _ _ h=>FunO.read h;have HG6:=q8 hG6;have HF6:=q8 hF6;clear hW6 hO6 hG6 hF6 eO5 eO5a zO5;refine(y9 { globals:=(qI u).globals,funcs:=ys } p1 (some (J g 0)) c1 c W6 hgl HG6.out (by show ys.length*56<=_;omega) HF6.out (HW.out.below HO6.out.b) HC.out).mono ?_;rintro e W7 ⟨⟨p5,c5,p6,c6,rfl,S,hS,hL⟩,hb7⟩;have HS:=q8 hS;have HL:=q8 (show ∀i,S i->W6.heap.size<=i from hL);clear hS hL;have hRA:=(hb7.block _ (qd HO6.out.r1)).trans HO6.out.r1;have hRE:=(hb7.block _ (qd HO6.out.r2)).trans HO6.out.r2;have HB7:=q8 (HO6.out.b.trans (hb7.mono HO6.out.b.size));have HRA:=q8 hRA;have HRE:=q8 hRE;have htV:=hb7.size;have hz6:w.heap.size+1+1<W6.heap.size:=qd HO6.out.r2;obtain⟨ab,af⟩:=blk hRA;have ab0:=ab 0;have ab1:=ab 1;have az:=qd hRA;obtain⟨eb,ef⟩:=blk hRE;have eb0:=eb 0;have eb1:=eb 1;have ez:=qd hRE;simp only[zE,zB,zD]at ab0 ab1 eb0 eb1;clear hRA hRE hb7 ab eb
     go_wp2_with fail
     obtain⟨WF,hWF⟩:=nZ ((((W7.setCell (J (w.heap.size+1) 0) (.slice p5 (qI u).globals.length c5)).setCell (J (w.heap.size+1) 1) (.slice p6 ys.length c6)).setCell (J (w.heap.size+1+1) 0) (Z 0)).setCell (J (w.heap.size+1+1) 1) (Z 0));rw[←hWF]
     have hKF:Kept (fun i=>i=w.heap.size+1\/i=w.heap.size+1+1) W7 WF:=by
      rw[hWF];have h0:Kept (fun i=>i=w.heap.size+1\/i=w.heap.size+1+1) W7 W7:=Kept.refl _ _;have h1:=h0.setCell (p:=(J (w.heap.size+1) 0)) (.inl rfl) (.slice p5 (qI u).globals.length c5);have h2:=h1.setCell (p:=(J (w.heap.size+1) 1)) (.inl rfl) (.slice p6 ys.length c6);have h3:=h2.setCell (p:=(J (w.heap.size+1+1) 0)) (.inr rfl) (Z 0);exact h3.setCell (p:=(J (w.heap.size+1+1) 1)) (.inr rfl) (Z 0)
     have hFA:WF.heap[w.heap.size+1]?=some (.cells #[.slice p5 (qI u).globals.length c5,.slice p6 ys.length c6] 25 (0,0)):=by
      rw[hWF,zJ _ ⟨w.heap.size+1+1,1,none⟩ _ _ (by show w.heap.size+1≠w.heap.size+1+1;omega),zJ _ ⟨w.heap.size+1+1,0,none⟩ _ _ (by show w.heap.size+1≠w.heap.size+1+1;omega),qj (qj HRA.out 0 _) 1 _];rfl
     have hFE:WF.heap[w.heap.size+1+1]?=some (.cells #[Z 0,Z 0] 27 (0,0)):=by
      have h0:((W7.setCell (J (w.heap.size+1) 0) (.slice p5 (qI u).globals.length c5)).setCell (J (w.heap.size+1) 1) (.slice p6 ys.length c6)).heap[w.heap.size+1+1]?=some (.cells #[Z 0,Z 0] 27 (0,0)):=by
       rw[zJ _ ⟨w.heap.size+1,1,none⟩ _ _ (by show w.heap.size+1+1≠w.heap.size+1;omega),zJ _ ⟨w.heap.size+1,0,none⟩ _ _ (by show w.heap.size+1+1≠w.heap.size+1;omega)];exact HRE.out
      rw[hWF,qj (qj h0 0 _) 1 _];rfl
     clear hWF;have ra0:WF.cell? (J (w.heap.size+1) 0)=some (.slice p5 (qI u).globals.length c5):=(blk hFA).1 0;have ra1:WF.cell? (J (w.heap.size+1) 1)=some (.slice p6 ys.length c6):=(blk hFA).1 1;have re0:WF.cell? (J (w.heap.size+1+1) 0)=some (Z 0):=(blk hFE).1 0;have re1:WF.cell? (J (w.heap.size+1+1) 1)=some (Z 0):=(blk hFE).1 1;simp only[Exit.jump];refine zk (v:=.tuple #[.agg #[.slice p5 (qI u).globals.length c5,.slice p6 ys.length c6],.agg #[Z 0,Z 0]]) ?_ rfl ⟨⟨xs,ys,HDr.out,HT.out,HAl.out,.inr (.inr ⟨hjH.out,HC.out,p5,c5,p6,c6,rfl,S,?_,fun i hi=>?_⟩)⟩,?_⟩
     ·simp[results,Tryz.results8,go_sem,ra0,ra1,re0,re1]
     ·obtain⟨v1,v2,T1,T2,h0,h1,h2,h3,g1,g2⟩:=HS.out;exact⟨v1,v2,T1,T2,h0,⟨h1.sl.kept xl hKF (fun i a b=>by have:=HL.out i (g1 i b);omega),h1.bd⟩,⟨h2.sl.kept qK hKF (fun i a b=>by have:=HL.out i (g2 i b);omega),h2.bd⟩,h3,g1,g2⟩
     ·have:=HL.out i hi;omega
     exact HB7.out.trans (hKF.below HB7.out.size (fun i e=>by omega))
    have HC:=q8 hc;clear hc
    go_wp2_with (go_at_call 22;refine HFf.out.mono ?_;rintro e W5 ⟨rfl,hb5⟩;have hO5:=HO2.out.below hb5;have HO5:=q8 hO5;have eO5:=hO5.cO.2;have eO5a:=hO5.cO.1;have zO5:=qd hO5.out;clear hb5 hO5)
    obtain⟨W6,hW6⟩:=nZ (W5.alloc (.cells #[Z 0,Z 0] 27));rw[←hW6];have hO6:=HO5.out.below (show Below W5.heap.size W5 W6 by rw[hW6];exact bZ);have HO6:=q8 hO6;have hG6:=hO6.glo.read xl bO fun _ _ _ h=>GloO.read h;have hF6:=(show SlQ 38 4 56 FunO W6 (.slice (some (J g 0)) ys.length c) ys S3 from⟨hO6.fn,by unfold reachBytes;omega⟩).read qK bO fun _ _ _ h=>FunO.read h;have HG6:=q8 hG6;have HF6:=q8 hF6;clear hW6 hO6 hG6 hF6 eO5 eO5a zO5
    have hG6:SliceAt W6 3 (GloR W6) p1 (qI u).globals:=by
     obtain⟨p,c,e,_,_,h⟩:=HG6.out.outC;cases e;exact h
    have hF6:SliceAt W6 4 (FunR W6) (some (J g 0)) ys:=by
     obtain⟨p,c,e,_,_,h⟩:=HF6.out.outC;cases e;exact h
    refine(tdo_bad { globals:=(qI u).globals,funcs:=ys } p1 (some (J g 0)) c1 c W6 hgl hG6 (by show ys.length*56<=_;omega) hF6 (HW.out.below HO6.out.b) HC.out).mono ?_;rintro e W7 ⟨rfl,hb7⟩;clear hG6 hF6;obtain⟨ch,hch⟩:=nZ (chk { globals:=(qI u).globals,funcs:=ys });rw[←hch];have HCh:=q8 hch;clear hch;have hRA:=(hb7.block _ (qd HO6.out.r1)).trans HO6.out.r1;have hRE:=(hb7.block _ (qd HO6.out.r2)).trans HO6.out.r2;have HB7:=q8 (HO6.out.b.trans (hb7.mono HO6.out.b.size));have HRA:=q8 hRA;have HRE:=q8 hRE;have htV:=hb7.size;have hz6:w.heap.size+1+1<W6.heap.size:=qd HO6.out.r2;obtain⟨ab,af⟩:=blk hRA;have ab0:=ab 0;have ab1:=ab 1;have az:=qd hRA;obtain⟨eb,ef⟩:=blk hRE;have eb0:=eb 0;have eb1:=eb 1;have ez:=qd hRE;simp only[zE,zB,zD]at ab0 ab1 eb0 eb1;clear hRA hRE hb7 ab eb
    go_wp2_with fail
    obtain⟨WF,hWF⟩:=nZ ((((W7.setCell (J (w.heap.size+1) 0) (.slice none 0 0)).setCell (J (w.heap.size+1) 1) (.slice none 0 0)).setCell (J (w.heap.size+1+1) 0) (Z ch.1)).setCell (J (w.heap.size+1+1) 1) (Z ch.2));rw[←hWF]
    have hKF:Kept (fun i=>i=w.heap.size+1\/i=w.heap.size+1+1) W7 WF:=by
     rw[hWF];have h0:Kept (fun i=>i=w.heap.size+1\/i=w.heap.size+1+1) W7 W7:=Kept.refl _ _;have h1:=h0.setCell (p:=(J (w.heap.size+1) 0)) (.inl rfl) (.slice none 0 0);have h2:=h1.setCell (p:=(J (w.heap.size+1) 1)) (.inl rfl) (.slice none 0 0);have h3:=h2.setCell (p:=(J (w.heap.size+1+1) 0)) (.inr rfl) (Z ch.1);exact h3.setCell (p:=(J (w.heap.size+1+1) 1)) (.inr rfl) (Z ch.2)
    have hFA:WF.heap[w.heap.size+1]?=some (.cells #[.slice none 0 0,.slice none 0 0] 25 (0,0)):=by
     rw[hWF,zJ _ ⟨w.heap.size+1+1,1,none⟩ _ _ (by show w.heap.size+1≠w.heap.size+1+1;omega),zJ _ ⟨w.heap.size+1+1,0,none⟩ _ _ (by show w.heap.size+1≠w.heap.size+1+1;omega),qj (qj HRA.out 0 _) 1 _];rfl
    have hFE:WF.heap[w.heap.size+1+1]?=some (.cells #[Z ch.1,Z ch.2] 27 (0,0)):=by
     have h0:((W7.setCell (J (w.heap.size+1) 0) (.slice none 0 0)).setCell (J (w.heap.size+1) 1) (.slice none 0 0)).heap[w.heap.size+1+1]?=some (.cells #[Z 0,Z 0] 27 (0,0)):=by
      rw[zJ _ ⟨w.heap.size+1,1,none⟩ _ _ (by show w.heap.size+1+1≠w.heap.size+1;omega),zJ _ ⟨w.heap.size+1,0,none⟩ _ _ (by show w.heap.size+1+1≠w.heap.size+1;omega)];exact HRE.out
     rw[hWF,qj (qj h0 0 _) 1 _];rfl
    clear hWF;have ra0:WF.cell? (J (w.heap.size+1) 0)=some (.slice none 0 0):=(blk hFA).1 0;have ra1:WF.cell? (J (w.heap.size+1) 1)=some (.slice none 0 0):=(blk hFA).1 1;have re0:WF.cell? (J (w.heap.size+1+1) 0)=some (Z ch.1):=(blk hFE).1 0;have re1:WF.cell? (J (w.heap.size+1+1) 1)=some (Z ch.2):=(blk hFE).1 1;simp only[Exit.jump];refine zk (v:=.tuple #[.agg #[.slice none 0 0,.slice none 0 0],.agg #[Z ch.1,Z ch.2]]) ?_ rfl ⟨⟨xs,ys,HDr.out,HT.out,HAl.out,.inr (.inl ⟨hjH.out,HC.out,by rw[HCh.out]⟩)⟩,?_⟩
    ·simp[results,Tryz.results8,go_sem,ra0,ra1,re0,re1]
    exact HB7.out.trans (hKF.below HB7.out.size (fun i e=>by omega))
 case first=>
  go_wp2_with fail
  refine(vy u _ _ _ _ _ hgl (jg HG.out bZ) hfl (vQ HF.out bZ) (HW.out.below bZ)).mono ?_;rintro e w1 ⟨rfl,hb1⟩;have HB1:Hid (Below w.heap.size w w1):=yo bZ (hb1.mono bW);have hU:=qg hb1 (k:=w.heap.size) bW (qh (qh (qB w _)));have hR:=qg hb1 (k:=w.heap.size+1) bV (qh (qr (w:=w.alloc (.cells #[.slice gp u.globals.length gc,.slice fp u.funcs.length fc] 25)) (o:=.cells #[.slice none 0 0,.slice none 0 0] 25) bV));have hR2:=qg hb1 (k:=w.heap.size+1+1) bV (qr (w:=(w.alloc (.cells #[.slice gp u.globals.length gc,.slice fp u.funcs.length fc] 25)).alloc (.cells #[.slice none 0 0,.slice none 0 0] 25)) (o:=.cells #[Z 0,Z 0] 27) bV);have HR:=q8 hR;have HR2:=q8 hR2;have HU:=q8 hU;obtain⟨hcu,hfu⟩:=blk hU;have zu:=qd hU;clear hb1 hR hR2 hU
  go_wp2_with fail
  obtain⟨w2,hw2⟩:=nZ (w1.alloc (.cells #[Z (chk u).1,Z (chk u).2] 27));rw[←hw2];have hb2:Below w1.heap.size w1 w2:=by rw[hw2];exact bZ
  have HB2:=q8 hb2;have hbG:=q8 (HB1.out.trans (hb2.mono (by have:=HB1.out.size;omega)));clear hw2 hb2 hcu hfu;refine(y9 u gp fp gc fc w2 hgl (SlF.mono HGs.out hbG.out bO fun _ _ h=>h.below hbG.out) hfl (SlF.mono HFs.out hbG.out bO fun _ _ h=>h.below hbG.out) (HW.out.below hbG.out) HH.out).mono ?_;rintro e w3 ⟨⟨p1,c1,p2,c2,rfl,S,hS,hL⟩,hb3⟩;have hU3:=(hb3.block _ (by have:=HB2.out.size;omega)).trans ((HB2.out.block _ zu).trans HU.out);have hR3:=(hb3.block _ (by have:=HB2.out.size;have:=qd HR.out;omega)).trans ((HB2.out.block _ (qd HR.out)).trans HR.out);have hqf:=(hb3.block _ (by have:=HB2.out.size;have:=qd HR2.out;omega)).trans ((HB2.out.block _ (qd HR2.out)).trans HR2.out);have HU3:=q8 hU3;have HR3:=q8 hR3;have hqh:=q8 hqf;have HS:=q8 hS;have HL:=q8 (show ∀i,S i->w2.heap.size<=i from hL);have HB3:=q8 (hbG.out.trans (hb3.mono hbG.out.size));obtain⟨hcu,hfu⟩:=blk hU3;have htW:=hcu 0;have htX:=hcu 1;have zu3:=qd hU3;clear hU3 hR3 hqf hS hL hb3 hcu zu
  go_wp2_with fail
  obtain⟨w4,hw4⟩:=nZ (((w3.setCell (J w.heap.size 0) (.slice p1 u.globals.length c1)).setCell (J w.heap.size 1) (.slice p2 u.funcs.length c2)).alloc (.cells #[Z 0,Z 0] 27));rw[←hw4]
  have hK4:Kept (fun b=>b=w.heap.size) w3 w4:=by
   rw[hw4];exact(((Kept.refl (fun b=>b=w.heap.size) w3).setCell (p:=(J w.heap.size 0)) rfl _).setCell (p:=(J w.heap.size 1)) rfl _).alloc _
  clear hw4;have hTl:(qI u).funcs.length=u.funcs.length:=by simp[qI]
  have hGl:(qI u).globals=u.globals:=rfl;have hz3:w.heap.size<w2.heap.size:=by have:=HB2.out.size;have:=qd HR.out;omega
  obtain⟨v1,v2,S1,S2,hv,q1,q2,hA,g1,g2⟩:=HS.out;simp only[List.cons.injEq,and_true]at hv;obtain⟨rfl,rfl⟩:=hv;have k1:=q1.loc xl (fun _ h=>h) (fun i hi=>hK4.block i (q1.sl.inb i hi) (fun e=>by have:=HL.out i (g1 i hi);omega)) hK4.size;have k2:=q2.loc qK (fun _ h=>h) (fun i hi=>hK4.block i (q2.sl.inb i hi) (fun e=>by have:=HL.out i (g2 i hi);omega)) hK4.size;rw[←hTl]at k2;have hcp:=copy_any (qI u) p1 p2 c1 c2 w4 (k1.read xl bO fun _ _ _ h=>h.read) (k2.read qK bO fun _ _ _ h=>h.read);rw[hTl]at hcp;have hz4:=hK4.size;have htY:=HB3.out.size;have HR4:=q8 ((hK4.block _ (qd HR3.out) bO).trans HR3.out);have hjI:=q8 ((hK4.block _ (qd hqh.out) bO).trans hqh.out);have HB4:=q8 (HB3.out.trans (hK4.below htY bO));clear q1 q2 hA g1 g2 k1 k2;refine hcp.mono ?_;rintro e w5 ⟨⟨p3,c3,p4,c4,rfl,S',hS',hL'⟩,hb5⟩;have HS5:=q8 hS';have HL5:=q8 (show ∀i,S' i->w4.heap.size<=i from hL');have HR5:=q8 ((hb5.block _ (qd HR4.out)).trans HR4.out);have hqp:=q8 ((hb5.block _ (qd hjI.out)).trans hjI.out);have HB5:=q8 (HB4.out.trans (hb5.mono HB4.out.size));have htZ:=q8 hb5.size;clear hS' hL' hb5 hcp htW htX
  go_wp2_with fail
  refine wp_label ?_;simp only[Exit.then]
  rename_i hK
  refine hK _ _ (hrest (Z7 (qI u).funcs) _ _ ?_);obtain⟨v1,v2,S1,S2,hv,q1,q2,hA,g1,g2⟩:=HS5.out;simp only[List.cons.injEq,and_true]at hv;obtain⟨rfl,rfl⟩:=hv
  have hnf:0<(qI u).funcs.length:=by
   obtain⟨m,hm,_⟩:=HK.out.main;have:=Va hm;omega
  obtain⟨g,c,_,_,hv2,hgz,_⟩:=q2.sl.focus qK bO hnf;simp only[Value.slice.injEq]at hv2;obtain⟨rfl,_,rfl⟩:=hv2;have hz5:=HB5.out.size;have hvZ:=htZ.out;rw[←hTl]at q2 ⊢;refine⟨w5.heap.size,g,c4,p3,c3,(qI u).funcs,S1,S2,⟨HB5.out.trans bZ,?_,?_,?_,?_,?_,?_,hA,?_,?_⟩,Dr.start,rfl,rfl,rfl,rfl,rfl,rfl⟩
  ·have:=qd hqp.out;omega
  ·exact qB _ _
  ·exact qh HR5.out
  ·exact qh hqp.out
  ·exact⟨q1.sl.below xl bZ,q1.bd⟩
  ·exact q2.sl.below qK bZ
  ·exact fun k hk=>⟨by have:=HL5.out k (g1 k hk);have:=qd hjI.out;omega,by have:=q1.sl.inb k hk;omega⟩
  exact fun k hk=>⟨by have:=HL5.out k (g2 k hk);have:=qd hjI.out;omega,by have:=q2.sl.inb k hk;omega⟩
end Go.Proofs.YtgjjhadbjmcnpaaGreatDoor
namespace Go.Proofs.YtgjjhadbjmcnpaaGreatDoor
open Go.RowKit

theorem ins_step {wo:World} {qp:Option Addr} {cp q:Nat} {ps:List InsL} {u:InsL->InsL} {S1:Blks} (h:SlO 51 8 InsO wo (.slice qp ps.length cp) (qG q u ps) S1) (hlt:q<ps.length) :
  ∃gp qs cs Tq,qp=some (J gp 0)/\S1 gp/\I64 ps[q].dst/\I64 ps[q].an/\I64 ps[q].bn/\(∀b,Tq b->S1 b)/\¬ Tq gp/\
   SlQ 44 2 16 jV wo (.slice qs ps[q].args.length cs) ps[q].args Tq/\RowPut wo wo 51 gp (q*8) 8 [Z ps[q].op,Z ps[q].dst,.bool ps[q].ar,Z ps[q].an,.bool ps[q].br,Z ps[q].bn,Z ps[q].fn,.slice qs ps[q].args.length cs]/\
   ∀W' (x':InsL),RowPut wo W' 51 gp (q*8) 8 [Z x'.op,Z x'.dst,.bool x'.ar,Z x'.an,.bool x'.br,Z x'.bn,Z x'.fn,.slice qs ps[q].args.length cs]->wo.heap.size<=W'.heap.size->(∀b,S1 b->¬ Tq b->b≠gp->W'.heap[b]?=wo.heap[b]?)->
    x'.op=ps[q].op->x'.fn=ps[q].fn->I64 x'.dst->I64 x'.an->I64 x'.bn->SlQ 44 2 16 jV W' (.slice qs ps[q].args.length cs) x'.args Tq->
    SlO 51 8 InsO W' (.slice qp ps.length cp) ((qG q u ps).set q x') S1:=by
 obtain⟨gp,c2,cs',Tq,hv2,hgz,hTg,hcl,hV,hnT,hTS,hce,hfz,⟨cur2,haa⟩,hput⟩:=h.focus qT bO (i:=q) (by rw[qO];exact hlt);rw[xh (by rw[qO];exact hlt) (zK _)]at hV;obtain⟨v,hcs,i1,i2,i3,i4,i5,hs⟩:=hV;subst hcs;obtain⟨qs,cs,rfl,_,_⟩:=hs.sl.val;refine⟨gp,qs,cs,Tq,by injection hv2,hTg,i2,i3,i4,hTS,hnT,hs,RowPut.same haa rfl hce,fun W' x' hp hz hk e1 e2 hd ha hb hs'=>?_⟩
 have h1:=hput W' _ x' Tq hp rfl (fun u hu=>by
   simp only[yC,yG,yl]at hu
   rcases hu with rfl|rfl|rfl|rfl|rfl|rfl|rfl|rfl<;>rfl) hz hk ⟨_,rfl,by rw[e1];exact i1,hd,ha,hb,by rw[e2];exact i5,hs'⟩ (fun b hb=>⟨.inl hb,hs'.sl.inb b hb⟩)
 exact h1.grow (fun b hb=>hb.elim id (hTS b)) (fun b hb=>by have:=h.inb b hb;omega)
theorem blk_both {wo:World} {qb:Option Addr} {cb b:Nat} {bs:List BlkL} {u:BlkL->BlkL} {TB:Blks} (h:SlO 49 6 BlkO wo (.slice qb bs.length cb) (qG b u bs) TB) (hlt:b<bs.length) :
  ∃gb qp cp ql cl v3 S1 S2,qb=some (J gb 0)/\TB gb/\(∀i,S1 i->TB i)/\(∀i,S2 i->TB i)/\¬ S1 gb/\¬ S2 gb/\Apart S1 S2/\I64 bs[b].fin.onn/\SlQ 84 2 32 PhiO wo (.slice qp bs[b].phis.length cp) bs[b].phis S1/\SlQ 51 8 80 InsO wo (.slice ql bs[b].list.length cl) bs[b].list S2/\
   RowPut wo wo 49 gb (b*6) 6 [.slice qp bs[b].phis.length cp,.slice ql bs[b].list.length cl,Z bs[b].fin.kind,.bool bs[b].fin.onr,Z bs[b].fin.onn,v3]/\
   ∀W' (ps:List PhiL) (ls:List InsL) (n:Int),RowPut wo W' 49 gb (b*6) 6 [.slice qp bs[b].phis.length cp,.slice ql bs[b].list.length cl,Z bs[b].fin.kind,.bool bs[b].fin.onr,Z n,v3]->wo.heap.size<=W'.heap.size->(∀i,TB i->¬ S1 i->¬ S2 i->i≠gb->W'.heap[i]?=wo.heap[i]?)->I64 n->SlQ 84 2 32 PhiO W' (.slice qp bs[b].phis.length cp) ps S1->SlQ 51 8 80 InsO W' (.slice ql bs[b].list.length cl) ls S2->
    SlO 49 6 BlkO W' (.slice qb bs.length cb) ((qG b u bs).set b { phis:=ps,list:=ls,fin:={ bs[b].fin with onn:=n } }) TB:=by
 obtain⟨gb,c2,cs',Ty,hv2,hgz,hTg,hcl,hV,hnT,hTS,hce,hfz,⟨cur2,haa⟩,hput⟩:=h.focus qM bO (i:=b) (by rw[qO];exact hlt);rw[xh (by rw[qO];exact hlt) (zK _)]at hV;obtain⟨v1,v2,v3,S1,S2,S3,hcs,j1,j2,h3,h4,h5,a1,a2,a3,g1,g2,g3⟩:=hV;subst hcs;obtain⟨qp,cp,rfl,_,_⟩:=h3.sl.val;obtain⟨q2,e2,rfl,_,_⟩:=h4.sl.val;obtain⟨q3,e3,rfl,_,_⟩:=h5.sl.val;refine⟨gb,qp,cp,q2,e2,_,S1,S2,by injection hv2,hTg,fun i hi=>hTS i (g1 i hi),fun i hi=>hTS i (g2 i hi),fun h=>hnT (g1 _ h),fun h=>hnT (g2 _ h),a1,j2,h3,h4,RowPut.same haa rfl hce,fun W' ps ls n hp hz hk hn hs' hl'=>?_⟩
 have h1:=hput W' _ { phis:=ps,list:=ls,fin:={ bs[b].fin with onn:=n } } Ty hp rfl (fun u hu=>by
   simp only[yC,yG,yl]at hu
   rcases hu with rfl|rfl|rfl|rfl|rfl|rfl<;>rfl) hz (fun i hi h1 h2=>hk i hi (fun h=>h1 (g1 i h)) (fun h=>h1 (g2 i h)) h2)
  ⟨_,_,_,S1,S2,S3,rfl,j1,hn,hs',hl',h5.loc xk (fun _ g=>g) (fun i hi=>hk i (hTS i (g3 i hi)) (fun h=>a2 i h hi) (fun h=>a3 i h hi) (fun e=>hnT (e ▸ g3 i hi))) hz,a1,a2,a3,g1,g2,g3⟩
  (fun i hi=>⟨.inl hi,by have:=h.inb i (hTS i hi);omega⟩)
 exact h1.grow (fun b hb=>hb.elim id (hTS b)) (fun b hb=>by have:=h.inb b hb;omega)

def NamAt (w:World) (nb no m:Nat) (g:Int->Int):Prop:=∀r:Nat,r<m->w.cell? (J nb (no+r))=some (Z (g r))
theorem NamAt.other {w w':World} {nb no m:Nat} {g:Int->Int} (h:NamAt w nb no m g) (e:w'.heap[nb]?=w.heap[nb]?):NamAt w' nb no m g:=fun r hr=>(zN (a:=(J nb (no+r))) e).trans (h r hr)
theorem ju (r:Bool) (n:Int) (nb no m c:Nat) (g:Int->Int) (w:World) (hN:NamAt w nb no m g) (hn:r=true->0<=n/\n<(m:Int)) :
  Calls Tryz.prog 101 #[.agg #[.bool r,Z n],.slice (some (J nb no)) m c] w fun e w'=>e = .returned (.agg #[.bool r,Z (toW g (r,n)).2])/\Below w.heap.size w w':=by
 cases r
 ·clear hn hN
  go_enter Tryz.func101,Tryz.ntmps101
  go_wp2_with fail
  refine zk (v:=.agg #[.bool false,Z n]) ?_ rfl ⟨rfl,by exact bZ⟩;obtain⟨hh,_⟩:=blk (qr (w:=w.alloc (.cells #[.bool false,Z n] 44)) (o:=.cells #[.bool false,Z n] 44) (k:=w.heap.size+1) bV);have h0:=hh 0;have h1:=hh 1;simp[results,Tryz.results101,go_sem,h0,h1]
 obtain⟨h0,h1⟩:=hn rfl;have e:=hN n.toNat bO;have en:((n.toNat:Nat):Int)=n:=by omega
 rw[en]at e;have ez:=q9 e;obtain⟨k,hk⟩:=nZ n.toNat;rw[←hk]at e en;subst en;have e1:(toW g (true,(k:Int))).2=g k:=rfl;rw[e1];clear hN hn hk e1
 go_enter Tryz.func101,Tryz.ntmps101
 go_wp2_with fail
 refine zk (v:=.agg #[.bool true,Z (g k)]) ?_ rfl ⟨rfl,by exact bZ⟩;obtain⟨hh,_⟩:=blk (qr (w:=w.alloc (.cells #[.bool true,Z (g k)] 44)) (o:=.cells #[.bool true,Z (g k)] 44) (k:=w.heap.size+1) bV);have h0:=hh 0;have h1:=hh 1;simp[results,Tryz.results101,go_sem,h0,h1]
end Go.Proofs.YtgjjhadbjmcnpaaGreatDoor
