/- The numbers of letters; the values of a letter. -/
import Derived.Test.YtmabhhngoklncaaGreatDoorL
set_option maxRecDepth 100000
set_option maxHeartbeats 40000000
set_option linter.all false
open Go.Lib renaming hid->rA
open Go renaming heap_setCell_other->rB,heap_setCell_same->rD,heap_alloc_new->rH,heap_alloc_old->rK,bodyPost_ret->rQ
open Go.Proofs.Tryz renaming prog->rC
open Go.World renaming cell?_of_block->rE,cell?->rO,frozen?->rR
open Nat renaming zero_le->rF,le_refl->rG,le_trans->rI,add_zero->rJ,lt_succ_self->rL,zero_mul->rM,not_lt_zero->rN,lt_of_lt_of_le->rP
open Go.Value renaming int->jI,slice->jS,pointer->jP,bool->jB,string->jT,agg->jG,tuple->jU
open Go.IntKind renaming i64->kQ
open Go.Ending renaming returned->jR
open Go Go.RowKit
namespace Go.Proofs.YtmabhhngoklncaaGreatDoor
variable {w:World}{l:List Sg}{a:Option Addr}{c B mb k i x n:Nat}{nm':ByteArray}{v:Int}
def LtR (w:World) (e:Ending) (w':World):Prop:=∃i o:Nat,1<=i/\1<=o/\i<=4096/\o<=4096/\e=jR (jU #[jI kQ ((i*o:Nat):Int),jI kQ i,jI kQ o])/\Gr w w'
theorem zR7 (hk:k<=6) (h:i<=4 ^ k):i<=4096:=rI h (rI (Nat.pow_le_pow_right (by decide) hk) (by decide))
theorem zEc {s:Nat} (h:i<=4 ^ k) (hs:s<=4):i*s<=4 ^ (k+1):=by rw[Nat.pow_succ];exact Nat.mul_le_mul h hs
theorem zKe {y a b:Nat} (h1:x<=a) (h2:y<=b):0<=(x:Int)*(y:Int)/\(x:Int)*(y:Int)<=((a*b:Nat):Int):=by
 have h:((x*y:Nat):Int)<=((a*b:Nat):Int):=Int.ofNat_le.2 (Nat.mul_le_mul h1 h2);rw[<-Int.natCast_mul];exact⟨by omega,h⟩
theorem zD0 (h:SgV w (jS a l.length c) l) (hw:SgW l):Calls rC 358 #[jS a l.length c] w (LtR w):=by
 have H:=rA h;have HW:=rA hw;have hl6:=hw.2.1;clear h hw;go_enter Tryz.func358,Tryz.ntmps358;go_wp2_with fail;go_loopw [3,4,9] (fun ti tq i wr=>∃(k x y:Nat),k<=l.length/\i=jI kQ k/\ti=jI kQ x/\tq=jI kQ y/\1<=x/\1<=y/\Hid (Gr w wr/\x<=4 ^ k/\y<=4 ^ k)) (fun _ _ i _=>l.length - (intOf i).toNat)
 case atStart=>exact⟨0,1,1,rF _,rfl,rfl,rfl,by omega,by omega,rA ⟨Gr.refl _,by decide,by decide⟩⟩
 case round=>
  obtain⟨k,x,y,hk,rfl,rfl,rfl,hx1,hy1,HR⟩:=hrel;have hx:=zR7 (by omega) HR.out.2.1;have hy:=zR7 (by omega) HR.out.2.2;by_cases hlt:k<l.length;rotate_left
  ·have hdk:=dF hlt
   obtain⟨hm0,hm1⟩:=zKe hx hy;go_wp2_with fail;refine rQ (results_tmp3 rfl _ _ _) rfl ?_;exact⟨x,y,hx1,hy1,hx,hy,by simp,HR.out.1⟩
  have hdk:=dT hlt
  obtain⟨b,o,rfl,c0,c1,c2,hns⟩:=(H.out.keep HR.out.1.1).at hlt;have hkl:(k:Int)<(l.length:Int):=by omega
  obtain⟨S,hS⟩:∃S:Nat,l[k].size=S:=⟨l[k].size.toNat,by have:=HW.out.2.2 k hlt;omega⟩;have hS2:2<=S/\S<=4:=by have:=HW.out.2.2 k hlt;omega
  obtain⟨hS2,hS4⟩:=hS2;rw[hS] at c2;have HPX:=rA (zEc HR.out.2.1 hS4);have HPY:=rA (zEc HR.out.2.2 hS4);obtain⟨hmx0,hmx⟩:=zKe hx hS4;obtain⟨hmy0,hmy⟩:=zKe hy hS4;have HX1:Hid (1<=x*S):=rA (Nat.mul_pos (by omega) (by omega));have HY1:Hid (1<=y*S):=rA (Nat.mul_pos (by omega) (by omega));have HP1:Hid (4 ^ k<=4 ^ (k+1)):=rA (Nat.pow_le_pow_right (by decide) (by omega));clear hS;generalize l[k].name=nm at*;generalize l[k].input=inp at*;cases inp with
  |true=>
   go_wp2_with fail;go_roundw
   case rel=>exact⟨k+1,x*S,y,by omega,by go_num,by simp,rfl,HX1.out,by omega,rA ⟨HR.out.1.trans (Gr.alloc _ _),HPX.out,rI HR.out.2.2 HP1.out⟩⟩
   case measure=>simp[intOf];omega
  |false=>
   go_wp2_with fail;go_roundw
   case rel=>exact⟨k+1,x,y*S,by omega,by go_num,rfl,by simp,by omega,HY1.out,rA ⟨HR.out.1.trans (Gr.alloc _ _),rI HR.out.2.1 HP1.out,HPY.out⟩⟩
   case measure=>simp[intOf];omega
def zRn (w:World) (e:Ending) (w':World):Prop:=∃mb,e=jR (.map (some mb))/\AMap w' mb KStr KInt/\w.heap.size<=mb/\Gr w w'
theorem zH9 (h:SgV w (jS a l.length c) l) (hw:SgW l) (hx:x<=100000000):Calls rC 394 #[jS a l.length c,jI kQ x] w (zRn w):=by
 have H:=rA h;have HW:=rA hw;have hl6:=hw.2.1;clear h hw;have hmm:=xK 244;go_enter Tryz.func394,Tryz.ntmps394;go_upto_region 2 with fail;clear hmm;have HM:Hid (AMap (w.alloc (.map #[] 0)) w.heap.size KStr KInt):=rA (AMap.made _ _ _);have HG:=rA (Gr.alloc w (.map #[] 0));generalize w.alloc (.map #[] 0)=w1 at*;go_wp2_with fail;go_loopw [1,11] (fun t i wr=>∃(k x:Nat),k<=l.length/\i=jI kQ k/\t=jI kQ x/\x<=100000000/\Hid (Gr w wr/\AMap wr w.heap.size KStr KInt)) (fun _ i _=>l.length - (intOf i).toNat)
 case atStart=>exact⟨0,x,rF _,rfl,rfl,hx,rA ⟨HG.out,HM.out⟩⟩
 case round=>
  clear hx;obtain⟨k,x,hk,rfl,rfl,hx,HR⟩:=hrel;by_cases hlt:k<l.length;rotate_left
  ·have hdk:=dF hlt
   go_wp2_with fail;go_ret;exact⟨_,rfl,HR.out.2,rG _,HR.out.1⟩
  have hdk:=dT hlt
  obtain⟨b,o,rfl,c0,c1,c2,hns⟩:=(H.out.keep HR.out.1.1).at hlt;have hkl:(k:Int)<(l.length:Int):=by omega
  obtain⟨S,hS⟩:∃S:Nat,l[k].size=S:=⟨l[k].size.toNat,by have:=HW.out.2.2 k hlt;omega⟩;have hS2:2<=S/\S<=4:=by have:=HW.out.2.2 k hlt;omega
  obtain⟨hS2,hS4⟩:=hS2;rw[hS] at c2;clear hS;generalize l[k].name=nm at*;generalize l[k].input=inp at*;have hS0:((S:Int)==0)=false:=by rw[beq_eq_false_iff_ne];omega
  have hne:¬S=0:=by omega
  go_upto_region 5 with fail;have HAM:Hid (∀(o:Obj) (n:Nat),AMap ((wr.alloc o).drewN n) w.heap.size KStr KInt):=rA fun o n=>HR.out.2.gr ((Gr.alloc _ _).trans (Gr.drawn _ _))
  have HGA:Hid (∀o:Obj,Gr w ((wr.alloc o).drewN 1)):=rA fun o=>HR.out.1.trans ((Gr.alloc _ _).trans (Gr.drawn _ _))
  have HLT:Hid (wr.heap.size≠w.heap.size):=rA (by have:=HR.out.2.lt;omega);have e2:=zI wr #[jT nm,jB inp,jI kQ S] 68 2;simp only[List.getElem?_toArray,List.getElem?_cons_succ,List.getElem?_cons_zero] at e2;clear c0 c1 c2 hns;have hAM:AMap (wr.alloc (.cells #[jT nm,jB inp,jI kQ S] 68)).drew w.heap.size KStr KInt:=HAM.out _ 1;obtain⟨w5,hrun,hA5,ht5⟩:=hAM.update zQP Tryz.underlying244 (key:=jT nm) (val:=jI kQ ((x:Int).tmod S)) ⟨_,rfl⟩ ⟨_,rfl⟩;have e25:w5.cell? ⟨wr.heap.size,2,none⟩=some (jI kQ S):=(rE (zT ht5 HLT.out)).trans e2;have HG5:=rA (And.intro ((HGA.out (.cells #[jT nm,jB inp,jI kQ S] 68)).turned ht5 (rG _)) hA5);clear hA5 ht5 hAM HAM HGA;obtain⟨q,hq⟩:∃q:Nat,(x:Int) / (S:Int)=q:=⟨x / S,by simp⟩;have hq1:q<=100000000:=by
   have h1:(x:Int) / (S:Int)<=x:=Int.ediv_le_self S (by omega);omega
  go_region;all_goals clear hrun e2
  all_goals go_wp2_with fail
  all_goals go_roundw
  all_goals first|(case rel=>exact⟨k+1,q,by omega,by go_num,rfl,hq1,HG5⟩)|skip
  all_goals (simp[intOf];omega)
def qS (w:World) (e:Ending) (w':World):Prop:=∃b:Bool,e=jR (jB b)/\Gr w w'
theorem zRd {nm:ByteArray}{inp:Bool}{sz:Int} (h1:w.cell? ⟨B,1,none⟩=some (jT nm')) (h2:w.cell? ⟨B,2,none⟩=some (jI kQ v)) (hB:B<w.heap.size):Calls rC 378 #[jG #[jT nm,jB inp,jI kQ sz],jP (some ⟨B,0,none⟩)] w (qS w):=by
 have k1:∀o:Obj,(w.alloc o).cell? ⟨B,1,none⟩=some (jT nm'):=fun o=>(rE (rK _ _ hB)).trans h1
 have k2:∀o:Obj,(w.alloc o).cell? ⟨B,2,none⟩=some (jI kQ v):=fun o=>(rE (rK _ _ hB)).trans h2
 have HG:=rA (fun o=>Gr.alloc w o);clear h1 h2;go_enter Tryz.func378,Tryz.ntmps378;go_wp2_with fail;all_goals go_ret
 all_goals exact⟨_,rfl,HG.out _⟩
theorem zRh (h:SgV w (jS a l.length c) l) (h1:w.cell? ⟨B,1,none⟩=some (jT nm')) (h2:w.cell? ⟨B,2,none⟩=some (jI kQ v)) (hB:B<w.heap.size):
  Calls rC 387 #[jS a l.length c,.func (.func 378) #[] #[jP (some ⟨B,0,none⟩)]] w (zB9 w):=by
 have hlen:=h.len;have H:=rA h;have HC:Hid (∀W,Gr w W->∀s:Sg,Calls rC 378 #[jG #[jT s.name,jB s.input,jI kQ s.size],jP (some ⟨B,0,none⟩)] W (qS W)):=rA fun W hg s=>zRd ((hg.1.cell (p:=⟨B,1,none⟩) hB).trans h1) ((hg.1.cell (p:=⟨B,2,none⟩) hB).trans h2) (rP hB hg.1.size)
 clear h h1 h2;go_enter Tryz.func387,Tryz.ntmps387;go_wp2_with fail;go_loopw [8] (fun i wr=>∃k:Nat,k<=l.length/\i=jI kQ k/\Hid (Gr w wr)) (fun i _=>l.length - (intOf i).toNat)
 case atStart=>exact⟨0,rF _,rfl,rA (Gr.refl _)⟩
 case round=>
  obtain⟨k,hk,rfl,HR⟩:=hrel;by_cases hlt:k<l.length;rotate_left
  ·have hd:=dF hlt
   go_wp2_with fail;go_ret;exact⟨_,rfl,HR.out⟩
  have hd:=dT hlt
  obtain⟨b,o,rfl,c0,c1,c2,hns⟩:=(H.out.keep HR.out.1).at hlt;have hkl:(k:Int)<(l.length:Int):=by omega
  have HQ:=rA (HC.out _ HR.out l[k]);generalize l[k]=s at*;obtain⟨nm,inp,sz⟩:=s;dsimp only at*;go_wp2_with fail;refine HQ.out.mono ?_;rintro e w5 ⟨q,rfl,hg5⟩;have HG5:=rA (HR.out.trans hg5);clear hg5 HQ c0 c1 c2;cases q with
  |true=>
   go_wp2_with fail;go_ret;exact⟨_,rfl,HG5.out⟩
  |false=>
   go_wp2_with fail;go_roundw
   case rel=>exact⟨k+1,by omega,by go_num,HG5⟩
   case measure=>simp[intOf];omega
theorem zRQ (h:SgV w (jS a l.length c) l) (h1:w.cell? ⟨B,1,none⟩=some (jT nm')) (h2:w.cell? ⟨B,2,none⟩=some (jI kQ v)) (hB:B<w.heap.size):
  Calls rC 377 #[jS a l.length c,.func (.func 378) #[] #[jP (some ⟨B,0,none⟩)]] w (qS w):=by
 have HC:=rA (zRh h h1 h2 hB);clear h h1 h2;go_enter Tryz.func377,Tryz.ntmps377;go_wp2_with fail;refine HC.out.mono ?_;rintro e w5 ⟨d,rfl,hg5⟩;have HG5:=rA hg5;clear hg5;go_wp2_with fail;go_ret;exact⟨_,rfl,HG5.out⟩
def zQk (l:List Sg) (n:Nat):Prop:=∀(a:Option Addr) (c:Nat) (x:Fe) (w:World),SgV w (jS a l.length c) l->x.args.nodes<n->x.ok w->Calls rC 365 #[jS a l.length c,jG x.enc.toArray] w (qS w)
theorem zOr (IH:zQk l n) (az:Option Addr) (cs:Nat) (x:Fe) (w:World) (hs:SgV w (jS az l.length cs) l) (hn:x.args.nodes<=n) (hx:x.ok w):Calls rC 365 #[jS az l.length cs,jG x.enc.toArray] w (qS w):=by
 have hbx:=zBQ w x;have hg:=Gr.alloc w (.cells x.enc.toArray 33);have HI:=rA IH;have HA:=rA (hx.1.keep hg.1);have hL:=hx.2.2.1;have HG:=rA hg;have HN:=rA hn;have HSG:=rA (hs.keep hg.1);have HSZ:Hid (w.heap.size<(w.alloc (.cells x.enc.toArray 33)).heap.size):=rA (by simp);clear IH hx hg hs;obtain⟨op,nm,v,bd,ar,a,c⟩:=x;dsimp only[Fe.enc] at*;obtain⟨s0,s1,s2,s3,s4⟩:=hbx;go_enter Tryz.func365,Tryz.ntmps365;go_upto_region 1 with fail;generalize w.alloc _=w1 at*;by_cases h3:op=3
 ·subst h3
  have HC:=rA (zRQ HSG.out s1 s2 HSZ.out);go_wp2_with fail;refine HC.out.mono ?_;rintro e w5 ⟨b,rfl,hg5⟩;have HG5:=rA (HG.out.trans hg5);clear hg5;go_wp2_with fail;go_ret;exact⟨b,rfl,HG5.out⟩
 have d3:(op==(3:Int))=false:=by simpa using h3
 clear h3;go_wp2_with fail;go_loopw [16] (fun i wr=>∃k:Nat,k<=ar.len/\i=jI kQ k/\Hid (Gr w wr/\Gr w1 wr)) (fun i _=>ar.len - (intOf i).toNat)
 case atStart=>exact⟨0,rF _,rfl,rA ⟨HG.out,Gr.refl _⟩⟩
 case round=>
  obtain⟨k,hk,rfl,HR⟩:=hrel;clear s0 s1 s2 s3 s4;by_cases hlt:k<ar.len;rotate_left
  ·have hd:=dF hlt
   go_wp2_with fail;go_ret;exact⟨_,rfl,HR.out.1⟩
  have hd:=dT hlt
  obtain⟨b1,o1,y,rfl,hb1,hdy,hyo,hyn,c0,c1,c2,c3,c4⟩:=(HA.out.keep HR.out.2.1).elem hlt;have hkl:(k:Int)<(ar.len:Int):=by omega
  have HW:Hid (∀A:Obj,Calls rC 365 #[jS az l.length cs,jG y.enc.toArray] (wr.alloc A) (qS (wr.alloc A))):=rA fun A=>HI.out az cs y _ (HSG.out.keep (HR.out.2.trans (Gr.alloc wr A)).1) (by have:=HN.out;omega) (Fe.ok_keep hyo (Gr.alloc wr A).1)
  have HRG:=rA HR.out.1;have HRG1:=rA HR.out.2;clear hyo hdy hyn HR;go_wp2_with fail;refine(HW.out _).mono ?_;rintro e w5 ⟨d,rfl,hg5⟩;have HG5:=rA (And.intro (HRG.out.trans ((Gr.alloc _ _).trans hg5)) (HRG1.out.trans ((Gr.alloc _ _).trans hg5)));clear hg5 HW;cases d with
  |false=>
   go_wp2_with fail;go_ret;exact⟨_,rfl,HG5.out.1⟩
  |true=>
   go_wp2_with fail;go_roundw
   case rel=>exact⟨k+1,by omega,by go_num,HG5⟩
   case measure=>simp[intOf];omega
theorem zQ2 (l:List Sg):∀n,zQk l n
 |0=>fun _ _ _ _ _ h=>absurd h (rN _)
 |n+1=>fun a c x w hs h hx=>zOr (zQ2 l n) a c x w hs (Nat.lt_succ_iff.1 h) hx
theorem zLu {x:Fe} (hs:SgV w (jS a l.length c) l) (hx:x.ok w):Calls rC 365 #[jS a l.length c,jG x.enc.toArray] w (qS w):=zQ2 l _ a c x w hs (rL _) hx
theorem AMap.look452 (h:AMap w mb KStr KInt) (x:ByteArray):∃y:Int,∀n:Nat,(Instr.lookup 452 (.map (some mb)) (jT x) false).run rC (w.drewN n)=.ok (jI kQ y) (w.drewN n):=by
 obtain⟨v,b,h1,h2⟩:=h.look zQP Tryz.underlying452 zKE (show KStr (jT x) from⟨x,rfl⟩);obtain⟨y,rfl⟩:∃y,v=jI kQ y:=by
  rcases h2 with⟨_,y,rfl⟩|⟨_,rfl⟩
  ·exact⟨y,rfl⟩
  ·exact⟨0,rfl⟩
 exact⟨y,fun n=>h1 false n⟩
theorem ArL.at {f:Fs} {k:Nat} {y:Fe} (h:ArL f) (hd:f.drop k=.cons y.op y.nm y.v y.bd y.args (f.drop (k+1))):y.ar:=by
 have:=h.drop k;rw[hd] at this;exact⟨this.1,this.2.1⟩
def zNs (mb n:Nat):Prop:=∀(x:Fe) (w:World),AMap w mb KStr KInt->x.args.nodes<n->x.ok w->x.ar->Calls rC 395 #[.map (some mb),jG x.enc.toArray] w (qS w)
theorem zMi (IH:zNs mb n) (x:Fe) (w:World) (hm:AMap w mb KStr KInt) (hn:x.args.nodes<=n) (hx:x.ok w) (hr:x.ar):Calls rC 395 #[.map (some mb),jG x.enc.toArray] w (qS w):=by
 have hbx:=zBQ w x;have hg:=Gr.alloc w (.cells x.enc.toArray 33);have hL:=hx.2.2.1;have HG:=rA hg;have HM:=rA (hm.gr hg);have HAR:=rA hr.1;have HE:Hid (∀W,Gr (w.alloc (.cells x.enc.toArray 33)) W->∀k,k<x.args.len->∃(b o:Nat) (y:Fe),x.a=some ⟨b,o,none⟩/\
   W.cell? ⟨b,o+k*5,none⟩=some (jI kQ y.op)/\W.cell? ⟨b,o+k*5+1,none⟩=some (jT y.nm)/\W.cell? ⟨b,o+k*5+2,none⟩=some (jI kQ y.v)/\W.cell? ⟨b,o+k*5+3,none⟩=some (jI kQ y.bd)/\W.cell? ⟨b,o+k*5+4,none⟩=some (jS y.a y.args.len y.c)/\
   ∀W',Gr W W'->Calls rC 395 #[.map (some mb),jG y] W' (qS W')):=rA fun W hW k hk=>by
  obtain⟨b1,o1,y,e,hb1,hdy,hyo,hyn,c0,c1,c2,c3,c4⟩:=(hx.1.keep (hg.trans hW).1).elem hk;exact⟨b1,o1,y,e,c0,c1,c2,c3,c4,fun W' h'=>IH y W' (hm.gr ((hg.trans hW).trans h')) (by omega) (Fe.ok_keep hyo h'.1) (hr.2.at hdy)⟩
 clear IH hx hg hr hm;obtain⟨op,nm,v,bd,ar,a,c⟩:=x;dsimp only[Fe.enc] at*;obtain⟨s0,s1,s2,s3,s4⟩:=hbx;have HV:Hid (∀W,Gr (w.alloc (.cells #[jI kQ op,jT nm,jI kQ v,jI kQ bd,jS a ar.len c] 33)) W->W.cell? ⟨w.heap.size,2,none⟩=some (jI kQ v)/\W.cell? ⟨w.heap.size,4,none⟩=some (jS a ar.len c)):=rA fun W hW=>by
  have hl:w.heap.size<(w.alloc (.cells #[jI kQ op,jT nm,jI kQ v,jI kQ bd,jS a ar.len c] 33)).heap.size:=by simp
  exact⟨(hW.1.cell (p:=⟨w.heap.size,2,none⟩) hl).trans s2,(hW.1.cell (p:=⟨w.heap.size,4,none⟩) hl).trans s4⟩
 go_enter Tryz.func395,Tryz.ntmps395;go_upto_region 1 with fail;generalize w.alloc _=w1 at*;generalize hB:w.heap.size=B at*;by_cases h1:op=1
 ·subst h1
  go_wp2_with fail;go_ret;exact⟨_,rfl,HG.out⟩
 have d1:(op==(1:Int))=false:=by simpa using h1
 clear h1;by_cases h3:op=3
 ·subst h3
  obtain⟨z,hz⟩:=HM.out.look452 nm;have hlk:=hz 0;simp only[show∀W:World,W.drewN 0=W from fun _=>rfl] at hlk;clear hz;go_wp2_with fail;go_ret;exact⟨_,rfl,HG.out⟩
 have d3:(op==(3:Int))=false:=by simpa using h3
 clear h3;by_cases h4:op=4
 ·subst h4
  have hl1:ar.len=1:=HAR.out.1 (.inl rfl);obtain⟨b1,o1,y,rfl,c0,c1,c2,c3,c4,hc⟩:=HE.out w1 (Gr.refl _) 0 (by omega);have hlt:(0:Int)<(ar.len:Int):=by omega
  have HC:=rA (hc w1 (Gr.refl _));simp only[rM,rJ] at c0 c1 c2 c3 c4;clear hl1 hc;go_wp2_with fail;refine HC.out.mono ?_;rintro e w5 ⟨b,rfl,hg5⟩;have HG5:=rA (HG.out.trans hg5);clear hg5;go_wp2_with fail;go_ret;exact⟨_,rfl,HG5.out⟩
 have d4:(op==(4:Int))=false:=by simpa using h4
 clear h4;by_cases h5:op=5
 ·subst h5
  go_wp2_with fail;go_loopw [36] (fun i wr=>∃k:Nat,k<=ar.len/\i=jI kQ k/\Hid (Gr w wr/\Gr w1 wr)) (fun i _=>ar.len - (intOf i).toNat)
  case atStart=>exact⟨0,rF _,rfl,rA ⟨HG.out,Gr.refl _⟩⟩
  case round=>
   obtain⟨k,hk,rfl,HR⟩:=hrel;clear s0 s1 s2 s3 s4;by_cases hlt:k<ar.len;rotate_left
   ·have hd:=dF hlt
    go_wp2_with fail;go_ret;exact⟨_,rfl,HR.out.1⟩
   have hd:=dT hlt
   obtain⟨b1,o1,y,rfl,c0,c1,c2,c3,c4,hc⟩:=HE.out wr HR.out.2 k hlt;have hkl:(k:Int)<(ar.len:Int):=by omega
   have HW:=rA (fun A:Obj=>hc _ (Gr.alloc wr A));have HRG:=rA HR.out;clear hc HR;go_wp2_with fail;refine(HW.out _).mono ?_;rintro e w5 ⟨b,rfl,hg5⟩;have HG5:=rA (And.intro (HRG.out.1.trans ((Gr.alloc _ _).trans hg5)) (HRG.out.2.trans ((Gr.alloc _ _).trans hg5)));clear hg5 HW;cases b with
   |false=>
    go_wp2_with fail;go_ret;exact⟨_,rfl,HG5.out.1⟩
   |true=>
    go_wp2_with fail;go_roundw
    case rel=>exact⟨k+1,by omega,by go_num,HG5⟩
    case measure=>simp[intOf];omega
 have d5:(op==(5:Int))=false:=by simpa using h5
 clear h5;by_cases h6:op=6
 ·subst h6
  go_wp2_with fail;go_loopw [50] (fun i wr=>∃k:Nat,k<=ar.len/\i=jI kQ k/\Hid (Gr w wr/\Gr w1 wr)) (fun i _=>ar.len - (intOf i).toNat)
  case atStart=>exact⟨0,rF _,rfl,rA ⟨HG.out,Gr.refl _⟩⟩
  case round=>
   obtain⟨k,hk,rfl,HR⟩:=hrel;clear s0 s1 s2 s3 s4;by_cases hlt:k<ar.len;rotate_left
   ·have hd:=dF hlt
    go_wp2_with fail;go_ret;exact⟨_,rfl,HR.out.1⟩
   have hd:=dT hlt
   obtain⟨b1,o1,y,rfl,c0,c1,c2,c3,c4,hc⟩:=HE.out wr HR.out.2 k hlt;have hkl:(k:Int)<(ar.len:Int):=by omega
   have HW:=rA (fun A:Obj=>hc _ (Gr.alloc wr A));have HRG:=rA HR.out;clear hc HR;go_wp2_with fail;refine(HW.out _).mono ?_;rintro e w5 ⟨b,rfl,hg5⟩;have HG5:=rA (And.intro (HRG.out.1.trans ((Gr.alloc _ _).trans hg5)) (HRG.out.2.trans ((Gr.alloc _ _).trans hg5)));clear hg5 HW;cases b with
   |true=>
    go_wp2_with fail;go_ret;exact⟨_,rfl,HG5.out.1⟩
   |false=>
    go_wp2_with fail;go_roundw
    case rel=>exact⟨k+1,by omega,by go_num,HG5⟩
    case measure=>simp[intOf];omega
 have d6:(op==(6:Int))=false:=by simpa using h6
 clear h6;by_cases h15:op=15
 ·subst h15
  go_wp2_with fail;go_ret;exact⟨_,rfl,HG.out⟩
 have d15:(op==(15:Int))=false:=by simpa using h15
 clear h15;by_cases h16:op=16
 ·subst h16
  have hl2:ar.len=2:=HAR.out.2 (.inr (.inr (.inl rfl)));have hlt:(1:Int)<(ar.len:Int):=by omega
  have hlt0:(0:Int)<(ar.len:Int):=by omega
  have HL2:=rA hl2;obtain⟨b1,o1,y,rfl,c0,c1,c2,c3,c4,hc⟩:=HE.out w1 (Gr.refl _) 1 (by omega);have HC:=rA (hc w1 (Gr.refl _));simp only[Nat.one_mul] at c0 c1 c2 c3 c4;clear hl2 hc;go_wp2_with fail;refine HC.out.mono ?_;rintro e w5 ⟨b,rfl,hg5⟩;obtain⟨v5,a5⟩:=HV.out _ hg5;obtain⟨b2,o2,z,e2,q0,q1,q2,q3,q4,hc⟩:=HE.out w5 hg5 0 (by have:=HL2.out;omega);simp only[Option.some.injEq,Addr.mk.injEq] at e2;obtain⟨rfl,rfl, -⟩:=e2;simp only[rM,rJ] at q0 q1 q2 q3 q4;have HD:=rA (hc w5 (Gr.refl _));have HG5:=rA (HG.out.trans hg5);clear hg5 hc HC c0 c1 c2 c3 c4 s0 s1 s2 s3 s4;cases b with
  |true=>
   go_wp2_with fail;go_ret;exact⟨_,rfl,HG5.out⟩
  |false=>
   by_cases hv:v=1
   ·subst hv
    go_wp2_with fail;refine HD.out.mono ?_;rintro e w6 ⟨b,rfl,hg6⟩;have HG6:=rA (HG5.out.trans hg6);clear hg6;go_wp2_with fail;go_ret;exact⟨_,rfl,HG6.out⟩
   ·have hdv:(v==(1:Int))=false:=by simpa using hv
    clear hv;go_wp2_with fail;go_ret;exact⟨_,rfl,HG5.out⟩
 have d16:(op==(16:Int))=false:=by simpa using h16
 clear h16;by_cases h17:op=17
 ·subst h17
  have hl2:ar.len=2:=HAR.out.2 (.inr (.inr (.inr rfl)));have hlt:(1:Int)<(ar.len:Int):=by omega
  have hlt0:(0:Int)<(ar.len:Int):=by omega
  have HL2:=rA hl2;obtain⟨b1,o1,y,rfl,c0,c1,c2,c3,c4,hc⟩:=HE.out w1 (Gr.refl _) 1 (by omega);have HC:=rA (hc w1 (Gr.refl _));simp only[Nat.one_mul] at c0 c1 c2 c3 c4;clear hl2 hc;go_wp2_with fail;refine HC.out.mono ?_;rintro e w5 ⟨b,rfl,hg5⟩;obtain⟨v5,a5⟩:=HV.out _ hg5;obtain⟨b2,o2,z,e2,q0,q1,q2,q3,q4,hc⟩:=HE.out w5 hg5 0 (by have:=HL2.out;omega);simp only[Option.some.injEq,Addr.mk.injEq] at e2;obtain⟨rfl,rfl, -⟩:=e2;simp only[rM,rJ] at q0 q1 q2 q3 q4;have HD:=rA (hc w5 (Gr.refl _));have HG5:=rA (HG.out.trans hg5);clear hg5 hc HC c0 c1 c2 c3 c4 s0 s1 s2 s3 s4;cases b with
  |false=>
   go_wp2_with fail;go_ret;exact⟨_,rfl,HG5.out⟩
  |true=>
   by_cases hv:v=1
   ·subst hv
    go_wp2_with fail;go_ret;exact⟨_,rfl,HG5.out⟩
   ·have hdv:(v==(1:Int))=false:=by simpa using hv
    clear hv;go_wp2_with fail;refine HD.out.mono ?_;rintro e w6 ⟨b,rfl,hg6⟩;have HG6:=rA (HG5.out.trans hg6);clear hg6;go_wp2_with fail;go_ret;exact⟨_,rfl,HG6.out⟩
 have d17:(op==(17:Int))=false:=by simpa using h17
 clear h17;go_wp2_with fail;go_ret;exact⟨_,rfl,HG.out⟩
theorem zPF (mb:Nat):∀n,zNs mb n
 |0=>fun _ _ _ h=>absurd h (rN _)
 |n+1=>fun x w hm h hx hr=>zMi (zPF mb n) x w hm (Nat.lt_succ_iff.1 h) hx hr
theorem zDc {x:Fe} (hm:AMap w mb KStr KInt) (hx:x.ok w) (hr:x.ar):Calls rC 395 #[.map (some mb),jG x.enc.toArray] w (qS w):=zPF mb _ x w hm (rL _) hx hr
theorem Fs.len_le:∀f:Fs,f.len<=f.nodes
 | .nil=>rG _
 | .cons _ _ _ _ a r=>by
  have:=Fs.len_le r;simp only[Fs.len,Fs.nodes];omega
def orP (p:Nat->Bool) (m:Nat):Nat->Bool:=fun k=>p k||k==m
theorem zD {p:Nat->Bool} {m k:Nat}:orP p m k=false↔p k=false/\k≠m:=by simp[orP]
theorem vM {q q':Nat->Bool} {W W':World} (hg:Gr W W') (hq:∀k,q k=false->q' k=false):Sub (dim q W) (dim q' W'):=zE hg.1.size fun k hk hp=>⟨hq k hp,hg.1.block k hk⟩
theorem Fe.ok_up {q:Nat->Bool} {W:World} {x:Fe} (h:x.ok (dim q W)):x.ok W:=Fe.ok_sub _ _ _ (vS q W) h
structure FmB (p:Nat->Bool) (W:World) (m n:Nat) (A:List Fe):Prop where
 blk:∃cs,W.heap[m]? =some (.cells cs 33 (0,0))/\cs.size=n*5/\∀j (h:j<A.length) c,c<5->cs[j*5+c]? =(A[j].enc)[c]?
 els:∀x∈A,x.ok (dim (orP p m) W)
 le:A.length<=n
def set5 (w:World) (g o:Nat) (a b c d e:Value):World:=((((w.setCell ⟨g,o,none⟩ a).setCell ⟨g,o+1,none⟩ b).setCell ⟨g,o+2,none⟩ c).setCell ⟨g,o+3,none⟩ d).setCell ⟨g,o+4,none⟩ e
section
variable {p:Nat->Bool} {w W W':World} {m n o:Nat} {A:List Fe}
theorem yX {a b c d e:Value} {k:Nat} (h:k≠m):(set5 W m o a b c d e).heap[k]? =W.heap[k]? :=by
 unfold set5;rw[rB _ _ _ _ (by simpa using h),rB _ _ _ _ (by simpa using h),rB _ _ _ _ (by simpa using h),rB _ _ _ _ (by simpa using h),rB _ _ _ _ (by simpa using h)]
theorem zHt {a b c d e:Value}:(set5 W m o a b c d e).heap.size=W.heap.size:=by simp[set5]
theorem Gr.setCell (h:Gr w W) {j:Nat} (hm:w.heap.size<=m) (v:Value):Gr w (W.setCell ⟨m,j,none⟩ v):=
 ⟨⟨h.1.os,h.1.tape,h.1.output,by simpa using h.1.size,fun k hk=>(rB _ _ _ _ (by simp;omega)).trans (h.1.block k hk)⟩,h.2⟩
theorem Gr.set5 {a b c d e:Value} (h:Gr w W) (hm:w.heap.size<=m):Gr w (set5 W m o a b c d e):=
 Gr.setCell (Gr.setCell (Gr.setCell (Gr.setCell (Gr.setCell h hm a) hm b) hm c) hm d) hm e
theorem Gr.put5 {a b c d e:Value} (h:Gr w W) (hm:w.heap.size<=m):Gr w (put5 W m a b c d e):=
 Gr.setCell (Gr.setCell (Gr.setCell (Gr.setCell (Gr.setCell h hm a) hm b) hm c) hm d) hm e
theorem FmB.made (p:Nat->Bool) (W:World) (z:Array Value) (hz:(madeCells z (n*5)).size=n*5):FmB p (W.alloc (.cells (madeCells z (n*5)) 33)) W.heap.size n []:=
 ⟨⟨_,rH _ _,hz,fun j hj=>by simp at hj⟩,fun x hx=>(by cases hx),rF _⟩
theorem FmB.lt (h:FmB p W m n A):m<W.heap.size:=by
 obtain⟨cs,hb,_⟩:=h.blk;exact(Array.getElem?_eq_some_iff.1 hb).1
theorem FmB.at (h:FmB p W m n A) {j:Nat} (hj:j<n*5):∃u,W.cell? ⟨m,j,none⟩=some u:=by
 obtain⟨cs,hb,hs,_⟩:=h.blk;exact⟨cs[j]'(by omega),by simp[rO,hb,show j<cs.size by omega]⟩
theorem FmB.frozen (h:FmB p W m n A) (j:Nat):W.frozen? ⟨m,j,none⟩=false:=by
 obtain⟨cs,hb,hs,_⟩:=h.blk;simp[rR,hb]
theorem FmB.block (h:FmB p W m n A) (hb:W'.heap[m]? =W.heap[m]?) (hs:Sub (dim (orP p m) W) (dim (orP p m) W')):FmB p W' m n A:=by
 obtain⟨cs,h1,h2⟩:=h.blk;exact⟨⟨cs,hb.trans h1,h2⟩,fun x hx=>Fe.ok_sub _ _ _ hs (h.els x hx),h.le⟩
theorem FmB.gr (h:FmB p W m n A) (hg:Gr W W'):FmB p W' m n A:=h.block (hg.1.block _ h.lt) (vM hg fun _ hk=>hk)
theorem FmB.push (h:FmB p W m n A) {z:Fe} (hz:z.ok (dim (orP p m) W)) (hn:A.length<n):FmB p (set5 W m (A.length*5) (jI kQ z.op) (jT z.nm) (jI kQ z.v) (jI kQ z.bd) (jS z.a z.args.len z.c)) m n (A++[z]):=by
 obtain⟨cs,h1,h2,h3⟩:=h.blk;have e1:=rD W m (A.length*5) _ 33 (jI kQ z.op) h1;have e2:=rD _ m (A.length*5+1) _ 33 (jT z.nm) e1;have e3:=rD _ m (A.length*5+2) _ 33 (jI kQ z.v) e2;have e4:=rD _ m (A.length*5+3) _ 33 (jI kQ z.bd) e3;have e5:=rD _ m (A.length*5+4) _ 33 (jS z.a z.args.len z.c) e4;have hsub:Sub (dim (orP p m) W) (dim (orP p m) (set5 W m (A.length*5) (jI kQ z.op) (jT z.nm) (jI kQ z.v) (jI kQ z.bd) (jS z.a z.args.len z.c))):=zE (Nat.le_of_eq zHt.symm) fun k hk hp=>⟨hp,yX (zD.1 hp).2⟩
 refine⟨⟨_,e5,by simp[h2],fun j hj c hc=>?_⟩,fun x hx=>?_,by simp;omega⟩
 ·simp only[Array.getElem?_setIfInBounds]
  by_cases hjl:j<A.length
  ·have g:∀i,i<5->A.length*5+i≠j*5+c:=fun i hi=>by omega
   have g0:=g 0 (by omega);rw[rJ] at g0;rw[if_neg (g 4 (by omega)),if_neg (g 3 (by omega)),if_neg (g 2 (by omega)),if_neg (g 1 (by omega)),if_neg g0,List.getElem_append_left hjl];exact h3 j hjl c hc
  ·have hje:j=A.length:=by simp at hj;omega
   subst hje;have hsz:∀i,i<5->A.length*5+i<cs.size:=fun i hi=>by omega
   have hs0:A.length*5<cs.size:=by omega
   simp only[List.getElem_concat_length,Fe.enc,Array.size_setIfInBounds]
   match c,hc with
   |0,_=>simp[hs0]
   |1,_=>simp[hsz 1 (by omega)]
   |2,_=>simp[hsz 2 (by omega)]
   |3,_=>simp[hsz 3 (by omega)]
   |4,_=>simp[hsz 4 (by omega)]
 ·rcases List.mem_append.1 hx with hx|hx
  ·exact Fe.ok_sub _ _ _ hsub (h.els x hx)
  ·simp only[List.mem_singleton] at hx
   subst hx;exact Fe.ok_sub _ _ _ hsub hz
theorem FmB.done (h:FmB p W m n A) (hn:A.length=n) (hp:p m=false):FArgs (dim p W) (some ⟨m,0,none⟩) (Fe.forest A):=fun h0=>by
 obtain⟨cs,h1,h2,h3⟩:=h.blk;refine⟨m,0,rfl,by rw[zW];exact h.lt,Fe.at A 0 (fun j hj c u hc hu=>?_) fun x hx=>Fe.ok_sub _ _ _ (zE (rG _) fun k _ hk=>⟨(zD.1 hk).1,rfl⟩) (h.els x hx)⟩;rw[vQ hp,Nat.zero_add];have:=h3 j hj c hc;simp only[rO,h1];rw[if_neg (by simp),this];exact hu
end
def zO:Array Value:= #[jI kQ 0,jT ⟨#[]⟩,jI kQ 0,jI kQ 0,jS none 0 0]
theorem zPu:(Tryz.prog.info? 33).map (fun i=>(i.zero,i.size,i.bytes))=some (some (jG zO),5,64):=by kernel_rfl
theorem zGR {n:Nat} (hn:n<=1000000000) (W:World):(Instr.makeSlice 31 (jI kQ (n:Int)) (jI kQ (n:Int))).run rC W=.ok (jS (some ⟨W.heap.size,0,none⟩) n n) (W.alloc (.cells (madeCells zO (n*5)) 33)):=by
 obtain⟨it,hit,hz,hs,hby⟩:=info_parts zPu;have:=run_make (P:=rC) (w:=W) 31 33 it _ Tryz.underlying31 hit hz .i64 .i64 (n:Int) (n:Int) (by omega) (Int.le_refl _) (by rw[hby];omega) (by omega);rw[hs] at this;exact this
theorem zNY {tmps:Array Value} {W:World} {g:Nat} {a b c d e:Value} (hp:tmps.getD 4 undef=jP (some ⟨g,0,none⟩)) (h:W.heap[g]? =some (.cells #[a,b,c,d,e] 33 (0,0))):
  (results Tryz.f438 tmps).run rC W=.ok (jG #[a,b,c,d,e]) W:=
 zGp rfl hp h fun W' h0 h1 h2 h3 h4=>by simp[go_sem,h0,h1,h2,h3,h4]
def FmR (p:Nat->Bool) (w:World) (P:Fe->Prop) (e:Ending) (w':World):Prop:=∃z:Fe,e=jR (jG z)/\z.ok (dim p w')/\P z/\Gr w w'
theorem zBA (wr:World) (y:Fe):∀W,Gr (wr.alloc (.cells y 33)) W->W.cell? ⟨wr.heap.size,0,none⟩=some (jI kQ y.op)/\W.cell? ⟨wr.heap.size,1,none⟩=some (jT y.nm)/\W.cell? ⟨wr.heap.size,2,none⟩=some (jI kQ y.v)/\W.cell? ⟨wr.heap.size,3,none⟩=some (jI kQ y.bd)/\W.cell? ⟨wr.heap.size,4,none⟩=some (jS y.a y.args.len y.c):=fun W hW=>by
 have hb:=(hW.1.block wr.heap.size (by simp)).trans (rH wr _);simp[rO,hb]
theorem zA {W:World} {b:Nat} {c0 c1 c2 c3 c4:Value} (h:W.heap[b]? =some (.cells #[c0,c1,c2,c3,c4] 33 (0,0))):W.cell? ⟨b,0,none⟩=some c0/\W.cell? ⟨b,1,none⟩=some c1/\W.cell? ⟨b,2,none⟩=some c2/\W.cell? ⟨b,3,none⟩=some c3/\W.cell? ⟨b,4,none⟩=some c4/\W.frozen? ⟨b,0,none⟩=false/\W.frozen? ⟨b,1,none⟩=false/\W.frozen? ⟨b,2,none⟩=false/\W.frozen? ⟨b,3,none⟩=false/\W.frozen? ⟨b,4,none⟩=false:=by
 simp[rO,rR,h]
structure AgP (w W:World) (op:Int) (nm:ByteArray) (v v0 bd:Int) (a:Option Addr) (n c:Nat):Prop where
 gr:Gr w W
 b3:W.heap[w.heap.size]? =some (.cells #[jI kQ op,jT nm,jI kQ v0,jI kQ bd,jS a n c] 33 (0,0))
 b4:W.heap[w.heap.size+1]? =some (.cells zO 33 (0,0))
 b5:W.heap[w.heap.size+2]? =some (.cells #[jI kQ op,jT nm,jI kQ v,jI kQ bd,jS a n c] 33 (0,0))
structure AgS (p:Nat->Bool) (w W:World) (M:Nat) (op:Int) (nm:ByteArray) (v bd:Int) (ar:Fs) (a:Option Addr) (c:Nat) (A:List Fe):Prop where
 gr:Gr w W
 b3:W.cell? ⟨w.heap.size,4,none⟩=some (jS a ar.len c)
 l3:w.heap.size<W.heap.size
 b4:W.heap[w.heap.size+1]? =some (.cells zO 33 (0,0))
 b5:W.heap[w.heap.size+2]? =some (.cells #[jI kQ op,jT nm,jI kQ v,jI kQ bd,jS (some ⟨M,0,none⟩) ar.len ar.len] 33 (0,0))
 row:FmB (orP p (w.heap.size+1)) W M ar.len A
 lt:w.heap.size+3<=M
section
variable {p:Nat->Bool} {w W W':World} {M n c:Nat} {op v v0 bd:Int} {nm:ByteArray} {a:Option Addr} {ar:Fs} {A:List Fe} {x:Fe}
theorem AgP.gr' (h:AgP w W op nm v v0 bd a n c) (hg:Gr W W'):AgP w W' op nm v v0 bd a n c:=
 ⟨h.gr.trans hg,(hg.1.block _ (Array.getElem?_eq_some_iff.1 h.b3).1).trans h.b3,(hg.1.block _ (Array.getElem?_eq_some_iff.1 h.b4).1).trans h.b4,(hg.1.block _ (Array.getElem?_eq_some_iff.1 h.b5).1).trans h.b5⟩
theorem AgP.setV (h:AgP w W op nm v v0 bd a n c) (u:Int):AgP w (W.setCell ⟨w.heap.size+2,2,none⟩ (jI kQ u)) op nm u v0 bd a n c:=
 ⟨Gr.setCell h.gr (by omega) _,(rB _ _ _ _ (by simp)).trans h.b3,(rB _ _ _ _ (by simp)).trans h.b4,by rw[rD W _ 2 _ 33 _ h.b5];rfl⟩
theorem AgP.put6 (h:AgP w W op nm v v0 bd a n c) {b:Nat} (hb:w.heap.size+3<=b) (c0 c1 c2 c3 c4:Value):AgP w (put5 W b c0 c1 c2 c3 c4) op nm v v0 bd a n c:=
 ⟨Gr.put5 h.gr (by omega),(zJ (by omega)).trans h.b3,(zJ (by omega)).trans h.b4,(zJ (by omega)).trans h.b5⟩
theorem AgP.cells3 (h:AgP w W op nm v v0 bd a n c):W.cell? ⟨w.heap.size,0,none⟩=some (jI kQ op)/\W.cell? ⟨w.heap.size,1,none⟩=some (jT nm)/\W.cell? ⟨w.heap.size,2,none⟩=some (jI kQ v0)/\W.cell? ⟨w.heap.size,3,none⟩=some (jI kQ bd)/\W.cell? ⟨w.heap.size,4,none⟩=some (jS a n c):=by
 obtain⟨h0,h1,h2,h3,h4, -⟩:=zA h.b3;exact⟨h0,h1,h2,h3,h4⟩
theorem AgP.cells5 (h:AgP w W op nm v v0 bd a n c):W.cell? ⟨w.heap.size+2,0,none⟩=some (jI kQ op)/\W.cell? ⟨w.heap.size+2,1,none⟩=some (jT nm)/\W.cell? ⟨w.heap.size+2,2,none⟩=some (jI kQ v)/\W.cell? ⟨w.heap.size+2,3,none⟩=some (jI kQ bd)/\W.cell? ⟨w.heap.size+2,4,none⟩=some (jS a n c)/\W.frozen? ⟨w.heap.size+2,0,none⟩=false/\W.frozen? ⟨w.heap.size+2,1,none⟩=false/\W.frozen? ⟨w.heap.size+2,2,none⟩=false/\W.frozen? ⟨w.heap.size+2,3,none⟩=false/\W.frozen? ⟨w.heap.size+2,4,none⟩=false:=zA h.b5
theorem AgP.made {z:Array Value} (h:AgP w W op nm v v0 bd a ar.len c) (hz:(madeCells z (ar.len*5)).size=ar.len*5):AgS p w ((W.alloc (.cells (madeCells z (ar.len*5)) 33)).setCell ⟨w.heap.size+2,4,none⟩ (jS (some ⟨W.heap.size,0,none⟩) ar.len ar.len)) W.heap.size op nm v bd ar a c []:=by
 have h':=h.gr' (Gr.alloc W (.cells (madeCells z (ar.len*5)) 33));have hl:=(Array.getElem?_eq_some_iff.1 h.b5).1;have hm:=FmB.made (orP p (w.heap.size+1)) W (n:=ar.len) z hz;refine⟨Gr.setCell h'.gr (by omega) _,?_,?_,(rB _ _ _ _ (by simp)).trans h'.b4,by rw[rD _ _ 4 _ 33 _ h'.b5];rfl,⟨by obtain⟨cs,h1,h2⟩:=hm.blk;exact⟨cs,(rB _ _ _ _ (by simp;omega)).trans h1,h2⟩,fun x hx=>(by cases hx),rF _⟩,by omega⟩
 ·rw[rE (rB _ _ _ _ (by simp))]
  exact h'.cells3.2.2.2.2
 ·simp;omega
theorem AgS.gr' (h:AgS p w W M op nm v bd ar a c A) (hg:Gr W W'):AgS p w W' M op nm v bd ar a c A:=
 ⟨h.gr.trans hg,(hg.1.cell (p:=⟨w.heap.size,4,none⟩) h.l3).trans h.b3,rP h.l3 hg.1.size,(hg.1.block _ (Array.getElem?_eq_some_iff.1 h.b4).1).trans h.b4,(hg.1.block _ (Array.getElem?_eq_some_iff.1 h.b5).1).trans h.b5,h.row.gr hg,h.lt⟩
theorem AgS.cell3 (h:AgS p w W M op nm v bd ar a c A):True/\True/\True/\True/\W.cell? ⟨w.heap.size,4,none⟩=some (jS a ar.len c):=⟨trivial,trivial,trivial,trivial,h.b3⟩
theorem AgS.cells4 (h:AgS p w W M op nm v bd ar a c A):W.cell? ⟨w.heap.size+1,0,none⟩=some (jI kQ 0)/\W.cell? ⟨w.heap.size+1,1,none⟩=some (jT ⟨#[]⟩)/\W.cell? ⟨w.heap.size+1,2,none⟩=some (jI kQ 0)/\W.cell? ⟨w.heap.size+1,3,none⟩=some (jI kQ 0)/\W.cell? ⟨w.heap.size+1,4,none⟩=some (jS none 0 0)/\W.frozen? ⟨w.heap.size+1,0,none⟩=false/\W.frozen? ⟨w.heap.size+1,1,none⟩=false/\W.frozen? ⟨w.heap.size+1,2,none⟩=false/\W.frozen? ⟨w.heap.size+1,3,none⟩=false/\W.frozen? ⟨w.heap.size+1,4,none⟩=false:=zA h.b4
theorem AgS.cells5 (h:AgS p w W M op nm v bd ar a c A):W.cell? ⟨w.heap.size+2,0,none⟩=some (jI kQ op)/\W.cell? ⟨w.heap.size+2,1,none⟩=some (jT nm)/\W.cell? ⟨w.heap.size+2,2,none⟩=some (jI kQ v)/\W.cell? ⟨w.heap.size+2,3,none⟩=some (jI kQ bd)/\W.cell? ⟨w.heap.size+2,4,none⟩=some (jS (some ⟨M,0,none⟩) ar.len ar.len):=by
 obtain⟨h0,h1,h2,h3,h4, -⟩:=zA h.b5;exact⟨h0,h1,h2,h3,h4⟩
theorem AgS.push (h:AgS p w W M op nm v bd ar a c A) {z:Fe} (hz:z.ok (dim (orP (orP p (w.heap.size+1)) M) W)) (hn:A.length<ar.len):AgS p w (set5 W M (A.length*5) (jI kQ z.op) (jT z.nm) (jI kQ z.v) (jI kQ z.bd) (jS z.a z.args.len z.c)) M op nm v bd ar a c (A++[z]):=by
 have hl:=h.lt;exact⟨Gr.set5 h.gr (by omega),by rw[rE (yX (by show w.heap.size≠M;omega))];exact h.b3,by rw[zHt];exact h.l3,(yX (by omega)).trans h.b4,(yX (by omega)).trans h.b5,h.row.push hz hn,h.lt⟩
theorem AgS.fin (h:AgS p w W M op nm v bd ar a c A) (hp:∀k,w.heap.size<=k->p k=false) (hA:A.length=ar.len) (hN:(Fe.forest A).nodes=ar.nodes) (hnm:nm.size<=9223372036854775807) (hL:ar.len<=9223372036854775807):
  FmR p w (fun z=>z.args.nodes=ar.nodes) (jR (jG #[jI kQ op,jT nm,jI kQ v,jI kQ bd,jS (some ⟨M,0,none⟩) ar.len ar.len])) (put5 W (w.heap.size+1) (jI kQ op) (jT nm) (jI kQ v) (jI kQ bd) (jS (some ⟨M,0,none⟩) ar.len ar.len)):=by
 have hl:=h.lt;have hlen:(Fe.forest A).len=ar.len:=by rw[Fe.forest_len,hA]
 refine⟨⟨op,nm,v,bd,Fe.forest A,some ⟨M,0,none⟩,ar.len⟩,by simp only[hlen],⟨?_,hnm,by show(Fe.forest A).len<=_;rw[hlen];exact hL,by show(Fe.forest A).len<=_;rw[hlen];exact rG _⟩,hN,Gr.put5 h.gr (by omega)⟩;have hr:FmB (orP p (w.heap.size+1)) (put5 W (w.heap.size+1) (jI kQ op) (jT nm) (jI kQ v) (jI kQ bd) (jS (some ⟨M,0,none⟩) ar.len ar.len)) M ar.len A:=by
  refine h.row.block (zJ (by omega)) (zE (by rw[yJ];exact rG _) fun k hk hq=>⟨hq,zJ (zD.1 (zD.1 hq).1).2⟩)
 exact(hr.done hA (zD.2 ⟨hp M (by omega),by omega⟩)).on (zE (rG _) fun k _ hk=>⟨(zD.1 hk).1,rfl⟩)
end
def zOK (mb n:Nat):Prop:=∀(p:Nat->Bool) (x:Fe) (w:World),(∀k,w.heap.size<=k->p k=false)->AMap w mb KStr KInt->x.args.nodes<n->x.args.nodes<=1000000000->x.ok (dim p w)->x.ar->Calls rC 438 #[.map (some mb),jG x] w (FmR p w (fun z=>z.args.nodes=x.args.nodes))
theorem zOn {p:Nat->Bool} {w:World} {a:Option Addr} {ar:Fs} (hf:FArgs (dim p w) a ar) (hr:ArL ar):∀W,Gr w W->∀k,k<ar.len->∃(b o:Nat) (y:Fe),a=some ⟨b,o,none⟩/\
  W.cell? ⟨b,o+k*5,none⟩=some (jI kQ y.op)/\W.cell? ⟨b,o+k*5+1,none⟩=some (jT y.nm)/\W.cell? ⟨b,o+k*5+2,none⟩=some (jI kQ y.v)/\W.cell? ⟨b,o+k*5+3,none⟩=some (jI kQ y.bd)/\W.cell? ⟨b,o+k*5+4,none⟩=some (jS y.a y.args.len y.c)/\
  (∀W',Gr w W'->∀M,w.heap.size<=M->y.ok (dim (orP (orP p (w.heap.size+1)) M) W'))/\y.ar/\y.args.nodes<ar.nodes/\zU ar (k+1)=zU ar k+(y.args.nodes+1):=fun W hW k hk=>by
 obtain⟨b1,o1,y,e,hb1,hdy,hyo,hyn,c0,c1,c2,c3,c4⟩:=hf.elem hk;have hs:Sub (dim p w) W:=(vM hW fun _ h=>h).trans (vS p W);refine⟨b1,o1,y,e,hs.cell c0,hs.cell c1,hs.cell c2,hs.cell c3,hs.cell c4,fun W' hW' M hM=>Fe.ok_sub _ _ _ (zE hW'.1.size fun q hq hp=>⟨zD.2 ⟨zD.2 ⟨hp,by omega⟩,by omega⟩,hW'.1.block q hq⟩) hyo,hr.at hdy,hyn,zX hdy⟩
theorem zNN {mb n:Nat} (IH:zOK mb n) (p:Nat->Bool) (x:Fe) (w:World) (hpp:∀k,w.heap.size<=k->p k=false) (hm:AMap w mb KStr KInt) (hn:x.args.nodes<=n) (h9:x.args.nodes<=1000000000) (hx:x.ok (dim p w)) (hr:x.ar):
  Calls rC 438 #[.map (some mb),jG x] w (FmR p w (fun z=>z.args.nodes=x.args.nodes)):=by
 have HX:=rA hx;have HXU:=rA (Fe.ok_up hx);have HXR:=rA hr;have HM:=rA hm;have HPP:=rA hpp;have HI:=rA IH;have HN:=rA hn;have HN9:=rA h9;have HE:=rA (zOn hx.1 hr.2);have hL9:x.args.len<=1000000000:=rI (Fs.len_le _) h9;have HLC:Hid (x.nm.size<=9223372036854775807/\x.args.len<=9223372036854775807):=rA ⟨hx.2.1,hx.2.2.1⟩;clear IH hx hr hm hpp hn h9;obtain⟨op,nm,v,bd,ar,a,c⟩:=x;dsimp only at*;go_enter Tryz.func438,Tryz.ntmps438;go_upto_region 1 with fail;have HW:Hid (∀W,W=(w.alloc (.cells #[jI kQ op,jT nm,jI kQ v,jI kQ bd,jS a ar.len c] 33)).alloc (.cells zO 33)->Gr w W/\W.heap[w.heap.size]? =some (.cells #[jI kQ op,jT nm,jI kQ v,jI kQ bd,jS a ar.len c] 33 (0,0))/\W.heap[w.heap.size+1]? =some (.cells zO 33 (0,0))/\W.heap.size=w.heap.size+2):=rA fun W e=>by
  subst e;have s1:(w.alloc (.cells #[jI kQ op,jT nm,jI kQ v,jI kQ bd,jS a ar.len c] 33)).heap.size=w.heap.size+1:=by simp
  refine⟨(Gr.alloc _ _).trans (Gr.alloc _ _),(rK _ _ (by simp)).trans (rH w _),by rw[<-s1,rH],by simp⟩
 unfold zO at HW;obtain⟨g1,b3,b4,hs1⟩:=HW.out _ rfl;clear HW;generalize (w.alloc _).alloc _=w1 at*;have HG1:=rA g1;have HB3:=rA b3;have HB4:=rA b4;obtain⟨q0,q1,q2,q3,q4, -⟩:=zA b3;clear g1 b3 b4;by_cases hl0:ar.len=0
 ·have hd0:((ar.len:Int)==0)=true:=by simp[hl0]
  obtain⟨k40,k41,k42,k43,k44,f40,f41,f42,f43,f44⟩:=zA HB4.out;have HEND:Hid (FmR p w (fun z=>z.args.nodes=ar.nodes) (jR (jG #[jI kQ op,jT nm,jI kQ v,jI kQ bd,jS a ar.len c])) (put5 w1 (w.heap.size+1) (jI kQ op) (jT nm) (jI kQ v) (jI kQ bd) (jS a ar.len c))):=rA ⟨⟨op,nm,v,bd,ar,a,c⟩,rfl,Fe.ok_sub _ _ _ (vM (Gr.put5 HG1.out (by omega)) fun _ h=>h) HX.out,rfl,Gr.put5 HG1.out (by omega)⟩;have hE:=rA (yA (a:=jI kQ op) (b:=jT nm) (c:=jI kQ v) (d:=jI kQ bd) (e:=jS a ar.len c) HB4.out);clear hl0;go_wp2_with fail;exact rQ (zNY rfl hE.out) rfl HEND.out
 have hd0:((ar.len:Int)==0)=false:=by rw[beq_eq_false_iff_ne];omega
 have HL0:Hid (0<ar.len):=rA (by omega);clear hl0;go_upto_region 4 with fail;have HP:Hid (AgP w (w1.alloc (.cells #[jI kQ op,jT nm,jI kQ v,jI kQ bd,jS a ar.len c] 33)) op nm v v bd a ar.len c):=rA ⟨HG1.out.trans (Gr.alloc _ _),(rK _ _ (by omega)).trans HB3.out,(rK _ _ (by omega)).trans HB4.out,by rw[<-hs1,rH]⟩;generalize w1.alloc (.cells #[jI kQ op,jT nm,jI kQ v,jI kQ bd,jS a ar.len c] 33)=w4 at*;rename_i K1 hK1 K0 hK0;have HREST:Hid (∀(u6 u15 u16 u17 u18 u19 u20 u21 u22 u23 u24 u25 u26 u27 u28 u29 u30:Value) (v':Int) (W:World),AgP w W op nm v' v bd a ar.len c->K1 ⟨#[.map (some mb),jG #[jI kQ op,jT nm,jI kQ v,jI kQ bd,jS a ar.len c],undef,jP (some ⟨w.heap.size,0,none⟩),jP (some ⟨w.heap.size+1,0,none⟩),jP (some ⟨w.heap.size+2,0,none⟩),u6,undef,undef,jP (some ⟨w.heap.size,4,none⟩),jS a ar.len c,jI kQ ar.len,jB false,undef,jG #[jI kQ op,jT nm,jI kQ v,jI kQ bd,jS a ar.len c],u15,u16,u17,u18,u19,u20,u21,u22,u23,u24,u25,u26,u27,u28,u29,u30,undef,undef,undef,undef,undef,undef,undef,undef,undef,undef,undef,undef,undef,undef,undef,undef,undef,undef,undef,undef,undef,undef],[]⟩ W):=rA (by
  intro u6 u15 u16 u17 u18 u19 u20 u21 u22 u23 u24 u25 u26 u27 u28 u29 u30 v' wv HP;have HP:=rA HP;refine hK1 _ _ ?_;clear hK0 hK1 q0 q1 q2 q3 q4;have hmk:∀W:World,(Instr.makeSlice 31 (jI kQ (ar.len:Int)) (jI kQ (ar.len:Int))).run rC W=.ok (jS (some ⟨W.heap.size,0,none⟩) ar.len ar.len) (W.alloc (.cells (madeCells zO (ar.len*5)) 33)):=zGR hL9;obtain⟨k30,k31,k32,k33,k34⟩:=HP.out.cells3;obtain⟨k50,k51,k52,k53,k54,f50,f51,f52,f53,f54⟩:=HP.out.cells5;have HPA:Hid (∀o:Obj,(wv.alloc o).cell? ⟨w.heap.size+2,4,none⟩=some (jS a ar.len c)/\(wv.alloc o).frozen? ⟨w.heap.size+2,4,none⟩=false/\(wv.alloc o).cell? ⟨w.heap.size,4,none⟩=some (jS a ar.len c)):=rA fun o=>by
   have h:=(HP.out.gr' (Gr.alloc wv o));exact⟨h.cells5.2.2.2.2.1,h.cells5.2.2.2.2.2.2.2.2.2,h.cells3.2.2.2.2⟩
  obtain⟨a54,af4,a34⟩:=HPA.out (.cells (madeCells zO (ar.len*5)) 33);go_upto_region 12 with fail;have HS0:=rA (HP.out.made (z:=zO) (p:=p) (size_madeCells _ _));clear hmk k30 k31 k32 k33 k34 k50 k51 k52 k53 k54 f50 f51 f52 f53 f54 HPA af4 a54 a34;generalize hM:wv.heap.size=M at*;generalize (wv.alloc (.cells (madeCells zO (ar.len*5)) 33)).setCell ⟨w.heap.size+2,4,none⟩ (jS (some ⟨M,0,none⟩) ar.len ar.len)=w8 at*;have k34:=HS0.out.cell3.2.2.2.2;go_wp2_with fail;go_loopw [39] (fun i wr=>∃(k:Nat) (A:List Fe),k<=ar.len/\i=jI kQ k/\Hid (AgS p w wr M op nm v' bd ar a c A/\A.length=k/\(Fe.forest A).nodes=zU ar k)) (fun i _=>ar.len - (intOf i).toNat)
  case atStart=>exact⟨0,[],rF _,rfl,rA ⟨HS0.out,rfl,by cases ar<;>rfl⟩⟩
  case round=>
   clear k34 HS0;obtain⟨k,A,hk,rfl,HR⟩:=hrel;by_cases hlt:k<ar.len;rotate_left
   ·have hd:=dF hlt
    obtain⟨k50,k51,k52,k53,k54⟩:=HR.out.1.cells5;obtain⟨k40,k41,k42,k43,k44,f40,f41,f42,f43,f44⟩:=HR.out.1.cells4;have hkl:k=ar.len:=by omega
    have HEND:=rA (HR.out.1.fin (hp:=HPP.out) (by rw[HR.out.2.1];exact hkl) (by rw[HR.out.2.2,vR (by omega)]) HLC.out.1 HLC.out.2);have hE:=rA (yA (a:=jI kQ op) (b:=jT nm) (c:=jI kQ v') (d:=jI kQ bd) (e:=jS (some ⟨M,0,none⟩) ar.len ar.len) HR.out.1.b4);clear hkl;go_wp2_with fail;exact rQ (zNY rfl hE.out) rfl HEND.out
   have hd:=dT hlt
   obtain⟨b1,o1,y,rfl,c0,c1,c2,c3,c4,hyo,hyr,hyn,hnt⟩:=HE.out wr HR.out.1.gr k hlt;have hkl:(k:Int)<(ar.len:Int):=by omega
   have HY:=rA hyo;have HYR:=rA hyr;have HYN:=rA hyn;have HNT:=rA hnt;have HRW:=rA (HR.out.1.gr' (Gr.alloc wr (.cells y 33)));have HBX:=rA (zBA wr y);have HAL:=rA (And.intro HR.out.2.1 HR.out.2.2);clear hyo hyr hyn hnt HR;go_upto_region 15 with fail;generalize hw9:wr.alloc (.cells y 33)=w9 at*;have HW9:=rA hw9;have k54:=HRW.out.cells5.2.2.2.2;obtain⟨y0,y1,y2,y3,y4⟩:=HBX.out w9 (Gr.refl _);clear hw9;have HC:Hid (Calls rC 438 #[.map (some mb),jG y] (w9.drewN 1) (FmR (orP (orP p (w.heap.size+1)) M) (w9.drewN 1) (fun z=>z.args.nodes=y.args.nodes))):=rA (by
    have hg:Gr w (w9.drewN 1):=HRW.out.gr.trans (Gr.drawn _ 1);exact HI.out (orP (orP p (w.heap.size+1)) M) y _ (fun q hq=>by have:=HRW.out.row.lt;exact zD.2 ⟨zD.2 ⟨HPP.out q (rI hg.1.size hq),by have:w9.heap.size<=q:=hq;have:=HRW.out.lt;omega⟩,by have:w9.heap.size<=q:=hq;omega⟩) (HM.out.gr hg) (by have:=HYN.out;have:=HN.out;omega) (by have:=HYN.out;have:=HN9.out;omega) (HY.out _ hg M (by have:=HRW.out.lt;omega)) HYR.out)
   have HST:Hid (∀(w5:World) (z:Fe),Gr (w9.drewN 1) w5->z.ok (dim (orP (orP p (w.heap.size+1)) M) w5)->z.args.nodes=y.args.nodes->w5.cell? ⟨w.heap.size+2,4,none⟩=some (jS (some ⟨M,0,none⟩) ar.len ar.len)/\(∀j,j<5->(∃u,w5.cell? ⟨M,k*5+j,none⟩=some u)/\w5.frozen? ⟨M,k*5+j,none⟩=false)/\
     AgS p w (set5 w5 M (k*5) (jI kQ z.op) (jT z.nm) (jI kQ z.v) (jI kQ z.bd) (jS z.a z.args.len z.c)) M op nm v' bd ar (some ⟨b1,o1,none⟩) c (A++[z])/\(A++[z]).length=k+1/\(Fe.forest (A++[z])).nodes=zU ar (k+1)):=rA fun w5 z hg hz hn=>by
    have hS:=HRW.out.gr' ((Gr.drawn w9 1).trans hg);have hN:=hS.push hz (by rw[HAL.out.1];exact hlt);rw[HAL.out.1] at hN;exact⟨hS.cells5.2.2.2.2,fun j hj=>⟨hS.row.at (by omega),hS.row.frozen _⟩,hN,by simp[HAL.out.1],by rw[Fe.forest_snoc,HAL.out.2,hn];have:=HNT.out;omega⟩
   clear c0 c1 c2 c3 c4
   go_region_law (first
    |(go_simp;refine HC.out.mono ?_;rintro e w5 ⟨z,rfl,hz,hn,hg⟩;obtain⟨k554,hmc,hnx⟩:=HST.out w5 z hg hz hn;obtain⟨y50,y51,y52,y53,y54⟩:=HBX.out w5 ((Gr.drawn w9 1).trans hg);obtain⟨⟨u0,m0⟩,g0⟩:=hmc 0 (by omega);obtain⟨⟨u1,m1⟩,g1⟩:=hmc 1 (by omega);obtain⟨⟨u2,m2⟩,g2⟩:=hmc 2 (by omega);obtain⟨⟨u3,m3⟩,g3⟩:=hmc 3 (by omega);obtain⟨⟨u4,m4⟩,g4⟩:=hmc 4 (by omega);rw[rJ] at m0 g0;have HNX:=rA hnx;clear hmc hnx hz hn hg))
   all_goals
    go_wp2_with fail;go_roundw
    case rel=>exact⟨k+1,A++[z],by omega,by go_num,rA HNX.out⟩
    case measure=>simp[intOf];omega)
 clear hK1;obtain⟨k30,k31,k32,k33,k34⟩:=HP.out.cells3;obtain⟨k50,k51,k52,k53,k54,f50,f51,f52,f53,f54⟩:=HP.out.cells5;have HQ:=rA (vT op);generalize hrem:zEN op=rb at*;clear q0 q1 q2 q3 q4;go_wp2_with fail;refine(HQ.out _).mono ?_;rintro e w' ⟨rfl,hw'⟩;rw[hw'];clear hw' w';cases rb with
 |false=>
  clear hrem;go_wp2_with fail;exact HREST.out _ _ _ _ _ _ _ _ _ _ _ _ _ _ _ _ _ v _ HP.out
 |true=>
  have HPA:=rA (fun o:Obj=>HP.out.gr' (Gr.alloc w4 o));have HL4:Hid (w.heap.size+3<=w4.heap.size):=rA (by have:=(Array.getElem?_eq_some_iff.1 HP.out.b5).1;omega);have HA0:=rA (HPA.out (.cells #[jI kQ op,jT nm,jI kQ v,jI kQ bd,jS a ar.len c] 33));have HB6:=rA (rH w4 (.cells #[jI kQ op,jT nm,jI kQ v,jI kQ bd,jS a ar.len c] 33));by_cases h15:op=15
  ·subst h15
   have HL1:Hid (ar.len=1):=rA (HXR.out.1.1 (.inr (.inr rfl)));go_upto_region 6 with fail;generalize w4.alloc (.cells #[jI kQ 15,jT nm,jI kQ v,jI kQ bd,jS a ar.len c] 33)=w5 at*;generalize hB6:w4.heap.size=B6 at*;obtain⟨b1,o1,y,rfl,c0,c1,c2,c3,c4,hyo,hyr,hyn,hnt⟩:=HE.out w5 HA0.out.gr 0 (by have:=HL1.out;omega);simp only[rM,rJ] at c0 c1 c2 c3 c4;have hlt:(0:Int)<(ar.len:Int):=by have:=HL1.out;omega
   have HYO:=rA hyo;have HYR:=rA hyr;clear hyo hyr hyn hnt k30 k31 k32 k33 k34 k50 k51 k52 k53 k54 f50 f51 f52 f53 f54 hrem;obtain⟨k30,k31,k32,k33,k34⟩:=HA0.out.cells3;obtain⟨k60,k61,k62,k63,k64,f60,f61,f62,f63,f64⟩:=zA HB6.out;go_upto_region 8 with fail;have HP6:Hid (AgP w (put5 w5 B6 (jI kQ y.op) (jT y.nm) (jI kQ y.v) (jI kQ y.bd) (jS y.a y.args.len y.c)) 15 nm v v bd (some ⟨b1,o1,none⟩) ar.len c):=rA (HA0.out.put6 HL4.out _ _ _ _ _);have HB7:Hid ((put5 w5 B6 (jI kQ y.op) (jT y.nm) (jI kQ y.v) (jI kQ y.bd) (jS y.a y.args.len y.c)).heap[B6]? =some (.cells y 33 (0,0))):=rA (yA HB6.out);unfold put5 at HP6 HB7;generalize (((w5.setCell ⟨B6,0,none⟩ (jI kQ y.op)).setCell ⟨B6,1,none⟩ (jT y.nm)).setCell ⟨B6,2,none⟩ (jI kQ y.v)).setCell ⟨B6,3,none⟩ (jI kQ y.bd)=w6' at*;generalize w6'.setCell ⟨B6,4,none⟩ (jS y.a y.args.len y.c)=w6 at*;clear k30 k31 k32 k33 k34 k60 k61 k62 k63 k64 f60 f61 f62 f63 f64 c0 c1 c2 c3 c4;obtain⟨x50,x51,x52,x53,x54,xf0,xf1,xf2,xf3,xf4⟩:=HP6.out.cells5;go_upto_region 9 with fail;have HP9:=rA (HP6.out.setV 0);have HB9:Hid ((w6.setCell ⟨w.heap.size+2,2,none⟩ (jI kQ 0)).heap[B6]? =some (.cells y 33 (0,0))):=rA ((rB _ _ _ _ (by have:=HL4.out;simp;omega)).trans HB7.out);clear x50 x51 x52 x53 x54 xf0 xf1 xf2 xf3 xf4;generalize w6.setCell ⟨w.heap.size+2,2,none⟩ (jI kQ 0)=w9 at*;obtain⟨k60,k61,k62,k63,k64, -⟩:=zA HB9.out;have HC:=rA (zDc (HM.out.gr HP9.out.gr) (Fe.ok_up (HYO.out w9 HP9.out.gr _ (rG _))) HYR.out);go_wp2_with fail;refine HC.out.mono ?_;rintro e w10 ⟨b,rfl,hg⟩;have HPX:=rA (HP9.out.gr' hg);obtain⟨x50,x51,x52,x53,x54,xf0,xf1,xf2,xf3,xf4⟩:=HPX.out.cells5;clear hg;cases b with
   |false=>
    go_wp2_with fail;exact HREST.out _ _ _ _ _ _ _ _ _ _ _ _ _ _ _ _ _ 0 _ HPX.out
   |true=>
    have HPY:=rA (HPX.out.setV 1);go_wp2_with fail;exact HREST.out _ _ _ _ _ _ _ _ _ _ _ _ _ _ _ _ _ 1 _ HPY.out
  ·have d15:(op==(15:Int))=false:=by simpa using h15
   clear h15 hrem;go_upto_region 6 with fail;generalize w4.alloc (.cells #[jI kQ op,jT nm,jI kQ v,jI kQ bd,jS a ar.len c] 33)=w6 at*;generalize hB6:w4.heap.size=B6 at*;clear k30 k31 k32 k33 k34 k50 k51 k52 k53 k54 f50 f51 f52 f53 f54;obtain⟨k30,k31,k32,k33,k34⟩:=HA0.out.cells3;go_upto_region 8 with fail;clear k30 k31 k32 k33 k34;obtain⟨x50,x51,x52,x53,x54,xf0,xf1,xf2,xf3,xf4⟩:=HA0.out.cells5;go_upto_region 9 with fail;have HP9:=rA (HA0.out.setV 0);have HB9:Hid ((w6.setCell ⟨w.heap.size+2,2,none⟩ (jI kQ 0)).heap[B6]? =some (.cells #[jI kQ op,jT nm,jI kQ v,jI kQ bd,jS a ar.len c] 33 (0,0))):=rA ((rB _ _ _ _ (by have:=HL4.out;simp;omega)).trans HB6.out);clear x50 x51 x52 x53 x54 xf0 xf1 xf2 xf3 xf4;generalize w6.setCell ⟨w.heap.size+2,2,none⟩ (jI kQ 0)=w9 at*;obtain⟨k60,k61,k62,k63,k64, -⟩:=zA HB9.out;have HC:=rA (zDc (HM.out.gr HP9.out.gr) (Fe.ok_keep HXU.out HP9.out.gr.1) HXR.out);go_wp2_with fail;refine HC.out.mono ?_;rintro e w10 ⟨b,rfl,hg⟩;have HPX:=rA (HP9.out.gr' hg);obtain⟨x50,x51,x52,x53,x54,xf0,xf1,xf2,xf3,xf4⟩:=HPX.out.cells5;clear hg;cases b with
   |false=>
    go_wp2_with fail;exact HREST.out _ _ _ _ _ _ _ _ _ _ _ _ _ _ _ _ _ 0 _ HPX.out
   |true=>
    have HPY:=rA (HPX.out.setV 1);go_wp2_with fail;exact HREST.out _ _ _ _ _ _ _ _ _ _ _ _ _ _ _ _ _ 1 _ HPY.out
theorem zOV (mb:Nat):∀n,zOK mb n
 |0=>fun _ _ _ _ _ h=>absurd h (rN _)
 |n+1=>fun p x w hp hm h h9 hx hr=>zNN (zOV mb n) p x w hp hm (Nat.lt_succ_iff.1 h) h9 hx hr
theorem zIr {mb:Nat} {p:Nat->Bool} {x:Fe} {w:World} (hp:∀k,w.heap.size<=k->p k=false) (hm:AMap w mb KStr KInt) (h9:x.args.nodes<=1000000000) (hx:x.ok (dim p w)) (hr:x.ar):Calls rC 438 #[.map (some mb),jG x] w (FmR p w (fun z=>z.args.nodes=x.args.nodes)):=zOV mb _ p x w hp hm (rL _) h9 hx hr
