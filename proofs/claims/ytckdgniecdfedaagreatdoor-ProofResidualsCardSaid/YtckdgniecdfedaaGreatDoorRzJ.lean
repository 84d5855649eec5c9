/- The reader's methods that tell what is true now. What is true now of a kernel of the past; whether a kernel is one of the past. The walks of past and node. -/
import Derived.Test.YtckdgniecdfedaaGreatDoorRzI
namespace Go.Proofs.YtckdgniecdfedaaGreatDoor
section
open Go.RowKit
def Tells (b:Bool) (w:World) (e:Ending) (w':World):Prop:=e=.returned (.bool b)∧∃m,w'=w.drewN m
theorem findI_lt {l:List Sg} {nm:ByteArray} (h:0≤findI l nm):∃k:Nat,findI l nm=(k:Int)∧k<l.length:=by
 unfold findI at h ⊢
 cases hf:l.findIdx? (fun s=>decide (s.name=nm)) with
 |none=>rw[hf] at h;exact absurd h (by decide)
 |some k=>exact⟨k,rfl,(List.findIdx?_eq_some_iff_getElem.1 hf).1⟩
section
variable {w:World} {R b o:Nat}
theorem always178:Calls Tryz.prog 178 #[.pointer (some ⟨R,0,none⟩),.pointer (some ⟨b,o,none⟩)] w (Tells true w):=by
 go_enter Tryz.func178,Tryz.ntmps178
 go_wp2_with fail
 go_ret
 exact⟨rfl,0,rfl⟩
theorem never179:Calls Tryz.prog 179 #[.pointer (some ⟨R,0,none⟩),.pointer (some ⟨b,o,none⟩)] w (Tells false w):=by
 go_enter Tryz.func179,Tryz.ntmps179
 go_wp2_with fail
 go_ret
 exact⟨rfl,0,rfl⟩
theorem yesterday184 {v:Int} (h:w.cell? ⟨b,o+2,none⟩=some (.int .i64 v)):Calls Tryz.prog 184 #[.pointer (some ⟨R,0,none⟩),.pointer (some ⟨b,o,none⟩)] w (Tells (decide (v=1)) w):=by
 go_enter Tryz.func184,Tryz.ntmps184
 go_wp2_with fail
 go_ret
 exact⟨rfl,0,rfl⟩
set_option maxRecDepth 100000 in
set_option maxHeartbeats 4000000 in
theorem is180 {l:List Sg} {x:Int} {nm:ByteArray} {v:Int} (hR:Rdr w R l x) (h1:w.cell? ⟨b,o+1,none⟩=some (.string nm)) (h2:w.cell? ⟨b,o+2,none⟩=some (.int .i64 v)) (hk:Kn l nm v=true):
  Calls Tryz.prog 180 #[.pointer (some ⟨R,0,none⟩),.pointer (some ⟨b,o,none⟩)] w (Tells (rho l x nm v) w):=by
 obtain⟨h0,⟨sv,s1,s2⟩,⟨V,c,v1,v2,v3,v4⟩, -, -⟩:=hR
 simp only[Kn,Bool.and_eq_true,decide_eq_true_eq] at hk
 obtain⟨k,hf,hkl⟩:=findI_lt hk.1
 have q173:∀n,Calls Tryz.prog 173 #[sv,.string nm] (w.drewN n) fun e w'=>e=.returned (.int .i64 (k:Int))∧∃m,w'=(w.drewN n).drewN m:=fun n=>(find173q (s2.keep (below_drawn (Below.refl _ _) n))).mono fun e w' h=>⟨by rw[h.1,hf],0,h.2⟩
 have vk:=v4 k hkl
 have hr:rho l x nm v=decide (valN l x k=v):=by unfold rho;rw[hf];rfl
 have hkz:(k:Int)<(l.length:Int):=by omega
 rw[hr]
 clear hr hf hk v4 s2
 generalize valN l x k=y at*
 go_enter Tryz.func180,Tryz.ntmps180
 go_wp2_with fail
 go_quiet ((go_at_call 173;with_reducible exact Calls.quiet_of (q173 _)))
 go_wp2_with fail
 go_ret
 exact⟨rfl,_,rfl⟩
def Asks (w:World) (R B O:Nat) (t:Bool):Prop:=∀n,Calls Tryz.prog 255 #[.pointer (some ⟨R,0,none⟩),.pointer (some ⟨B,O,none⟩)] (w.drewN n) (Tells t (w.drewN n))
theorem Asks.now {B O:Nat} {t:Bool} (h:Asks w R B O t):Calls Tryz.prog 255 #[.pointer (some ⟨R,0,none⟩),.pointer (some ⟨B,O,none⟩)] w (Tells t w):=h 0
theorem Asks.drawn {B O:Nat} {t:Bool} (h:Asks w R B O t) (m:Nat):Asks (w.drewN m) R B O t:=fun n=>by
 rw[World.drewN_drewN];exact h (m+n)
set_option maxRecDepth 100000 in
set_option maxHeartbeats 4000000 in
theorem not181 {B O n c:Nat} {t:Bool} (h4:w.cell? ⟨b,o+4,none⟩=some (.slice (some ⟨B,O,none⟩) (n+1) c)) (ha:Asks w R B O t):
  Calls Tryz.prog 181 #[.pointer (some ⟨R,0,none⟩),.pointer (some ⟨b,o,none⟩)] w (Tells (!t) w):=by
 have HA:=Lib.hid ha
 clear ha
 go_enter Tryz.func181,Tryz.ntmps181
 go_wp2_with fail
 refine HA.out.now.mono ?_
 rintro e w1 ⟨rfl,m,rfl⟩
 go_wp2_with fail
 go_ret
 exact⟨rfl,m,rfl⟩
set_option maxRecDepth 100000 in
set_option maxHeartbeats 4000000 in
theorem and182 {B O c:Nat} {ts:List Bool} (h4:w.cell? ⟨b,o+4,none⟩=some (.slice (some ⟨B,O,none⟩) ts.length c)) (hn:ts.length≤9223372036854775807) (ha:∀k (h:k<ts.length),Asks w R B (O+k*5) ts[k]):
  Calls Tryz.prog 182 #[.pointer (some ⟨R,0,none⟩),.pointer (some ⟨b,o,none⟩)] w (Tells (ts.all id) w):=by
 have HA:=Lib.hid ha
 clear ha
 go_enter Tryz.func182,Tryz.ntmps182
 go_wp2_with fail
 go_loopw [5,11] (fun x i wr=>∃k:Nat,k≤ts.length∧i=.int .i64 k∧Hid (∃m,wr=w.drewN m)∧Hid ((ts.take k).all id=true)) (fun _ i _=>ts.length - (intOf i).toNat)
 case atStart=>exact⟨0,Nat.zero_le _,rfl,Lib.hid ⟨0,rfl⟩,Lib.hid (by simp)⟩
 case round=>
  obtain⟨k,hk,rfl,HB,HN⟩:=hrel
  have c4:wr.cell? ⟨b,o+4,none⟩=some (.slice (some ⟨B,O,none⟩) ts.length c):=by obtain⟨m,hm⟩:=HB.out;rw[hm];exact h4
  by_cases hlt:(k:Int)<(ts.length:Int)
  ·have hd:decide ((k:Int)<(ts.length:Int))=true:=by simpa using hlt
   have hk':k<ts.length:=by omega
   have HAK:Hid (Asks wr R B (O+k*5) ts[k]):=Lib.hid (by obtain⟨m,hm⟩:=HB.out;rw[hm];exact(HA.out k hk').drawn m)
   have HT:Hid (ts[k]=false→ts.all id=false):=Lib.hid (fun h=>by rw[List.all_eq_false];exact⟨ts[k],List.getElem_mem hk',by simp[h]⟩)
   have HS:Hid (ts[k]=true→(ts.take (k+1)).all id=true):=Lib.hid (fun h=>by rw[List.take_succ_eq_append_getElem hk',List.all_append,HN.out];simp[h])
   generalize ts[k]=t at*
   go_wp2_with fail
   refine HAK.out.now.mono ?_
   rintro e w1 ⟨rfl,m,rfl⟩
   have HB1:Hid (∃q,wr.drewN m=w.drewN q):=Lib.hid (by obtain⟨q,hq⟩:=HB.out;exact⟨q+m,by rw[hq,World.drewN_drewN]⟩)
   cases t with
   |false=>
    have HF:=Lib.hid (HT.out rfl)
    clear HT HS HAK c4
    go_wp2_with fail
    go_ret
    exact⟨congrArg (fun x=>Ending.returned (.bool x)) HF.out.symm,HB1.out⟩
   |true=>
    have HF:=Lib.hid (HS.out rfl)
    clear HT HS HAK c4
    go_wp2_with fail
    go_roundw
    case rel=>exact⟨k+1,by omega,by go_num,HB1,HF⟩
    case measure=>simp[intOf];omega
  ·have hd:decide ((k:Int)<(ts.length:Int))=false:=by simpa using hlt
   have HF:Hid (ts.all id=true):=Lib.hid (by have:=HN.out;rwa[List.take_of_length_le (by omega)] at this)
   go_wp2_with fail
   go_ret
   exact⟨congrArg (fun x=>Ending.returned (.bool x)) HF.out.symm,HB.out⟩
set_option maxRecDepth 100000 in
set_option maxHeartbeats 4000000 in
theorem or183 {B O c:Nat} {ts:List Bool} (h4:w.cell? ⟨b,o+4,none⟩=some (.slice (some ⟨B,O,none⟩) ts.length c)) (hn:ts.length≤9223372036854775807) (ha:∀k (h:k<ts.length),Asks w R B (O+k*5) ts[k]):
  Calls Tryz.prog 183 #[.pointer (some ⟨R,0,none⟩),.pointer (some ⟨b,o,none⟩)] w (Tells (ts.any id) w):=by
 have HA:=Lib.hid ha
 clear ha
 go_enter Tryz.func183,Tryz.ntmps183
 go_wp2_with fail
 go_loopw [5,11] (fun x i wr=>∃k:Nat,k≤ts.length∧i=.int .i64 k∧Hid (∃m,wr=w.drewN m)∧Hid ((ts.take k).any id=false)) (fun _ i _=>ts.length - (intOf i).toNat)
 case atStart=>exact⟨0,Nat.zero_le _,rfl,Lib.hid ⟨0,rfl⟩,Lib.hid (by simp)⟩
 case round=>
  obtain⟨k,hk,rfl,HB,HN⟩:=hrel
  have c4:wr.cell? ⟨b,o+4,none⟩=some (.slice (some ⟨B,O,none⟩) ts.length c):=by obtain⟨m,hm⟩:=HB.out;rw[hm];exact h4
  by_cases hlt:(k:Int)<(ts.length:Int)
  ·have hd:decide ((k:Int)<(ts.length:Int))=true:=by simpa using hlt
   have hk':k<ts.length:=by omega
   have HAK:Hid (Asks wr R B (O+k*5) ts[k]):=Lib.hid (by obtain⟨m,hm⟩:=HB.out;rw[hm];exact(HA.out k hk').drawn m)
   have HT:Hid (ts[k]=true→ts.any id=true):=Lib.hid (fun h=>by rw[List.any_eq_true];exact⟨ts[k],List.getElem_mem hk',by simp[h]⟩)
   have HS:Hid (ts[k]=false→(ts.take (k+1)).any id=false):=Lib.hid (fun h=>by rw[List.take_succ_eq_append_getElem hk',List.any_append,HN.out];simp[h])
   generalize ts[k]=t at*
   go_wp2_with fail
   refine HAK.out.now.mono ?_
   rintro e w1 ⟨rfl,m,rfl⟩
   have HB1:Hid (∃q,wr.drewN m=w.drewN q):=Lib.hid (by obtain⟨q,hq⟩:=HB.out;exact⟨q+m,by rw[hq,World.drewN_drewN]⟩)
   cases t with
   |true=>
    have HF:=Lib.hid (HT.out rfl)
    clear HT HS HAK c4
    go_wp2_with fail
    go_ret
    exact⟨congrArg (fun x=>Ending.returned (.bool x)) HF.out.symm,HB1.out⟩
   |false=>
    have HF:=Lib.hid (HS.out rfl)
    clear HT HS HAK c4
    go_wp2_with fail
    go_roundw
    case rel=>exact⟨k+1,by omega,by go_num,HB1,HF⟩
    case measure=>simp[intOf];omega
  ·have hd:decide ((k:Int)<(ts.length:Int))=false:=by simpa using hlt
   have HF:Hid (ts.any id=false):=Lib.hid (by have:=HN.out;rwa[List.take_of_length_le (by omega)] at this)
   go_wp2_with fail
   go_ret
   exact⟨congrArg (fun x=>Ending.returned (.bool x)) HF.out.symm,HB.out⟩
set_option maxRecDepth 100000 in
set_option maxHeartbeats 4000000 in
theorem since185 {B O c:Nat} {v:Int} {t u:Bool} (h4:w.cell? ⟨b,o+4,none⟩=some (.slice (some ⟨B,O,none⟩) 2 c)) (h2:w.cell? ⟨b,o+2,none⟩=some (.int .i64 v)) (ha:Asks w R B O t) (hb:Asks w R B (O+5) u):
  Calls Tryz.prog 185 #[.pointer (some ⟨R,0,none⟩),.pointer (some ⟨b,o,none⟩)] w (Tells (u||(decide (v=1)&&t)) w):=by
 have HA:=Lib.hid ha
 have HB:=Lib.hid hb
 clear ha hb
 go_enter Tryz.func185,Tryz.ntmps185
 go_wp2_with fail
 refine HB.out.now.mono ?_
 rintro e w1 ⟨rfl,m,rfl⟩
 cases u with
 |true=>
  go_wp2_with fail
  go_ret
  exact⟨rfl,m,rfl⟩
 |false=>
  have d2:(w.drewN m).cell? ⟨b,o+2,none⟩=some (.int .i64 v):=h2
  have d4:(w.drewN m).cell? ⟨b,o+4,none⟩=some (.slice (some ⟨B,O,none⟩) 2 c):=h4
  by_cases hv:v=1
  ·have hd:(v==1)=true:=by simpa using hv
   have hd':decide (v=1)=true:=by simpa using hv
   go_wp2_with fail
   refine(HA.out m).mono ?_
   rintro e w1 ⟨rfl,q,rfl⟩
   go_wp2_with fail
   go_ret
   exact⟨by rw[hd'];simp,m+q,rfl⟩
  ·have hd:(v==1)=false:=by simpa using hv
   have hd':decide (v=1)=false:=by simpa using hv
   go_wp2_with fail
   go_ret
   exact⟨by rw[hd'];rfl,m,rfl⟩
set_option maxRecDepth 100000 in
set_option maxHeartbeats 4000000 in
theorem trigger186 {B O c:Nat} {v:Int} {t u:Bool} (h4:w.cell? ⟨b,o+4,none⟩=some (.slice (some ⟨B,O,none⟩) 2 c)) (h2:w.cell? ⟨b,o+2,none⟩=some (.int .i64 v)) (ha:Asks w R B O t) (hb:Asks w R B (O+5) u):
  Calls Tryz.prog 186 #[.pointer (some ⟨R,0,none⟩),.pointer (some ⟨b,o,none⟩)] w (Tells (u&&(decide (v=1)||t)) w):=by
 have HA:=Lib.hid ha
 have HB:=Lib.hid hb
 clear ha hb
 go_enter Tryz.func186,Tryz.ntmps186
 go_wp2_with fail
 refine HB.out.now.mono ?_
 rintro e w1 ⟨rfl,m,rfl⟩
 cases u with
 |false=>
  go_wp2_with fail
  go_ret
  exact⟨rfl,m,rfl⟩
 |true=>
  have d2:(w.drewN m).cell? ⟨b,o+2,none⟩=some (.int .i64 v):=h2
  have d4:(w.drewN m).cell? ⟨b,o+4,none⟩=some (.slice (some ⟨B,O,none⟩) 2 c):=h4
  by_cases hv:v=1
  ·have hd:(v==1)=true:=by simpa using hv
   have hd':decide (v=1)=true:=by simpa using hv
   go_wp2_with fail
   go_ret
   exact⟨by rw[hd'];rfl,m,rfl⟩
  ·have hd:(v==1)=false:=by simpa using hv
   have hd':decide (v=1)=false:=by simpa using hv
   go_wp2_with fail
   refine(HA.out m).mono ?_
   rintro e w1 ⟨rfl,q,rfl⟩
   go_wp2_with fail
   go_ret
   exact⟨by rw[hd'];simp,m+q,rfl⟩
set_option maxRecDepth 100000 in
set_option maxHeartbeats 4000000 in
theorem now255 {l:List Sg} {x:Int} {op:Int} {k i:Nat} {t:Bool} (hk:k=178∨k=179∨k=180∨k=181∨k=182∨k=183∨k=184∨k=185∨k=186) (hR:Rdr w R l x) (h0:w.cell? ⟨b,o,none⟩=some (.int .i64 op)) (p0:0≤op) (p1:op≤17) (hf:Instr.findNow (.int .i64) (.int .i64 op) (truthE R).toList 0=some (some (i,fnV k R)))
  (hm:∀n,Calls Tryz.prog k #[.pointer (some ⟨R,0,none⟩),.pointer (some ⟨b,o,none⟩)] (w.drewN n) (Tells t (w.drewN n))):Calls Tryz.prog 255 #[.pointer (some ⟨R,0,none⟩),.pointer (some ⟨b,o,none⟩)] w (Tells t w):=by
 obtain⟨-, -, -,⟨T,t1,t2⟩, -⟩:=hR
 have hl:∀n,(Instr.lookup 244 (.map (some T)) (.int .i64 op) false).run Tryz.prog (w.drewN n)=.ok (fnV k R) (w.drewN n):=fun n=>look_at (elem:=166) (by kernel_rfl) (show(w.drewN n).heap[T]? =_ from t2) p0 (by omega) hf
 clear hf
 unfold fnV at hl
 have HM:=Lib.hid hm
 clear hm t2
 rcases hk with rfl|rfl|rfl|rfl|rfl|rfl|rfl|rfl|rfl
 all_goals
  go_enter Tryz.func255,Tryz.ntmps255
  go_wp2_with fail
  go_quiet ((exact Calls.quiet_of (HM.out _)))
  go_wp2_with fail
  go_ret
  exact⟨rfl,_,rfl⟩
end
end
section
open Go.RowKit Go.Sort
theorem nowAll_map (ρ:ByteArray→Int→Bool):∀L:List Wf,(L.map (now ρ)).all id=nowAll ρ L
 |[]=>by simp[nowAll]
 |x::L=>by simp[nowAll,nowAll_map ρ L,List.all_cons]
theorem nowAny_map (ρ:ByteArray→Int→Bool):∀L:List Wf,(L.map (now ρ)).any id=nowAny ρ L
 |[]=>by simp[nowAny]
 |x::L=>by simp[nowAny,nowAny_map ρ L,List.any_cons]
theorem bI_one (v:Bool):decide (bI v=1)=v:=by cases v<;>rfl
theorem FAt_kids {w:World} {z:Wf} {r:Fs} {b o:Nat} (h:FAt w (trC z r) b o) (h0:kids z≠[]):
  ∃B O c,w.cell? ⟨b,o+4,none⟩=some (.slice (some ⟨B,O,none⟩) (kids z).length c)∧(kids z).length≤c∧(kids z).length≤9223372036854775807∧B<w.heap.size∧∀j (hj:j<(kids z).length),∃s,FAt w (trC (kids z)[j] s) B (O+j*5):=by
 rw[trC_eq] at h
 obtain⟨-, -, -, -, -,c5,⟨a,c,c6,cc,c7⟩, -⟩:=h
 rw[trs_len] at c5 c6 cc c7
 obtain⟨B,O,rfl,hB,hF⟩:=c7 (fun e=>h0 (List.length_eq_zero_iff.1 e))
 refine⟨B,O,c,c6,cc,c5,hB,fun j hj=>⟨trs ((kids z).drop (j+1)),?_⟩⟩
 have:=FAt.drop j hF
 rw[trs_drop _ j hj] at this
 exact this
theorem asks_any (l:List Sg) (x:Int):∀(N:Nat) (z:Wf),size z<N→past z=true→gdp (Kn l) z=true→∀(w:World) (R B O:Nat) (r:Fs),Rdr w R l x→B<w.heap.size→FAt w (trC z r) B O→Asks w R B O (now (rho l x) z)
 |0,_,h,_,_=>absurd h (Nat.not_lt_zero _)
 |N+1,z,hN,hp,hg=>by
  intro w0 R B O r hR0 hB0 hF0 n
  have hR:=hR0.drawn n
  have hF:=hF0.drawn n
  have hB:B<(w0.drewN n).heap.size:=hB0
  clear hR0 hB0 hF0
  generalize w0.drewN n=w at hR hF hB ⊢
  have hF':=hF
  rw[trC_eq] at hF'
  obtain⟨c0,c1, -,c2, -, -, -, -⟩:=hF'
  have IH:∀(x':Wf),x'∈kids z→past x'=true→gdp (Kn l) x'=true→∀(B O:Nat) (r:Fs),B<w.heap.size→FAt w (trC x' r) B O→Asks w R B O (now (rho l x) x'):=
   fun x' hx h1 h2 B O r h3 h4=>asks_any l x N x' (by have:=kids_size hx;omega) h1 h2 w R B O r hR h3 h4
  have hd:∀(m o:Nat) (v:Value),w.cell? ⟨B,o,none⟩=some v→(w.drewN m).cell? ⟨B,o,none⟩=some v:=fun _ _ _ h=>h
  cases z with
  |tt=>exact now255 (op:=1) (k:=178) (i:=0) (.inl rfl) hR c0 (by decide) (by decide) rfl fun m=>always178
  |ff=>exact now255 (op:=2) (k:=179) (i:=1) (.inr <| .inl rfl) hR c0 (by decide) (by decide) rfl fun m=>never179
  |is nm v=>exact now255 (op:=3) (k:=180) (i:=2) (.inr <| .inr <| .inl rfl) hR c0 (by decide) (by decide) rfl fun m=>is180 (hR.drawn m) (hd _ _ _ c1) (hd _ _ _ c2) hg
  |nis nm v=>
   obtain⟨B',O',c,k4, -, -,kB,kF⟩:=FAt_kids hF (by simp[kids])
   obtain⟨s,kF⟩:=kF 0 (by simp[kids])
   have h:=IH (.is nm v) (by simp[kids]) rfl hg B' O' s kB (by simpa[kids] using kF)
   exact now255 (op:=4) (k:=181) (i:=3) (.inr <| .inr <| .inr <| .inl rfl) hR c0 (by decide) (by decide) rfl fun m=>not181 (n:=0) (hd _ _ _ k4) (h.drawn m)
  |con k L=>
   simp only[gdp,Bool.and_eq_true,decide_eq_true_eq] at hg
   have hg2:=(gdps_all _ L).1 hg.2
   have hp2:=(pasts_all L).1 (by simpa[past] using hp)
   obtain⟨B',O',c,k4, -,kl,kB,kF⟩:=FAt_kids hF (by intro e;have e:L=[]:=e;rw[e] at hg;simp at hg)
   have ha:∀j (h:j<(L.map (now (rho l x))).length),Asks w R B' (O'+j*5) (L.map (now (rho l x)))[j]:=fun j h=>by
    have hj:j<L.length:=by simpa using h
    obtain⟨s,kF⟩:=kF j hj
    rw[List.getElem_map]
    exact IH L[j] (List.getElem_mem hj) (hp2 _ (List.getElem_mem hj)) (hg2 _ (List.getElem_mem hj)) B' _ s kB kF
   have q4:w.cell? ⟨B,O+4,none⟩=some (.slice (some ⟨B',O',none⟩) (L.map (now (rho l x))).length c):=by rw[List.length_map];exact k4
   have ql:(L.map (now (rho l x))).length≤9223372036854775807:=by rw[List.length_map];exact kl
   cases k with
   |true=>
    rw[now,if_pos rfl,←nowAll_map]
    exact now255 (op:=5) (k:=182) (i:=4) (.inr <| .inr <| .inr <| .inr <| .inl rfl) hR c0 (by decide) (by decide) rfl fun m=>and182 (hd _ _ _ q4) ql fun j h=>(ha j h).drawn m
   |false=>
    rw[now,if_neg (by decide),←nowAny_map]
    exact now255 (op:=6) (k:=183) (i:=5) (.inr <| .inr <| .inr <| .inr <| .inr <| .inl rfl) hR c0 (by decide) (by decide) rfl fun m=>or183 (hd _ _ _ q4) ql fun j h=>(ha j h).drawn m
  |next a=>simp[past] at hp
  |unt a b=>simp[past] at hp
  |rel a b=>simp[past] at hp
  |yes v a=>
   have h:=now255 (w:=w) (op:=15) (k:=184) (i:=6) (t:=decide (bI v=1)) (.inr <| .inr <| .inr <| .inr <| .inr <| .inr <| .inl rfl) hR c0 (by decide) (by decide) rfl fun m=>yesterday184 (hd _ _ _ c2)
   rw[bI_one] at h
   exact h
  |snc k v a b=>
   simp only[gdp,past,Bool.and_eq_true] at hg hp
   obtain⟨B',O',c,k4, -, -,kB,kF⟩:=FAt_kids hF (by simp[kids])
   obtain⟨s,kF0⟩:=kF 0 (show 0<2 by omega)
   obtain⟨s',kF1⟩:=kF 1 (show 1<2 by omega)
   have ha:=IH a (by simp[kids]) hp.1 hg.1 B' O' s kB (by simpa[kids] using kF0)
   have hb:=IH b (by simp[kids]) hp.2 hg.2 B' (O'+5) s' kB (by simpa[kids] using kF1)
   cases k with
   |true=>
    have h:=now255 (w:=w) (op:=16) (k:=185) (i:=7) (t:=now (rho l x) b||(decide (bI v=1)&&now (rho l x) a)) (.inr <| .inr <| .inr <| .inr <| .inr <| .inr <| .inr <| .inl rfl) hR c0 (by decide) (by decide) rfl fun m=>since185 (hd _ _ _ k4) (hd _ _ _ c2) (ha.drawn m) (hb.drawn m)
    rw[bI_one] at h
    rw[now,if_pos rfl]
    exact h
   |false=>
    have h:=now255 (w:=w) (op:=17) (k:=186) (i:=8) (t:=now (rho l x) b&&(decide (bI v=1)||now (rho l x) a)) (.inr <| .inr <| .inr <| .inr <| .inr <| .inr <| .inr <| .inr rfl) hR c0 (by decide) (by decide) rfl fun m=>trigger186 (hd _ _ _ k4) (hd _ _ _ c2) (ha.drawn m) (hb.drawn m)
    rw[bI_one] at h
    rw[now,if_neg (by decide)]
    exact h
end
section
open Go.RowKit Go.Sort
theorem past_eq (z:Wf):past z=(!(decide (opW z=8))&& !(decide (opW z=9))&& !(decide (opW z=10))&&(kids z).all past):=by
 have h:∀L:List Wf,L.all past=pasts L:=by
  intro L
  induction L with
  |nil=>rfl
  |cons x L ih=>simp[pasts,ih]
 cases z with
 |con k l=>cases k<;>simp[past,opW,kop,kids,h]
 |snc k v a b=>cases k<;>simp[past,opW,kids]
 |_=>simp[past,opW,kids]
set_option maxRecDepth 100000 in
set_option maxHeartbeats 4000000 in
theorem past258:∀(N:Nat) (z:Wf),size z<N→∀(w:World) (b o:Nat) (r:Fs),b<w.heap.size→FAt w (trC z r) b o→Calls Tryz.prog 258 #[.pointer (some ⟨b,o,none⟩)] w (Tells (past z) w)
 |0,_,h=>absurd h (Nat.not_lt_zero _)
 |N+1,z,hN=>by
  intro w b o r hb hF
  have hF':=hF
  rw[trC_eq] at hF'
  obtain⟨c0, -, -, -, -,c5,⟨a,c,c6,cc, -⟩, -⟩:=hF'
  rw[trs_len] at c5 c6 cc
  have HK:Hid (∀j (hj:j<(kids z).length),∃B O,a=some ⟨B,O,none⟩∧∀m,Calls Tryz.prog 258 #[.pointer (some ⟨B,O+j*5,none⟩)] (w.drewN m) (Tells (past (kids z)[j]) (w.drewN m))):=Lib.hid (fun j hj=>by
   obtain⟨B,O,c',k4, -, -,kB,kF⟩:=FAt_kids hF (fun e=>by rw[e] at hj;simp at hj)
   rw[c6] at k4
   simp only[Option.some.injEq,Value.slice.injEq,true_and] at k4
   obtain⟨s,kF⟩:=kF j hj
   have hsz:=kids_size (z:=z) (List.getElem_mem hj)
   exact⟨B,O,k4.1,fun m=>past258 N _ (by omega) (w.drewN m) B _ s kB (kF.drawn m)⟩)
  have HP:=Lib.hid (past_eq z)
  clear hF hN
  by_cases h8:opW z=8
  ·have q:(opW z==8)=true:=by simpa using h8
   have ht:past z=false:=by rw[HP.out];simp[h8]
   clear HP HK
   go_enter Tryz.func258,Tryz.ntmps258
   go_wp2_with fail
   go_ret
   exact⟨by rw[ht];rfl,0,rfl⟩
  have q8:(opW z==8)=false:=by simpa using h8
  by_cases h9:opW z=9
  ·have q:(opW z==9)=true:=by simpa using h9
   have ht:past z=false:=by rw[HP.out];simp[h9]
   clear HP HK
   go_enter Tryz.func258,Tryz.ntmps258
   go_wp2_with fail
   go_ret
   exact⟨by rw[ht];rfl,0,rfl⟩
  have q9:(opW z==9)=false:=by simpa using h9
  by_cases h10:opW z=10
  ·have q:(opW z==10)=true:=by simpa using h10
   have ht:past z=false:=by rw[HP.out];simp[h10]
   clear HP HK
   go_enter Tryz.func258,Tryz.ntmps258
   go_wp2_with fail
   go_ret
   exact⟨by rw[ht];rfl,0,rfl⟩
  have q10:(opW z==10)=false:=by simpa using h10
  have HP2:Hid (past z=(kids z).all past):=Lib.hid (by rw[HP.out];simp[h8,h9,h10])
  clear HP h8 h9 h10
  generalize kids z=L at*
  generalize past z=t at*
  generalize opW z=op at*
  go_enter Tryz.func258,Tryz.ntmps258
  go_wp2_with fail
  go_loopw [3,28] (fun x i wr=>∃k:Nat,k≤L.length∧i=.int .i64 k∧Hid (∃m,wr=w.drewN m)∧Hid ((L.take k).all past=true)) (fun _ i _=>L.length - (intOf i).toNat)
  case atStart=>exact⟨0,Nat.zero_le _,rfl,Lib.hid ⟨0,rfl⟩,Lib.hid (by simp)⟩
  case round=>
   obtain⟨k,hk,rfl,HB,HN⟩:=hrel
   have c6:wr.cell? ⟨b,o+4,none⟩=some (.slice a L.length c):=by obtain⟨m,hm⟩:=HB.out;rw[hm];exact c6
   by_cases hlt:(k:Int)<(L.length:Int)
   ·have hd:decide ((k:Int)<(L.length:Int))=true:=by simpa using hlt
    have hk':k<L.length:=by omega
    obtain⟨B,O,rfl,hC⟩:=HK.out k hk'
    have HC:Hid (Calls Tryz.prog 258 #[.pointer (some ⟨B,O+k*5,none⟩)] wr (Tells (past L[k]) wr)):=Lib.hid (by obtain⟨m,hm⟩:=HB.out;rw[hm];exact hC m)
    have HT:Hid (past L[k]=false→L.all past=false):=Lib.hid (fun h=>by rw[List.all_eq_false];exact⟨L[k],List.getElem_mem hk',by simp[h]⟩)
    have HS:Hid (past L[k]=true→(L.take (k+1)).all past=true):=Lib.hid (fun h=>by rw[List.take_succ_eq_append_getElem hk',List.all_append,HN.out];simp[h])
    clear hC
    generalize past L[k]=u at*
    go_wp2_with fail
    refine HC.out.mono ?_
    rintro e w1 ⟨rfl,m,rfl⟩
    have HB1:Hid (∃q,wr.drewN m=w.drewN q):=Lib.hid (by obtain⟨q,hq⟩:=HB.out;exact⟨q+m,by rw[hq,World.drewN_drewN]⟩)
    cases u with
    |false=>
     have HF:=Lib.hid (HP2.out.trans (HT.out rfl))
     clear HT HS HC c6
     go_wp2_with fail
     go_ret
     exact⟨congrArg (fun x=>Ending.returned (.bool x)) HF.out.symm,HB1.out⟩
    |true=>
     have HF:=Lib.hid (HS.out rfl)
     clear HT HS HC c6
     go_wp2_with fail
     go_roundw
     case rel=>exact⟨k+1,by omega,by go_num,HB1,HF⟩
     case measure=>simp[intOf];omega
   ·have hd:decide ((k:Int)<(L.length:Int))=false:=by simpa using hlt
    have HF:Hid (t=true):=Lib.hid (by have:=HN.out;rw[List.take_of_length_le (by omega)] at this;exact HP2.out.trans this)
    go_wp2_with fail
    go_ret
    exact⟨congrArg (fun x=>Ending.returned (.bool x)) HF.out.symm,HB.out⟩
set_option maxRecDepth 100000 in
set_option maxHeartbeats 4000000 in
theorem node256 {w:World} {op:Int} {a:Option Addr} {n c:Nat}:Calls Tryz.prog 256 #[.int .i64 op,.slice a n c] w fun e w'=>e=.returned (.agg #[.int .i64 op,.string ⟨#[]⟩,.int .i64 0,.int .i64 0,.slice a n c])∧Below w.heap.size w w'∧w.drawn≤w'.drawn:=by
 go_enter Tryz.func256,Tryz.ntmps256
 go_wp2_with fail
 have k0:=cell_new w #[.int .i64 op,.string ⟨#[]⟩,.int .i64 0,.int .i64 0,.slice a n c] 48 0
 have k1:=cell_new w #[.int .i64 op,.string ⟨#[]⟩,.int .i64 0,.int .i64 0,.slice a n c] 48 1
 have k2:=cell_new w #[.int .i64 op,.string ⟨#[]⟩,.int .i64 0,.int .i64 0,.slice a n c] 48 2
 have k3:=cell_new w #[.int .i64 op,.string ⟨#[]⟩,.int .i64 0,.int .i64 0,.slice a n c] 48 3
 have k4:=cell_new w #[.int .i64 op,.string ⟨#[]⟩,.int .i64 0,.int .i64 0,.slice a n c] 48 4
 simp only[List.getElem?_toArray,List.getElem?_cons_succ,List.getElem?_cons_zero] at k0 k1 k2 k3 k4
 refine bodyPost_ret (v:=.agg #[.int .i64 op,.string ⟨#[]⟩,.int .i64 0,.int .i64 0,.slice a n c]) (by
  simp[results,Tryz.f256,go_sem,k0,k1,k2,k3,k4]) rfl ⟨rfl,(Below.refl _ _).alloc (Nat.le_refl _) _,Nat.le_refl _⟩
end
section
open Go.RowKit Go.Sort
variable {n0:Nat}
theorem appendE2 {w0 W:World} {lo cap sb so cc:Nat} {a:Option Addr} {xs news:List (El n0 w0)} (h:ListAt W lo a cap xs) (hlo:lo≤W.heap.size)
  (hsrc:∀j (h:j<news.length) c v,(encE news[j])[c]? =some v→W.cell? ⟨sb,so+j*5+c,none⟩=some v) (hne:0<news.length) (hcap:cap≤maxLen) (hsm:xs.length+news.length≤1000000):
  ∃a' cap' W',(Builtin.append_ #[46,46] 46 #[.slice a xs.length cap,.slice (some ⟨sb,so,none⟩) news.length cc]).run Tryz.prog W=.ok (.slice a' (xs.length+news.length) cap') W'∧ListAt W' lo a' cap' (xs++news)∧
   ((∃blk,a=some ⟨blk,0,none⟩∧a'=some ⟨blk,0,none⟩∧W.grownBy W' (some blk))∨(a'=some ⟨W.heap.size,0,none⟩∧W.grownBy W' none))∧W.drawn≤W'.drawn∧cap'≤maxLen:=by
 obtain⟨i,hi,hz,hs,hb⟩:=info_parts Tryz.info48
 have hnews:=cellsE_at hsrc
 have hnl:(news.flatMap encE).length=news.length*i.size:=by rw[cellsE_len,hs]
 by_cases hr:xs.length+news.length≤cap
 ·rcases h with⟨rfl,rfl,rfl⟩|⟨blk,rfl,hb1,hlc,cs,T,hB,hcs,hcc⟩
  ·rw[List.length_nil] at hr;omega
  ·have hrun:=append_room Tryz.prog W 46 46 48 T i Tryz.underlying46 hi blk xs.length cap cs hB ⟨sb,so,none⟩ news.length cc (news.flatMap encE) hnl hnews (cellsE_one news) hr (by rw[hs,hcs,cellsE_len];omega)
   rw[hs] at hrun
   have hcl:cs.toList.length=cap*5:=by rw[←hcs];exact Array.length_toList
   have hlt:(cs.toList.take (xs.length*5)).length=xs.length*5:=by rw[List.length_take,hcl];omega
   refine⟨_,cap,_,hrun,.inr ⟨blk,rfl,hb1,by simpa using hr,_,T,setRow_heap W blk cs _ T _ hB,?_,fun j hj c hc=>?_⟩,.inl ⟨blk,rfl,rfl,⟨rfl,rfl,rfl,by simp[World.setRow],fun k _ hk=>setRow_other W blk k _ (fun e=>hk (by rw[e]))⟩⟩,Nat.le_refl _,hcap⟩
   ·simp only[List.size_toArray,List.length_append,hlt,List.length_drop,hcl,cellsE_len]
    omega
   ·rw[List.getElem?_toArray]
    by_cases hj1:j<xs.length
    ·rw[get_mid (by omega),List.getElem?_take,if_pos (by omega),Array.getElem?_toList,hcc j hj1 c hc,List.getElem_append_left hj1]
    ·have hj2:j - xs.length<news.length:=by simp at hj;omega
     rw[List.append_assoc,List.getElem?_append_right (by omega),hlt,List.getElem?_append_left (by rw[cellsE_len];omega),show j*5+c - xs.length*5=(j - xs.length)*5+c by omega,cellsE_get news _ hj2 c hc,List.getElem_append_right (by omega)]
 ·have hxc:xs.length≤cap:=by
   rcases h with⟨rfl,rfl,rfl⟩|⟨blk,rfl,hb1,hlc,_⟩
   ·simp
   ·exact hlc
  have hold:(Builtin.firstCells i.size xs.length (.slice a xs.length cap)).run Tryz.prog W.drew=.ok (xs.flatMap encE).toArray W.drew:=by
   rcases h with⟨rfl,rfl,rfl⟩|⟨blk,rfl,hb1,hR⟩
   ·exact run_firstCells_none W.drew i.size 0 0 0
   ·refine run_firstCells_some W.drew i.size xs.length ⟨blk,0,none⟩ xs.length cap _ (by rw[cellsE_len,hs]) (cellsE_at fun j hj c v hv=>?_)
    obtain⟨hlc,cs,T,hB,hcs,hcc⟩:=hR
    have hc5:c<5:=by have:=(List.getElem?_eq_some_iff.1 hv).1;rwa[encE_len] at this
    have:=hcc j hj c hc5
    rw[hv] at this
    show W.cell? _=_
    simp[World.cell?,hB,this]
  have hrun:=run_append_grow_src (P:=Tryz.prog) W 46 46 46 48 i _ Tryz.underlying46 hi hz a xs.length cap (xs.flatMap encE) hold (.slice (some ⟨sb,so,none⟩) news.length cc) news.length (news.flatMap encE) (Src.ofSlice W Tryz.underlying46 ⟨sb,so,none⟩ news.length cc _ hnl hnews (cellsE_one news)) (by omega) (by omega) (growslice_fits (by omega) (by rw[hb];omega))
  have hge:=grownCap_ge W (xs.length+news.length) cap 48
  have hgm:=grownCap_le_maxLen W (xs.length+news.length) cap 48 (by unfold maxLen;omega)
  refine⟨_,_,_,hrun,.inr ⟨W.heap.size,rfl,hlo,by simpa using hge,_,_,World.alloc_heap_new W.drew _,?_,fun j hj c hc=>?_⟩,.inr ⟨rfl,⟨rfl,rfl,rfl,by simp,fun k hk _=>heap_alloc_old W.drew _ hk⟩⟩,Nat.le_succ _,hgm⟩
  ·simp only[Array.size_append,List.size_toArray,List.length_append,cellsE_len,size_zeroCells]
   have e2:(Value.cells (.agg #[.int .i64 0,.string ⟨#[]⟩,.int .i64 0,.int .i64 0,.slice none 0 0])).size=5:=rfl
   rw[e2]
   omega
  ·have hj':j<xs.length+news.length:=by simpa using hj
   rw[Array.getElem?_append_left (by simp only[List.size_toArray,List.length_append,cellsE_len];omega),List.getElem?_toArray,←List.flatMap_append,cellsE_get _ j hj c hc]
structure Sub (U U':World):Prop where
 size:U.heap.size≤U'.heap.size
 blk:∀(k:Nat) (cs:Array Value) (T:TypeId) (f:Nat×Nat),U.heap[k]? =some (.cells cs T f)→U'.heap[k]? =some (.cells cs T f)
theorem Sub.cell {U U':World} (h:Sub U U') {a:Addr} {v:Value} (hc:U.cell? a=some v):U'.cell? a=some v:=by
 unfold World.cell? at hc ⊢
 cases hk:U.heap[a.block]? with
 |none=>rw[hk] at hc;simp at hc
 |some o=>
  cases o with
  |cells cs T f=>rw[hk] at hc;rw[h.blk _ _ _ _ hk];exact hc
  |_=>rw[hk] at hc;simp at hc
theorem Sub.fat {U U':World} (h:Sub U U'):∀ {f:Fs} {b o:Nat},FAt U f b o→FAt U' f b o
 | .nil,_,_,_=>trivial
 | .cons op nm v bd args rest,b,o,⟨c0,c1,c2,c3,c4,c5,⟨a,c,c6,cc,c7⟩,c8⟩=>
  ⟨h.cell c0,h.cell c1,c2,h.cell c3,h.cell c4,c5,⟨a,c,h.cell c6,cc,fun h0=>by
   obtain⟨b',o',e,hb,hf⟩:=c7 h0
   exact⟨b',o',e,Nat.lt_of_lt_of_le hb h.size,h.fat hf⟩⟩,h.fat c8⟩
theorem Sub.lone {U U':World} (h:Sub U U') {n b:Nat} (hl:Lone n U b):Lone n U' b:=by
 obtain⟨h1,cs,t,h2⟩:=hl
 exact⟨h1,cs,t,h.blk _ _ _ _ h2⟩
theorem Sub.pat {U U':World} (h:Sub U U') {n:Nat}:∀ {f:Fs} {b o:Nat},FAt U f b o→PAt n U f b o→PAt n U' f b o
 | .nil,_,_,_,_=>trivial
 | .cons op nm v bd args rest,b,o,⟨_,_,_,_,_,_,⟨a,c,c6,_,c7⟩,c8⟩,⟨h1,h2⟩=>
  ⟨fun p o' l c' e h0=>by
   have e1:=h.cell c6
   rw[e1] at e
   obtain⟨b',o'',ea,hb',hf⟩:=c7 h0
   subst ea
   simp only[Option.some.injEq,Value.slice.injEq,Addr.mk.injEq,and_true] at e
   obtain⟨⟨rfl,rfl⟩,rfl,rfl⟩:=e
   obtain⟨k1,k2⟩:=h1 _ _ _ _ c6 h0
   exact⟨h.lone k1,h.pat hf k2⟩,h.pat c8 h2⟩
theorem Sub.ela {U U':World} (h:Sub U U') {n:Nat} {x:ElA} (hx:x.ok n U):x.ok n U':=by
 obtain⟨h1,h2,h3⟩:=hx
 refine⟨fun h0=>?_,fun p o e h0=>?_,h3⟩
 ·obtain⟨b,o,e,hb,hf⟩:=h1 h0
  exact⟨b,o,e,Nat.lt_of_lt_of_le hb h.size,h.fat hf⟩
 ·obtain⟨b,o',e',_,hf⟩:=h1 h0
  rw[e] at e'
  simp only[Option.some.injEq,Addr.mk.injEq,and_true] at e'
  obtain⟨rfl,rfl⟩:=e'
  obtain⟨k1,k2⟩:=h2 p o e h0
  exact⟨h.lone k1,h.pat hf k2⟩
theorem keepQ {w W:World} {n:Nat} (hs:w.heap.size≤W.heap.size) (hq:∀k,n≤k→W.heap[k]? =w.heap[k]?):∀ {f:Fs} {b o:Nat},n≤b→FAt w f b o→PAt n w f b o→FAt W f b o∧PAt n W f b o
 | .nil,_,_,_,_,_=>⟨trivial,trivial⟩
 | .cons op nm v bd args rest,b,off,hb,⟨c0,c1,c2,c3,c4,c5,⟨a,c,c6,cc,c7⟩,c8⟩,⟨h1,h2⟩=>by
  have hc:∀i,W.cell? ⟨b,i,none⟩=w.cell? ⟨b,i,none⟩:=fun i=>World.cell?_of_block (hq b hb)
  obtain⟨i1,i2⟩:=keepQ hs hq hb c8 h2
  have hsub:args.len≠0→∃b' o',a=some ⟨b',o',none⟩∧b'<w.heap.size∧Lone n W b'∧FAt W args b' o'∧PAt n W args b' o':=fun h0=>by
   obtain⟨b',o',rfl,hb',hat⟩:=c7 h0
   obtain⟨hl,hp⟩:=h1 b' o' _ _ c6 h0
   obtain⟨j1,j2⟩:=keepQ hs hq hl.1 hat hp
   obtain⟨g1,cs,t,g2⟩:=hl
   exact⟨b',o',rfl,hb',⟨g1,cs,t,(hq b' g1).trans g2⟩,j1,j2⟩
  refine⟨⟨(hc _).trans c0,(hc _).trans c1,c2,(hc _).trans c3,(hc _).trans c4,c5,⟨a,c,(hc _).trans c6,cc,fun h0=>?_⟩,i1⟩,fun p o l c' e h0=>?_,i2⟩
  ·obtain⟨b',o',e,hb',_,j1,_⟩:=hsub h0
   exact⟨b',o',e,Nat.lt_of_lt_of_le hb' hs,j1⟩
  ·rw[hc,c6] at e
   obtain⟨b',o',rfl,_,j0,_,j2⟩:=hsub h0
   simp only[Option.some.injEq,Value.slice.injEq,Addr.mk.injEq,and_true] at e
   obtain⟨⟨rfl,rfl⟩,_⟩:=e
   exact⟨j0,j2⟩
theorem ElA.keepQ {w W:World} {x:ElA} {n:Nat} (h:x.ok n w) (hs:w.heap.size≤W.heap.size) (hq:∀k,n≤k→W.heap[k]? =w.heap[k]?):x.ok n W:=by
 obtain⟨h1,h2,h3⟩:=h
 have hsub:x.args.len≠0→∃b o,x.a=some ⟨b,o,none⟩∧b<W.heap.size∧FAt W x.args b o∧Lone n W b∧PAt n W x.args b o:=fun h0=>by
  obtain⟨b,o,e,hb,hat⟩:=h1 h0
  obtain⟨hl,hp⟩:=h2 b o e h0
  obtain⟨j1,j2⟩:=Go.Proofs.YtckdgniecdfedaaGreatDoor.keepQ hs hq hl.1 hat hp
  obtain⟨g1,cs,t,g2⟩:=hl
  exact⟨b,o,e,Nat.lt_of_lt_of_le hb hs,j1,⟨g1,cs,t,(hq b g1).trans g2⟩,j2⟩
 refine⟨fun h0=>?_,fun p o e h0=>?_,h3⟩
 ·obtain⟨b,o,e,hb,j,_⟩:=hsub h0
  exact⟨b,o,e,hb,j⟩
 ·obtain⟨b,o',e',_,_,j1,j2⟩:=hsub h0
  rw[e] at e'
  simp only[Option.some.injEq,Addr.mk.injEq,and_true] at e'
  obtain⟨rfl,rfl⟩:=e'
  exact⟨j1,j2⟩
def hp (r O:Nat) (a:Option Addr) (k:Nat):Bool:=k==r||k==O||(match a with|some p=>k==p.block|none=>false)
theorem dim_cells {p:Nat→Bool} {w:World} {k:Nat} {cs:Array Value} {T:TypeId} {f:Nat×Nat} (h:(dim p w).heap[k]? =some (.cells cs T f)):p k=false∧w.heap[k]? =some (.cells cs T f):=by
 rw[dim_get] at h
 cases hk:w.heap[k]? with
 |none=>rw[hk] at h;simp at h
 |some o=>
  rw[hk] at h
  cases hpk:p k with
  |true=>rw[hpk] at h;simp at h
  |false=>rw[hpk] at h;simpa using h
theorem dim_of {p:Nat→Bool} {w:World} {k:Nat} (h:p k=false):(dim p w).heap[k]? =w.heap[k]? :=by
 rw[dim_get,h];cases w.heap[k]? <;>rfl
theorem dim_sub (p:Nat→Bool) (w:World):Sub (dim p w) w:=⟨Nat.le_of_eq (dim_size p w),fun _ _ _ _ h=>(dim_cells h).2⟩
theorem dim_later {p q:Nat→Bool} {w w':World} (hs:w.heap.size≤w'.heap.size) (h:∀k,k<w.heap.size→p k=false→q k=false∧w'.heap[k]? =w.heap[k]?):Sub (dim p w) (dim q w'):=
 ⟨by rw[dim_size,dim_size];exact hs,fun k cs T f e=>by
  obtain⟨h1,h2⟩:=dim_cells e
  obtain⟨h3,h4⟩:=h k (Array.getElem?_eq_some_iff.1 h2).1 h1
  rw[dim_of h3,h4];exact h2⟩
def LA (W:World) (lo:Nat) (a:Option Addr) (cap:Nat) (ys:List ElA):Prop:=(a=none∧ys=[]∧cap=0)∨∃blk,a=some ⟨blk,0,none⟩∧lo≤blk∧ys.length≤cap∧∃cs T,W.heap[blk]? =some (.cells cs T (0,0))∧cs.size=cap*5∧∀j (h:j<ys.length) c,c<5→cs[j*5+c]? =ys[j].enc[c]?
structure AgS (n r O lo:Nat) (a:Option Addr) (cap:Nat) (ys:List ElA) (W:World):Prop where
 list:LA W lo a cap ys
 els:∀y∈ys,y.ok n (dim (hp r O a) W)
 cap:cap≤maxLen
theorem AgS.below {n r O lo cap:Nat} {a:Option Addr} {ys:List ElA} {W W':World} (h:AgS n r O lo a cap ys W) (hB:RowKit.Below W.heap.size W W'):AgS n r O lo a cap ys W':=by
 refine⟨?_,fun y hy=>(dim_later hB.size fun k hk hp=>⟨hp,hB.block k hk⟩).ela (h.els y hy),h.cap⟩
 rcases h.list with⟨h1,h2,h3⟩|⟨blk,h1,h2,h3,cs,T,h4,h5⟩
 ·exact .inl ⟨h1,h2,h3⟩
 ·exact .inr ⟨blk,h1,h2,h3,cs,T,(hB.block blk (Array.getElem?_eq_some_iff.1 h4).1).trans h4,h5⟩
theorem AgS.lt {n r O lo cap:Nat} {a:Option Addr} {ys:List ElA} {W:World} (h:AgS n r O lo a cap ys W) {p:Addr} (e:a=some p):p.block<W.heap.size:=by
 rcases h.list with⟨h1,_⟩|⟨blk,h1,_,_,cs,T,h4,_⟩
 ·rw[h1] at e;cases e
 ·rw[h1] at e;cases e;exact(Array.getElem?_eq_some_iff.1 h4).1
theorem AgS.put {n r O lo cap:Nat} {a:Option Addr} {ys:List ElA} {W:World} (h:AgS n r O lo a cap ys W) {q:Nat} (hq:q=r∨q=O) (hlo:q<lo) (j:Nat) (v:Value):AgS n r O lo a cap ys (W.setCell ⟨q,j,none⟩ v):=by
 have ho:∀k,k≠q→(W.setCell ⟨q,j,none⟩ v).heap[k]? =W.heap[k]? :=fun k hk=>heap_setCell_other W ⟨q,j,none⟩ k v hk
 refine⟨?_,fun y hy=>(dim_later (by simp) fun k hk hpk=>⟨hpk,ho k fun e=>?_⟩).ela (h.els y hy),h.cap⟩
 ·rcases h.list with⟨h1,h2,h3⟩|⟨blk,h1,h2,h3,cs,T,h4,h5⟩
  ·exact .inl ⟨h1,h2,h3⟩
  ·exact .inr ⟨blk,h1,h2,h3,cs,T,(ho blk (by omega)).trans h4,h5⟩
 ·subst e
  unfold hp at hpk
  rcases hq with rfl|rfl<;>simp at hpk
def mkE {n:Nat} {U:World} (y:ElA) (h:y.ok n U):El n U:=⟨y,h⟩
def unE {n:Nat} {U:World} (x:El n U):ElA:=x.1
theorem pack {n:Nat} {U:World}:∀ys:List ElA,(∀y∈ys,y.ok n U)→∃xs:List (El n U),xs.map unE=ys
 |[],_=>⟨[],rfl⟩
 |y::ys,h=>by
  obtain⟨xs,e⟩:=pack ys fun z hz=>h z (by simp[hz])
  exact⟨mkE y (h y (by simp))::xs,by rw[List.map_cons,e];rfl⟩
theorem AgS.add {n r O lo cap sb:Nat} {a:Option Addr} {ys:List ElA} {W:World} (h:AgS n r O lo a cap ys W) {y:ElA} {m:Nat} (hy:y.ok m W) (hnm:n≤m) (hr:r<m) (hO:O<m) (ha:∀p,a=some p→p.block<m)
  (hsrc:∀c v,y.enc[c]? =some v→W.cell? ⟨sb,c,none⟩=some v) (hlo:lo≤W.heap.size) (hsm:ys.length+1≤1000000):
  ∃a' cap' W',(Builtin.append_ #[46,46] 46 #[.slice a ys.length cap,.slice (some ⟨sb,0,none⟩) 1 1]).run Tryz.prog W=.ok (.slice a' (ys.length+1) cap') W'∧AgS n r O lo a' cap' (ys++[y]) W'∧
   W.heap.size≤W'.heap.size∧(∀k,k<W.heap.size→(k<lo)→W'.heap[k]? =W.heap[k]?)∧RowKit.Below lo W W'∧W.drawn≤W'.drawn:=by
 have hpm:∀k,m≤k→hp r O a k=false:=fun k hk=>by
  unfold hp
  have h1:(k==r)=false:=by simp;omega
  have h2:(k==O)=false:=by simp;omega
  rw[h1,h2]
  cases e:a with
  |none=>rfl
  |some p=>have:=ha p e;simp;omega
 have hyd:y.ok n (dim (hp r O a) W):=ElA.mono (ElA.keepQ hy (Nat.le_of_eq (dim_size _ _).symm) fun k hk=>dim_of (hpm k hk)) hnm
 obtain⟨xs,hxs⟩:=pack ys h.els
 have hxl:xs.length=ys.length:=by rw[←hxs,List.length_map]
 have hL:ListAt W lo a cap xs:=by
  rcases h.list with⟨h1,h2,h3⟩|⟨blk,h1,h2,h3,cs,T,h4,h5,h6⟩
  ·exact .inl ⟨h1,List.length_eq_zero_iff.1 (hxl.trans (by rw[h2];rfl)),h3⟩
  ·refine .inr ⟨blk,h1,h2,by omega,cs,T,h4,h5,fun j hj c hc=>?_⟩
   have:=h6 j (by omega) c hc
   rw[this]
   have e:ys[j]'(by omega)=unE (xs[j]):=by subst hxs;rw[List.getElem_map]
   rw[e];rfl
 obtain⟨a',cap',W',hrun,h1,h2,h3,h4⟩:=appendE2 (news:=[mkE y hyd]) (sb:=sb) (so:=0) (cc:=1) hL hlo (fun j hj c v hv=>by
  have hj0:j=0:=by simp at hj;omega
  subst hj0
  have:=hsrc c v hv
  rwa[show 0+0*5+c=c by omega]) (by simp) h.cap (by simp;omega)
 rw[hxl] at hrun
 have hmap:(xs++[mkE y hyd]).map unE=ys++[y]:=by rw[List.map_append,hxs];rfl
 have hLA:LA W' lo a' cap' (ys++[y]):=by
  rcases h1 with⟨k1,k2,k3⟩|⟨blk,k1,k2,k3,cs,T,k4,k5,k6⟩
  ·simp at k2
  ·refine .inr ⟨blk,k1,k2,by rw[←hmap,List.length_map];exact k3,cs,T,k4,k5,fun j hj c hc=>?_⟩
   have hj':j<(xs++[mkE y hyd]).length:=by simp at hj ⊢;omega
   rw[k6 j hj' c hc]
   have e:(ys++[y])[j]'hj=unE ((xs++[mkE y hyd])[j]'hj'):=by
    have:(ys++[y])[j]'hj=((xs++[mkE y hyd]).map unE)[j]'(by simpa using hj'):=by simp only[hmap]
    rw[this,List.getElem_map]
   rw[e];rfl
 have hels:∀z∈ys++[y],z.ok n (dim (hp r O a) W):=fun z hz=>by
  rcases List.mem_append.1 hz with hz|hz
  ·exact h.els z hz
  ·rw[List.mem_singleton.1 hz];exact hyd
 refine⟨a',cap',W',hrun,⟨hLA,fun z hz=>?_,h4⟩,?_,?_,?_,h3⟩
 ·rcases h2 with⟨blk,rfl,rfl,hg⟩|⟨rfl,hg⟩
  ·refine(dim_later hg.size fun k hk hpk=>⟨hpk,hg.block k hk fun e=>?_⟩).ela (hels z hz)
   cases e
   simp[hp] at hpk
  ·refine(dim_later hg.size fun k hk hpk=>⟨?_,hg.block k hk (by simp)⟩).ela (hels z hz)
   unfold hp at hpk ⊢
   simp only[Bool.or_eq_false_iff] at hpk ⊢
   exact⟨hpk.1,by simp;omega⟩
 ·rcases h2 with⟨blk,rfl,rfl,hg⟩|⟨rfl,hg⟩<;>exact hg.size
 ·intro k hk hkl
  rcases h2 with⟨blk,rfl,rfl,hg⟩|⟨rfl,hg⟩
  ·refine hg.block k hk fun e=>?_
   cases e
   rcases h.list with⟨h1,_⟩|⟨blk',h1,h2',_⟩
   ·cases h1
   ·cases h1;omega
  ·exact hg.block k hk (by simp)
 ·rcases h2 with⟨blk,rfl,rfl,hg⟩|⟨rfl,hg⟩
  ·refine(RowKit.Below.refl lo W).grown hg hlo fun k e=>?_
   cases e
   rcases h.list with⟨h1,_⟩|⟨blk',h1,h2',_⟩
   ·cases h1
   ·cases h1;exact h2'
  ·exact(RowKit.Below.refl lo W).grown hg hlo fun k e=>by cases e
end
section
open Go.RowKit Go.Sort
structure AgL (l:List Sg) (x:Int) (w:World) (z:Wf) (i:Nat) (a:Option Addr) (cap:Nat) (ys:List ElA) (W:World):Prop where
 out:W.heap[w.heap.size+1]? =some (.cells #[.int .i64 (opW z),.string (nmW z),.int .i64 (vW (aged (rho l x) z)),.int .i64 0,.slice a i cap] 48 (0,0))
 res:W.heap[w.heap.size]? =some (.cells zero48 48 (0,0))
 bel:RowKit.Below w.heap.size w W
 drawn:w.drawn≤W.drawn
 list:AgS (w.heap.size+2) w.heap.size (w.heap.size+1) (w.heap.size+2) a cap ys W
 len:ys.length=i
 trees:ys.map ElA.tree=((kids z).take i).map fun k=>tr (aged (rho l x) k)
theorem AgL.cell {l:List Sg} {x:Int} {w:World} {z:Wf} {i:Nat} {a:Option Addr} {cap:Nat} {ys:List ElA} {W:World} (h:AgL l x w z i a cap ys W):W.cell? ⟨w.heap.size+1,4,none⟩=some (.slice a i cap)∧W.frozen? ⟨w.heap.size+1,4,none⟩=false:=by
 simp[World.cell?,World.frozen?,h.out]
theorem AgL.lt {l:List Sg} {x:Int} {w:World} {z:Wf} {i:Nat} {a:Option Addr} {cap:Nat} {ys:List ElA} {W:World} (h:AgL l x w z i a cap ys W):w.heap.size+2≤W.heap.size:=(Array.getElem?_eq_some_iff.1 h.out).1
theorem AgL.step {l:List Sg} {x:Int} {w:World} {z:Wf} {i:Nat} {a:Option Addr} {cap:Nat} {ys:List ElA} {W W2:World} (h:AgL l x w z i a cap ys W) (hi:i<(kids z).length) (hn:(kids z).length≤100000) {y:ElA} (hy:y.ok W.heap.size W2) (ht:y.tree=tr (aged (rho l x) (kids z)[i])) (hB:RowKit.Below W.heap.size W W2) (hd:W.drawn≤W2.drawn):
  ∃a' cap' W',(Builtin.append_ #[46,46] 46 #[.slice a i cap,.slice (some ⟨W2.heap.size,0,none⟩) 1 1]).run Tryz.prog (W2.alloc (.cells y.enc.toArray 48))=.ok (.slice a' (i+1) cap') W'∧
   W'.cell? ⟨w.heap.size+1,4,none⟩=some (.slice a i cap)∧W'.frozen? ⟨w.heap.size+1,4,none⟩=false∧Hid (AgL l x w z (i+1) a' cap' (ys++[y]) (W'.setCell ⟨w.heap.size+1,4,none⟩ (.slice a' (i+1) cap'))):=by
 have hlt:=h.lt
 have hB2:RowKit.Below W.heap.size W (W2.alloc (.cells y.enc.toArray 48)):=hB.alloc hB.size _
 have hyW:=ElA.keep hy ((RowKit.Below.refl _ W2).alloc (Nat.le_refl _) (.cells y.enc.toArray 48))
 have hout:=(hB2.block _ (show w.heap.size+1<W.heap.size by omega)).trans h.out
 have hres:=(hB2.block _ (show w.heap.size<W.heap.size by omega)).trans h.res
 have hsz:=hB2.size
 obtain⟨a',cap',W',hrun,h1,h2,h3,h4,h5⟩:=(h.list.below hB2).add (sb:=W2.heap.size) hyW hlt (by omega) (by omega) (fun p e=>h.list.lt e) (fun c v hv=>by
  have:=cell_new W2 y.enc.toArray 48 c
  rw[this];simpa using hv) (by omega) (by rw[h.len];omega)
 rw[h.len] at hrun
 have hlen:y.enc.length=5:=rfl
 have ho':=(h3 (w.heap.size+1) (by omega) (by omega)).trans hout
 have hr':=(h3 w.heap.size (by omega) (by omega)).trans hres
 refine⟨a',cap',W',hrun,by simp[World.cell?,ho'],by simp[World.frozen?,ho'],Lib.hid ⟨?_,?_,?_,?_,?_,by simp[h.len],?_⟩⟩
 ·exact heap_setCell_same W' _ 4 _ 48 _ ho'
 ·exact(heap_setCell_other W' ⟨w.heap.size+1,4,none⟩ _ _ (Nat.ne_of_lt (Nat.lt_succ_self _))).trans hr'
 ·exact((h.bel.trans (hB2.mono (by omega))).trans (h4.mono (by omega))).setCell (Nat.le_succ _) _
 ·exact Nat.le_trans h.drawn (Nat.le_trans hd h5)
 ·exact h1.put (.inr rfl) (by omega) 4 _
 ·rw[List.map_append,h.trees,List.take_succ_eq_append_getElem hi,List.map_append]
  simp[ht]
theorem opW_aged (ρ:ByteArray→Int→Bool) (z:Wf):opW (aged ρ z)=opW z∧nmW (aged ρ z)=nmW z∧kids (aged ρ z)=(kids z).map (aged ρ):=by
 cases z with
 |con k L=>exact⟨rfl,rfl,ageds_map ρ L⟩
 |_=>simp[aged,opW,nmW,kids]
theorem ok_kid {z x:Wf} (h:ok z=true) (hx:x∈kids z):ok x=true:=by
 cases z with
 |con k l=>exact(oks_all l).1 h x hx
 |nis nm v=>simp[kids] at hx;rw[hx];rfl
 |next a=>simp[kids] at hx;rw[hx];exact h
 |yes v a=>simp[kids] at hx;simp only[ok,Bool.and_eq_true] at h;rw[hx];exact h.2
 |unt a b=>simp[kids] at hx;simp only[ok,Bool.and_eq_true] at h;rcases hx with rfl|rfl;exact h.1;exact h.2
 |rel a b=>simp[kids] at hx;simp only[ok,Bool.and_eq_true] at h;rcases hx with rfl|rfl;exact h.1;exact h.2
 |snc k v a b=>simp[kids] at hx;simp only[ok,Bool.and_eq_true] at h;rcases hx with rfl|rfl;exact h.1.2;exact h.2
 |_=>simp[kids] at hx
theorem gdp_kid {p:ByteArray→Int→Bool} {z x:Wf} (h:gdp p z=true) (hx:x∈kids z):gdp p x=true:=by
 cases z with
 |con k l=>simp only[gdp,Bool.and_eq_true] at h;exact(gdps_all p l).1 h.2 x hx
 |nis nm v=>simp[kids] at hx;rw[hx];exact h
 |next a=>simp[kids] at hx;rw[hx];exact h
 |yes v a=>simp[kids] at hx;rw[hx];exact h
 |unt a b=>simp[kids] at hx;simp only[gdp,Bool.and_eq_true] at h;rcases hx with rfl|rfl;exact h.1;exact h.2
 |rel a b=>simp[kids] at hx;simp only[gdp,Bool.and_eq_true] at h;rcases hx with rfl|rfl;exact h.1;exact h.2
 |snc k v a b=>simp[kids] at hx;simp only[gdp,Bool.and_eq_true] at h;rcases hx with rfl|rfl;exact h.1;exact h.2
 |_=>simp[kids] at hx
theorem vW_aged (ρ:ByteArray→Int→Bool) (z:Wf):(∃v a,z=.yes v a∧vW (aged ρ z)=bI (now ρ a))∨(∃k v a b,z=.snc k v a b∧vW (aged ρ z)=bI (now ρ z))∨((opW z==15)=false∧(opW z==16)=false∧(opW z==17)=false∧vW (aged ρ z)=vW z):=by
 cases z with
 |yes v a=>exact .inl ⟨v,a,rfl,by simp only[aged,vW]⟩
 |snc k v a b=>exact .inr (.inl ⟨k,v,a,b,rfl,by cases k<;>simp only[aged,vW,now]⟩)
 |con k L=>cases k<;>exact .inr (.inr ⟨rfl,rfl,rfl,rfl⟩)
 |_=>exact .inr (.inr ⟨rfl,rfl,rfl,by simp[aged,vW]⟩)
theorem AgL.whole {l:List Sg} {x:Int} {w:World} {z:Wf} {a:Option Addr} {cap:Nat} {ys:List ElA} {W:World} (h:AgL l x w z (kids z).length a cap ys W) (hz:size z≤50000) (hnm:(nmW z).size≤9223372036854775807):
  ElA.ok (w.heap.size+1) W ⟨opW z,nmW z,vW (aged (rho l x) z),0,trs ((kids z).map (aged (rho l x))),a,cap⟩∧(trs ((kids z).map (aged (rho l x)))).len=(kids z).length∧
   (Fs.cons (opW z) (nmW z) (vW (aged (rho l x) z)) 0 (trs ((kids z).map (aged (rho l x)))) .nil)=tr (aged (rho l x) z):=by
 obtain⟨e1,e2,e3⟩:=opW_aged (rho l x) z
 have hlen:(trs ((kids z).map (aged (rho l x)))).len=(kids z).length:=by rw[trs_len,List.length_map]
 have hkl:=kids_len z
 have hsz:sizes ((kids z).map (aged (rho l x)))≤size z:=by
  have h1:=kids_sizes (aged (rho l x) z)
  rw[e3,size_aged] at h1
  exact h1
 have htr:ys.map ElA.tree=((kids z).map (aged (rho l x))).map tr:=by rw[h.trees,List.take_length,List.map_map];rfl
 have hyl:=h.len
 have hok:∀y∈ys,y.ok (w.heap.size+1) W:=fun y hy=>ElA.mono ((dim_sub _ W).ela (h.list.els y hy)) (Nat.le_succ _)
 have hfor:0<(kids z).length→∃blk,a=some ⟨blk,0,none⟩∧w.heap.size+2≤blk∧blk<W.heap.size∧Alone W blk∧FAt W (trs ((kids z).map (aged (rho l x)))) blk 0∧PAt (w.heap.size+1) W (trs ((kids z).map (aged (rho l x)))) blk 0:=fun h0=>by
  rcases h.list.list with⟨_,k2,_⟩|⟨blk,k1,k2,k3,cs,T,k4,k5,k6⟩
  ·rw[k2] at hyl;simp at hyl;omega
  ·obtain⟨f1,f2⟩:=RowA.forest (B:=blk) ys ((kids z).map (aged (rho l x))) 0 hok htr (fun j hj c v hv=>by
    have hc5:c<5:=by have:=(List.getElem?_eq_some_iff.1 hv).1;exact this
    have:=k6 j hj c hc5
    rw[hv] at this
    rw[Nat.zero_add]
    simp[World.cell?,k4,this])
   exact⟨blk,k1,k2,(Array.getElem?_eq_some_iff.1 k4).1,⟨cs,T,k4⟩,f1,f2⟩
 have hcap:(kids z).length≤cap:=by
  rcases h.list.list with⟨_,k2,_⟩|⟨blk,_,_,k3,_⟩
  ·rw[k2] at hyl;simp at hyl;omega
  ·omega
 refine⟨⟨fun h0=>?_,fun p o e h0=>?_,hnm,?_,?_,?_⟩,hlen,?_⟩
 ·obtain⟨blk,k1,_,k3,_,k5,_⟩:=hfor (by rw[←hlen];exact Nat.pos_of_ne_zero h0)
  exact⟨blk,0,k1,k3,k5⟩
 ·obtain⟨blk,k1,k2,_,k4,_,k6⟩:=hfor (by rw[←hlen];exact Nat.pos_of_ne_zero h0)
  have e:a=some ⟨p,o,none⟩:=e
  rw[k1] at e
  simp only[Option.some.injEq,Addr.mk.injEq,and_true] at e
  obtain⟨rfl,rfl⟩:=e
  exact⟨⟨by omega,k4⟩,k6⟩
 ·show(trs _).len≤_
  rw[hlen];omega
 ·show(trs _).len≤_
  rw[hlen];exact hcap
 ·show(trs _).nodes≤_
  rw[sizes_trs];omega
 ·have h1:=trC_eq (aged (rho l x) z) .nil
  rw[e1,e2,e3] at h1
  exact h1.symm
structure AgA (w:World) (op:Int) (nm:ByteArray) (v:Int) (W:World):Prop where
 out:W.heap[w.heap.size+1]? =some (.cells #[.int .i64 op,.string nm,.int .i64 v,.int .i64 0,.slice none 0 0] 48 (0,0))
 res:W.heap[w.heap.size]? =some (.cells zero48 48 (0,0))
 bel:RowKit.Below w.heap.size w W
 drawn:w.drawn≤W.drawn
theorem AgA.drew {w W:World} {op v:Int} {nm:ByteArray} (h:AgA w op nm v W) (m:Nat):AgA w op nm v (W.drewN m):=⟨h.out,h.res,below_drawn h.bel m,Nat.le_trans h.drawn (Nat.le_add_right _ _)⟩
theorem AgA.put {w W:World} {op v:Int} {nm:ByteArray} (h:AgA w op nm v W) (u:Int):AgA w op nm u (W.setCell ⟨w.heap.size+1,2,none⟩ (.int .i64 u)):=
 ⟨heap_setCell_same W _ 2 _ 48 _ h.out,(heap_setCell_other W ⟨w.heap.size+1,2,none⟩ _ _ (Nat.ne_of_lt (Nat.lt_succ_self _))).trans h.res,h.bel.setCell (Nat.le_succ _) _,h.drawn⟩
theorem AgA.cell {w W:World} {op v:Int} {nm:ByteArray} (h:AgA w op nm v W):W.cell? ⟨w.heap.size+1,2,none⟩=some (.int .i64 v)∧W.frozen? ⟨w.heap.size+1,2,none⟩=false:=by
 simp[World.cell?,World.frozen?,h.out]
set_option maxRecDepth 100000 in
set_option maxHeartbeats 40000000 in
theorem aged257 (l:List Sg) (x:Int):∀(N:Nat) (z:Wf),size z<N→size z≤50000→ok z=true→gdp (Kn l) z=true→∀(n0:Nat) (w:World) (R b o:Nat) (r:Fs),n0≤w.heap.size→Rdr w R l x→b<w.heap.size→FAt w (trC z r) b o→
  Calls Tryz.prog 257 #[.pointer (some ⟨R,0,none⟩),.pointer (some ⟨b,o,none⟩)] w (FormOut n0 w (aged (rho l x) z)):=by
 intro N
 induction N with
 |zero=>exact fun _ h=>absurd h (Nat.not_lt_zero _)
 |succ N ih=>
  intro z hN hs ho hg n0 w R b o r hn0 hR hb hF
  have IH:=Lib.hid ih
  clear ih
  have hF':=hF
  rw[trC_eq] at hF'
  obtain⟨c0,c1,c2,c3,c4,c5,⟨a,c,c6,cc, -⟩, -⟩:=hF'
  rw[trs_len] at c5 c6 cc
  have HR:=Lib.hid hR
  have HF:=Lib.hid hF
  clear hR hF
  go_enter Tryz.func257,Tryz.ntmps257
  go_upto_region 1 with fail
  have k0:=cell_new w zero48 48
  have kB:Hid (RowKit.Below w.heap.size w (w.alloc (.cells zero48 48))∧(w.alloc (.cells zero48 48)).heap.size=w.heap.size+1∧(w.alloc (.cells zero48 48)).drawn=w.drawn∧(w.alloc (.cells zero48 48)).heap[w.heap.size]? =some (.cells zero48 48 (0,0))):=Lib.hid ⟨(RowKit.Below.refl w.heap.size w).alloc (Nat.le_refl _) _,by simp,rfl,World.alloc_heap_new w _⟩
  simp only[zero48] at kB
  clear k0
  have e0:=(kB.out.1.cell (p:=⟨b,o,none⟩) hb).trans c0
  have e1:=(kB.out.1.cell (p:=⟨b,o+1,none⟩) hb).trans c1
  have e3:=(kB.out.1.cell (p:=⟨b,o+2,none⟩) hb).trans c3
  generalize w.alloc (.cells #[.int .i64 0,.string ⟨#[]⟩,.int .i64 0,.int .i64 0,.slice none 0 0] 48)=w1 at*
  have hb1:b<w1.heap.size:=Nat.lt_of_lt_of_le hb kB.out.1.size
  have q0:=(World.cell?_alloc_past (.cells #[.int .i64 0,.string ⟨#[]⟩,.int .i64 0,.int .i64 0,.slice none 0 0] 48) b (o) hb1).trans e0
  have q1:=(World.cell?_alloc_past (.cells #[.int .i64 0,.string ⟨#[]⟩,.int .i64 0,.int .i64 0,.slice none 0 0] 48) b (o+1) hb1).trans e1
  have q3:=(World.cell?_alloc_past (.cells #[.int .i64 0,.string ⟨#[]⟩,.int .i64 0,.int .i64 0,.slice none 0 0] 48) b (o+2) hb1).trans e3
  go_region
  clear q0 q1 q3
  have HA2:Hid (AgA w (opW z) (nmW z) (vW z) ((w1.alloc (.cells #[.int .i64 (opW z),.string (nmW z),.int .i64 (vW z),.int .i64 0,.slice none 0 0] 48)).drew)):=Lib.hid ⟨by
   have h:=World.alloc_heap_new w1 (.cells #[.int .i64 (opW z),.string (nmW z),.int .i64 (vW z),.int .i64 0,.slice none 0 0] 48)
   rw[kB.out.2.1] at h
   exact h,(heap_alloc_old w1 _ (by rw[kB.out.2.1];omega)).trans kB.out.2.2.2,below_drawn (kB.out.1.alloc kB.out.1.size _) 1,Nat.le_succ_of_le (Nat.le_of_eq kB.out.2.2.1.symm)⟩
  rw[kB.out.2.1]
  generalize (w1.alloc (.cells #[.int .i64 (opW z),.string (nmW z),.int .i64 (vW z),.int .i64 0,.slice none 0 0] 48)).drew=w2 at*
  clear e0 e1 e3 hb1 kB
  have HE:=Lib.hid (And.intro c0 (And.intro c6 (And.intro c2 (And.intro cc c5))))
  clear c0 c1 c2 c3 c4 c5 c6 cc
  have e0:=(HA2.out.bel.cell (p:=⟨b,o,none⟩) hb).trans HE.out.1
  have e4:=(HA2.out.bel.cell (p:=⟨b,o+4,none⟩) hb).trans HE.out.2.1
  obtain⟨p2,pf⟩:=HA2.out.cell
  have HZ:=Lib.hid (And.intro hN (And.intro hs (And.intro ho hg)))
  clear hN hs ho hg
  have HN0:=Lib.hid hn0
  clear hn0
  go_upto_block 0 with fail
  go_cut [6] from 25 to 41 (fun hv wx=>∃(h:Bool) (v1:Int),hv=.bool h∧Hid ((if h then 1 else v1)=vW (aged (rho l x) z))∧Hid (AgA w (opW z) (nmW z) v1 wx))
  case first=>
   rcases vW_aged (rho l x) z with⟨v,a',rfl,hv⟩|⟨k,v,a',b',rfl,hv⟩|⟨q15,q16,q17,hv⟩
   ·obtain⟨B',O',c',k4, -, -,kB',kF⟩:=FAt_kids HF.out (by simp[kids])
    obtain⟨s,kF⟩:=kF 0 (show 0<1 by omega)
    have hp:past a'=true:=by have:=HZ.out.2.2.1;simp only[ok,Bool.and_eq_true] at this;exact this.1
    have HC:=Lib.hid ((asks_any l x _ a' (Nat.lt_succ_self _) hp HZ.out.2.2.2 w2 R B' O' s (HR.out.keep HA2.out.bel) (Nat.lt_of_lt_of_le kB' HA2.out.bel.size) (FAt.keep HA2.out.bel kB' (by simpa[kids] using kF))).now)
    have d4:=(HA2.out.bel.cell (p:=⟨b,o+4,none⟩) hb).trans k4
    clear e4 k4 kF
    simp only[opW,kids,List.length_cons,List.length_nil] at e0 d4
    have HV:=Lib.hid hv
    clear hv
    go_wp2_with fail
    refine HC.out.mono ?_
    rintro e w3 ⟨rfl,m,rfl⟩
    have HA3:=Lib.hid ((HA2.out.drew m).put 0)
    have p2':=(HA2.out.drew m).cell.1
    have pf':=(HA2.out.drew m).cell.2
    go_wp2_with fail
    go_meet
    exact⟨_,0,rfl,Lib.hid (by rw[HV.out];cases now (rho l x) a'<;>rfl),HA3⟩
   ·have hp:past (Wf.snc k v a' b')=true:=by have:=HZ.out.2.2.1;simp only[ok,past,Bool.and_eq_true] at this ⊢;exact this.1.1
    have HC:=Lib.hid ((asks_any l x _ (Wf.snc k v a' b') (Nat.lt_succ_self _) hp HZ.out.2.2.2 w2 R b o r (HR.out.keep HA2.out.bel) (Nat.lt_of_lt_of_le hb HA2.out.bel.size) (FAt.keep HA2.out.bel hb HF.out)).now)
    have HV:=Lib.hid hv
    clear hv
    have q15:(opW (Wf.snc k v a' b')==15)=false:=by cases k<;>rfl
    cases k with
    |true=>
     have q16:(opW (Wf.snc true v a' b')==16)=true:=rfl
     go_wp2_with fail
     refine HC.out.mono ?_
     rintro e w3 ⟨rfl,m,rfl⟩
     have HA3:=Lib.hid ((HA2.out.drew m).put 0)
     have p2':=(HA2.out.drew m).cell.1
     have pf':=(HA2.out.drew m).cell.2
     go_wp2_with fail
     go_meet
     exact⟨_,0,rfl,Lib.hid (by rw[HV.out];cases now (rho l x) (Wf.snc true v a' b')<;>rfl),HA3⟩
    |false=>
     have q16:(opW (Wf.snc false v a' b')==16)=false:=rfl
     have q17:(opW (Wf.snc false v a' b')==17)=true:=rfl
     go_wp2_with fail
     refine HC.out.mono ?_
     rintro e w3 ⟨rfl,m,rfl⟩
     have HA3:=Lib.hid ((HA2.out.drew m).put 0)
     have p2':=(HA2.out.drew m).cell.1
     have pf':=(HA2.out.drew m).cell.2
     go_wp2_with fail
     go_meet
     exact⟨_,0,rfl,Lib.hid (by rw[HV.out];cases now (rho l x) (Wf.snc false v a' b')<;>rfl),HA3⟩
   ·go_wp2_with fail
    go_meet
    exact⟨false,vW z,rfl,Lib.hid hv.symm,HA2⟩
  case rest=>
   obtain⟨h,v1,rfl,HV,HA3⟩:=hcut
   obtain⟨p2,pf⟩:=HA3.out.cell
   go_upto_if 42 with fail
   go_cut [] from 42 to 43 (fun wx=>AgA w (opW z) (nmW z) (vW (aged (rho l x) z)) wx)
   case first=>
    cases h with
    |true=>
     have HA4:=Lib.hid (HA3.out.put 1)
     go_wp2_with fail
     go_meet
     have hv:(1:Int)=vW (aged (rho l x) z):=HV.out
     rw[←hv]
     exact HA4.out
    |false=>
     go_wp2_with fail
     go_meet
     have hv:v1=vW (aged (rho l x) z):=HV.out
     rw[←hv]
     exact HA3.out
   case rest=>
    have HA4:=Lib.hid hcut
    clear hcut HA3 p2 pf HV
    have e0:=(HA4.out.bel.cell (p:=⟨b,o,none⟩) hb).trans HE.out.1
    have e4:=(HA4.out.bel.cell (p:=⟨b,o+4,none⟩) hb).trans HE.out.2.1
    have HKL:Hid ((kids z).length≤50000):=Lib.hid (Nat.le_trans (kids_len z) HZ.out.2.1)
    have hk5:(kids z).length≤50000:=HKL.out
    go_wp2_with fail
    go_loopg [7,49] (kids z).length (fun g _ o49 wr=>∃(i:Nat) (a7:Option Addr) (cap:Nat) (ys:List ElA),o49=.int .i64 i∧i≤(kids z).length∧Hid ((kids z).length - i≤g)∧Hid (AgL l x w z i a7 cap ys wr))
    case atStart=>exact⟨0,none,0,[],rfl,Nat.zero_le _,Lib.hid (by omega),Lib.hid ⟨HA4.out.out,HA4.out.res,HA4.out.bel,HA4.out.drawn,⟨.inl ⟨rfl,rfl,rfl⟩,fun y hy=>(by cases hy),Nat.zero_le _⟩,rfl,by simp⟩⟩
    case round=>
     obtain⟨i,a7,cap,ys,rfl,hi,HG,HL⟩:=hrel
     by_cases hlt:(i:Int)<((kids z).length:Int)
     ·have hd:decide ((i:Int)<((kids z).length:Int))=true:=by simpa using hlt
      have hi':i<(kids z).length:=by omega
      obtain⟨B',O',c',k4, -, -,kB',kF⟩:=FAt_kids HF.out (fun e=>by rw[e] at hi';simp at hi')
      obtain⟨s,kF⟩:=kF i hi'
      have hks:=kids_size (z:=z) (List.getElem_mem hi')
      have HC:=Lib.hid (IH.out (kids z)[i] (by have:=HZ.out.1;omega) (by have:=HZ.out.2.1;omega) (ok_kid HZ.out.2.2.1 (List.getElem_mem hi')) (gdp_kid HZ.out.2.2.2 (List.getElem_mem hi')) wr.heap.size wr.drew R B' (O'+i*5) s (Nat.le_refl _) ((HR.out.keep HL.out.bel).drawn 1) (Nat.lt_of_lt_of_le kB' HL.out.bel.size) ((FAt.keep HL.out.bel kB' kF).drawn 1))
      have f4:wr.cell? ⟨b,o+4,none⟩=some (.slice (some ⟨B',O',none⟩) (kids z).length c'):=(HL.out.bel.cell (p:=⟨b,o+4,none⟩) hb).trans k4
      obtain⟨p4,pf4⟩:=HL.out.cell
      have HST:=Lib.hid (fun(y:ElA) (W2:World) (h1:y.ok wr.heap.size W2) (h2:y.tree=tr (aged (rho l x) (kids z)[i])) (h3:RowKit.Below wr.heap.size wr W2) (h4:wr.drawn≤W2.drawn)=>HL.out.step hi' (by have:=HKL.out;omega) h1 h2 h3 h4)
      have HLT:=Lib.hid HL.out.lt
      have HP4:Hid (∀W2,RowKit.Below wr.heap.size wr W2→W2.cell? ⟨w.heap.size+1,4,none⟩=some (.slice a7 i cap)):=Lib.hid fun W2 h=>(h.cell (p:=⟨w.heap.size+1,4,none⟩) (by have:=HLT.out;show w.heap.size+1<_;omega)).trans HL.out.cell.1
      have HBD:Hid (∀W2,RowKit.Below wr.drew.heap.size wr.drew W2→RowKit.Below wr.heap.size wr W2):=Lib.hid fun W2 h=>(below_drawn (RowKit.Below.refl _ wr) 1).trans h
      clear e0 e4 k4 kF hks
      go_upto_region 14 with fail
      go_region_law (first
       |(refine step_append_run rfl (.tmp 53) (.tmp 62) 46 46 (some 63) rfl rfl _ _ rfl rfl _ _ HRUN.out ?_)
       |(go_simp;refine HC.out.mono ?_;rintro e w5 ⟨⟨y0,y1,y2,y3,y4,y5,y6⟩,hy,hyt,rfl,hB6,hd5⟩;have hB5:=HBD.out w5 hB6;obtain⟨a',cap',w6,hrun,s4,sf4,HNX⟩:=HST.out _ w5 hy hyt hB5 (Nat.le_trans (Nat.le_succ _) hd5);have u4:=HP4.out w5 hB5;have v4:=HP4.out _ (hB5.alloc hB5.size (.cells #[.int .i64 y0,.string y1,.int .i64 y2,.int .i64 y3,.slice y5 y4.len y6] 48));have HRUN:=Lib.hid hrun;clear hrun hy hyt hB5 hB6 hd5;simp only[ElA.enc] at*))
      all_goals
       go_wp2_with fail
       go_roundg (gk - 1)
       case measure=>have:=HG.out;omega
       case rel=>exact⟨i+1,a',cap',_,by go_num,by omega,Lib.hid (by have:=HG.out;omega),HNX⟩
     ·have hd:decide ((i:Int)<((kids z).length:Int))=false:=by simpa using hlt
      obtain rfl:i=(kids z).length:=by omega
      have HO:=HL.out.out
      have HRS:=HL.out.res
      have o0:wr.cell? ⟨w.heap.size+1,0,none⟩=some (.int .i64 (opW z)):=by simp[World.cell?,HO]
      have o1:wr.cell? ⟨w.heap.size+1,1,none⟩=some (.string (nmW z)):=by simp[World.cell?,HO]
      have o2:wr.cell? ⟨w.heap.size+1,2,none⟩=some (.int .i64 (vW (aged (rho l x) z))):=by simp[World.cell?,HO]
      have o3:wr.cell? ⟨w.heap.size+1,3,none⟩=some (.int .i64 0):=by simp[World.cell?,HO]
      have o4:wr.cell? ⟨w.heap.size+1,4,none⟩=some (.slice a7 (kids z).length cap):=by simp[World.cell?,HO]
      have r0:wr.cell? ⟨w.heap.size,0,none⟩=some (.int .i64 0):=by simp[World.cell?,HRS,zero48]
      have r1:wr.cell? ⟨w.heap.size,1,none⟩=some (.string ⟨#[]⟩):=by simp[World.cell?,HRS,zero48]
      have r2:wr.cell? ⟨w.heap.size,2,none⟩=some (.int .i64 0):=by simp[World.cell?,HRS,zero48]
      have r3:wr.cell? ⟨w.heap.size,3,none⟩=some (.int .i64 0):=by simp[World.cell?,HRS,zero48]
      have r4:wr.cell? ⟨w.heap.size,4,none⟩=some (.slice none 0 0):=by simp[World.cell?,HRS,zero48]
      have r5:∀o,wr.frozen? ⟨w.heap.size,o,none⟩=false:=fun o=>by simp[World.frozen?,HRS]
      have HWH:=Lib.hid (HL.out.whole HZ.out.2.1 HE.out.2.2.1)
      clear HO HRS e0 e4
      go_wp2_with fail
      refine bodyPost_ret (v:=.agg #[.int .i64 (opW z),.string (nmW z),.int .i64 (vW (aged (rho l x) z)),.int .i64 0,.slice a7 (kids z).length cap]) (by
       simp[results,Tryz.f257,go_sem,r0,r1,r2,r3,r4]) rfl ?_
      have h:=KSt.fin (z:=aged (rho l x) z) (n0:=n0) HN0.out HL.out.bel HL.out.drawn HWH.out.1 HWH.out.2.2
      simp only[ElA.enc,HWH.out.2.1] at h
      exact h
end
end Go.Proofs.YtckdgniecdfedaaGreatDoor
