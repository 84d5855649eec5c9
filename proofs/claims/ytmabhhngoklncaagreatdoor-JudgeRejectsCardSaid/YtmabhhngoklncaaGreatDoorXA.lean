/- unions. -/
import Derived.Test.YtmabhhngoklncaaGreatDoorZ
import Derived.Deep.Upon
set_option maxRecDepth 100000
set_option maxHeartbeats 40000000
set_option linter.all false
open Go.Lib renaming hid->rA
open Go.Proofs.Tryz renaming prog->rB
open List renaming length_append->rC
open Go renaming heap_alloc_new->rD,heap_alloc_old->rI,bodyPost_ret->rN
open Nat renaming le_refl->rE,le_trans->rF,zero_le->rH,add_zero->rJ,lt_of_lt_of_le->rL,zero_mul->rM,not_lt_zero->rO
open Int renaming natCast_nonneg->rG
open Go.World renaming cell?->rK
open Go.Value renaming int->jI,slice->jS,pointer->jP,bool->jB,string->jT,agg->jG
open Go.IntKind renaming i64->kQ,u16->kU
open Go.Ending renaming returned->jR
open Go Go.RowKit Go.Sort
namespace Go.Proofs.YtmabhhngoklncaaGreatDoor
variable {W w:World}{a:Option Addr}{lo k c c2 M n:Nat}{A:Ad}{l:List U16}
theorem zFH {α:Type} {key:α->Value}{mb:Nat} {l:List α}{K:Value->Prop}{kt t:TypeId} (h:Seen key w mb l) (hk:vJ kt K) (hK:∀x,K (key x)) (ht:Tryz.prog.underlying t=some (.map kt 4)) (x:α){ops:Array Oper}{rest:List Oper}{o:Oper}{a:Act}{Q:Exit->Act->World->Prop} (hg:o.guard=none) (m k v:Operand) (hop:o.op=Op.mapUpdate t m k v) (hm:a.eval m=.map (some mb)) (hke:a.eval k=key x) (hve:a.eval v=jB true)
  (hQ:∀w',Seen key w' mb (l++[x])->w.mapTurned w' mb->wpList rB ops Q rest (a.put o.dst undef) w'):wpList rB ops Q (o::rest) a w:=by
 obtain⟨w',h1,h2,h3⟩:=h.add hk hK ht x;refine wpList_plain hg fun K' hK'=>?_
 unfold Oper.wp;simp only[execOp,hop,hm,hke,hve,Sem.run_bind,Sem.run_pure,h1,Result.andThen];exact hK' _ _ (hQ w' h2 h3)
theorem zN2 (x y:Int):0<=Go.bits .or .u16 x y/\Go.bits .or .u16 x y<65536:=by
 have e:Go.bits .or .u16 x y=IntKind.u16.wrap ((BitVec.ofInt 16 x ||| BitVec.ofInt 16 y).toNat:Int):=rfl;rw[e];generalize (BitVec.ofInt 16 x ||| BitVec.ofInt 16 y).toNat=n;constructor<;>simp[IntKind.wrap,IntKind.bits,IntKind.signed]<;>omega
def orU (x y:U16):U16:=⟨Go.bits .or .u16 x.1 y.1,zN2 _ _⟩
theorem zMl (x y:U16) (h:yW x=yW y):x=y:=by
 simp only[yW,Value.int.injEq,true_and] at h;exact Subtype.ext h
theorem zHU (x:U16):zS2 (yW x):=⟨_,rfl⟩
theorem zN1 (h:l.Nodup):l.length<=65536:=by
 have:=zEU 65536 (l.map fun x=>x.1.toNat) (by
  refine List.Pairwise.map _ (fun x y hne e=>hne (Subtype.ext ?_)) h;have:=x.2;have:=y.2;omega) (fun n hn=>by
  obtain⟨x, -,rfl⟩:=List.mem_map.1 hn;have:=x.2;omega)
 simpa using this
theorem zH.turned {α:Type} {enc:α->List Value}{cap mb:Nat}{W':World} {xs:List α} (h:zH enc k W lo a cap xs) (ht:W.mapTurned W' mb):zH enc k W' lo a cap xs:=by
 have ht':=ht;obtain⟨es,clock,es',clock',hb, -⟩:=ht';refine h.block fun q e=>zT ht fun e'=>?_
 rcases h with⟨rfl,_⟩|⟨blk,rfl,_,_,cs,T,hb2,_⟩
 ·cases e
 ·cases e
  rw[e',hb] at hb2;cases hb2
theorem zH.nmap {α:Type} {enc:α->List Value}{cap mb:Nat} {xs:List α}{es:Array MapEntry}{clock:Nat} (h:zH enc k W lo a cap xs) (hb:W.heap[mb]? =some (.map es clock)):a≠some ⟨mb,0,none⟩:=fun e=>by
 rcases h with⟨rfl,_⟩|⟨blk,rfl,_,_,cs,T,hb2,_⟩
 ·cases e
 ·cases e
  rw[hb] at hb2;cases hb2
structure UnS (w wr:World) (mb:Nat) (a:Option Addr) (c:Nat) (l:List U16):Prop where
 gr:Gr w wr
 seen:Seen yW wr mb l
 list:zH xW 1 wr w.heap.size a c l
 nd:l.Nodup
 cap:c<=maxLen
 mb:w.heap.size<=mb
theorem UnS.look {w wr:World} {mb c:Nat} {a:Option Addr} {l:List U16} (h:UnS w wr mb a c l) (x y:U16):∃b:Bool,(b=true↔orU x y∈l)/\(Instr.lookup 315 (.map (some mb)) (jI kU (Go.bits .or .u16 x.1 y.1)) false).run rB wr=.ok (jB b) wr:=by
 obtain⟨b,h1,h2⟩:=h.seen.look zTP zHU zMl Tryz.underlying315 (orU x y);exact⟨b,h1,h2 0⟩
theorem UnS.push {wr w5:World}{mb:Nat}{x:U16} (h:UnS w wr mb a c l) (hx:x∉l) (hs:Seen yW w5 mb (l++[x])) (ht:wr.mapTurned w5 mb):
  ∃a' c' W2,(Builtin.append_ #[287,287] 287 #[jS a l.length c,jS (some ⟨w5.heap.size,0,none⟩) 1 1]).run rB (w5.alloc (.cells #[jI kU x.1] 25))=.ok (jS a' (l.length+1) c') W2/\UnS w W2 mb a' c' (l++[x]):=by
 have hL:=h.list.turned ht;have hG:Gr w w5:=by
  obtain⟨es,clock,es',clock',hb,rfl⟩:=ht;refine⟨⟨h.gr.1.os,h.gr.1.tape,h.gr.1.output,by simpa[ChangeMaps.setBlock] using h.gr.1.size,fun k hk=>?_⟩,h.gr.2⟩;have hne:mb≠k:=by have:=h.mb;omega
  rw[<-h.gr.1.block k hk];simp[ChangeMaps.setBlock,hne]
 have hnl:=zN1 h.nd;obtain⟨a',c',W2,hrun,hL2,hA,hc⟩:=zQs x hL hG.1.size h.cap (by omega);obtain⟨es,clock,hb, -⟩:=id hs;refine⟨a',c',W2,hrun,hA.gr (hG.trans (Gr.alloc _ _)) (rE _),hs.of_block ?_,hL2,?_,hc,h.mb⟩
 ·have hlt:=hs.lt
  exact(hA.other (by simp;omega) (hL.nmap hb)).trans (rI _ _ hlt)
 ·rw[List.nodup_append]
  exact⟨h.nd,by simp,fun u hu v hv e=>hx (by rw[List.mem_singleton.1 hv] at e;rwa[<-e])⟩
theorem zEq {l1 l2 c1:Nat}{a1 a2:Option Addr}{xs ys:List U16} (h1:zH xW 1 W l1 a1 c1 xs) (h2:zH xW 1 W l2 a2 c2 ys) (n1:xs.length<=17179869184) (n2:ys.length<=17179869184):Calls rB 407 #[jS a1 xs.length c1,jS a2 ys.length c2] W (UlR W 65536):=by
 have H1:=rA h1;have H2:=rA h2;clear h1 h2;have hm:=xK 315;go_enter Tryz.func407,Tryz.ntmps407;go_upto_region 3 with fail;clear hm;have HU0:Hid (UnS W (W.alloc (.map #[] 0)) W.heap.size none 0 []):=rA ⟨Gr.alloc _ _,Seen.made W,.nil,by simp,by simp[maxLen],rE _⟩;generalize W.alloc (.map #[] 0)=w1 at*;go_wp2_with fail;go_loopw [5,14] (fun t i wr=>∃(k:Nat) (a:Option Addr) (c:Nat) (l:List U16),k<=xs.length/\i=jI kQ k/\t=jS a l.length c/\Hid (UnS W wr W.heap.size a c l)) (fun _ i _=>xs.length - (intOf i).toNat)
 case atStart=>exact⟨0,none,0,[],rH _,rfl,rfl,HU0⟩
 case round=>
  clear HU0;obtain⟨k,a,c,l,hk,rfl,rfl,HU⟩:=hrel;by_cases hlt:k<xs.length;rotate_left
  ·have hd:=dF hlt
   have hnl:=zN1 HU.out.nd;have HC:=rA (zCA HU.out.gr HU.out.list HU.out.cap (by omega));go_wp2_with fail;refine HC.out.mono ?_;rintro e w9 ⟨a9,c9,ys9,rfl,hl9,hn9,hc9,hg9⟩;have HR9:Hid (zH xW 1 w9 W.heap.size a9 c9 ys9/\ys9.length<=65536/\c9<=maxLen/\Gr W w9):=rA ⟨hl9,by omega,hc9,hg9⟩;clear hl9 hn9 hc9 hg9 hnl;go_wp2_with fail;go_ret;exact⟨_,_,ys9,rfl,HR9.out⟩
  have hd:=dT hlt
  obtain⟨b,rfl,c0⟩:=(H1.out.gr HU.out.gr).at1 hlt;have hkl:(k:Int)<(xs.length:Int):=by omega
  unfold yW at c0;obtain⟨x,hx⟩:∃x,xs[k]=x:=⟨_,rfl⟩;rw[hx] at c0;clear hx;go_upto_region 6 with fail;clear c0;go_wp2_with fail;go_loopw [5,20] (fun t i wr=>∃(j:Nat) (a:Option Addr) (c:Nat) (l:List U16),j<=ys.length/\i=jI kQ j/\t=jS a l.length c/\Hid (UnS W wr W.heap.size a c l)) (fun _ i _=>ys.length - (intOf i).toNat)
  case atStart=>exact⟨0,a,c,l,rH _,rfl,rfl,HU⟩
  case round=>
   clear HU;obtain⟨j,a,c,l,hj,rfl,rfl,HU⟩:=hrel;by_cases hjt:j<ys.length;rotate_left
   ·have hd:=dF hjt
    go_wp2_with fail;go_roundw
    case rel=>exact⟨k+1,a,c,l,by omega,by go_num,rfl,HU⟩
    case measure=>simp[intOf];omega
   have hdj:=dT hjt
   obtain⟨b,rfl,c0⟩:=(H2.out.gr HU.out.gr).at1 hjt;have hjl:(j:Int)<(ys.length:Int):=by omega
   unfold yW at c0;obtain⟨y,hy⟩:∃y,ys[j]=y:=⟨_,rfl⟩;rw[hy] at c0;clear hy;obtain⟨q,hq,hlk⟩:=HU.out.look x y;have HQ:=rA hq;clear hq;cases q with
   |true=>
    go_wp2_with fail;go_roundw
    case rel=>exact⟨j+1,a,c,l,by omega,by go_num,rfl,HU⟩
    case measure=>simp[intOf];omega
   |false=>
    go_upto_region 10 with fail;clear c0 hlk;go_wp2_with (first|(refine zFH HU.out.seen zTP zHU Tryz.underlying315 (orU x y) rfl (.tmp 30) (.tmp 33) (.const (jB true)) rfl rfl rfl rfl ?_));intro w5 hs5 ht5;obtain⟨a',c',W2,hrun,hU2⟩:=HU.out.push (x:=orU x y) (fun h=>by have:=HQ.out.2 h;cases this) hs5 ht5;have HRUN:=rA hrun;have HNX:=rA hU2;clear hrun hU2 hs5 ht5;go_wp2_with (first|(refine wpList_append_run rfl (.tmp 34) (.tmp 38) 287 287 rfl _ _ rfl rfl _ _ HRUN.out ?_));go_roundw
    case rel=>exact⟨j+1,a',c',l++[orU x y],by omega,by go_num,by simp,HNX⟩
    case measure=>simp[intOf];omega
theorem zKw {tmps:Array Value}{g:Nat}{a b c d e:Value} (hp:tmps.getD 6 undef=jP (some ⟨g,0,none⟩)) (h:W.heap[g]? =some (.cells #[a,b,c,d,e] 33 (0,0))):
  (results Tryz.f396 tmps).run rB W=.ok (jG #[a,b,c,d,e]) W:=
 zGp rfl hp h fun W' h0 h1 h2 h3 h4=>by simp[go_sem,h0,h1,h2,h3,h4]
def zKq (n:Nat) (z:Fe):Prop:=z.ar/\z.args.nodes=n
theorem AgS.fin2 {p:Nat->Bool}{op v bd:Int}{nm:ByteArray}{ar:Fs}{A:List Fe} (h:AgS p w W M op nm v bd ar a c A) (hp:∀k,w.heap.size<=k->p k=false) (hA:A.length=ar.len) (hN:(Fe.forest A).nodes=ar.nodes) (hnm:nm.size<=9223372036854775807) (hL:ar.len<=9223372036854775807) (hr:vH op ar.len) (hA2:∀y∈A,y.ar):
  FmR p w (zKq ar.nodes) (jR (jG #[jI kQ op,jT nm,jI kQ v,jI kQ bd,jS (some ⟨M,0,none⟩) ar.len ar.len])) (put5 W (w.heap.size+1) (jI kQ op) (jT nm) (jI kQ v) (jI kQ bd) (jS (some ⟨M,0,none⟩) ar.len ar.len)):=by
 have hl:=h.lt;have hlen:(Fe.forest A).len=ar.len:=by rw[Fe.forest_len,hA]
 refine⟨⟨op,nm,v,bd,Fe.forest A,some ⟨M,0,none⟩,ar.len⟩,by simp only[hlen],⟨?_,hnm,by show(Fe.forest A).len<=_;rw[hlen];exact hL,by show(Fe.forest A).len<=_;rw[hlen];exact rE _⟩,⟨⟨by show vH op (Fe.forest A).len;rw[hlen];exact hr,ArL.fes hA2⟩,hN⟩,Gr.put5 h.gr (by omega)⟩;have hr:FmB (orP p (w.heap.size+1)) (put5 W (w.heap.size+1) (jI kQ op) (jT nm) (jI kQ v) (jI kQ bd) (jS (some ⟨M,0,none⟩) ar.len ar.len)) M ar.len A:=by
  refine h.row.block (zJ (by omega)) (zE (by rw[yJ];exact rE _) fun k hk hq=>⟨hq,zJ (zD.1 (zD.1 hq).1).2⟩)
 exact(hr.done hA (zD.2 ⟨hp M (by omega),by omega⟩)).on (zE (rE _) fun k _ hk=>⟨(zD.1 hk).1,rfl⟩)
theorem zCH.nat {U:World} {y:El U} {xs:List (El U)}{r:Int} (h:zCH y xs r) (hm:yL xs (zQ y)):∃k:Nat,r=k/\k<xs.length:=by
 rcases h with⟨_,h⟩|⟨k,rfl,hk,_⟩
 ·obtain⟨z,hz,e⟩:=hm
  exact absurd e (h z hz)
 ·exact⟨k,rfl,hk⟩
def zQ1 (A:Ad) (n:Nat):Prop:=∀(p:Nat->Bool) (x:El A.U) (w:World) (m:Int),(∀k,w.heap.size<=k->p k=false)->AdV A w->Sub A.U (dim p w)->x.1.args.nodes<n->x.1.args.nodes<=1000000->x.1.ar->okP (yL A.P) (zQ x)->
 Calls rB 396 #[jP (some ⟨A.ab,0,none⟩),jI kQ m,jG x.1] w (FmR p w (zKq x.1.args.nodes))
theorem zJ6 (hpl:A.P.length<=1000000) (IH:zQ1 A n) (p:Nat->Bool) (x:El A.U) (w:World) (m:Int) (hpp:∀k,w.heap.size<=k->p k=false) (hV:AdV A w) (hSU:Sub A.U (dim p w)) (hn:x.1.args.nodes<=n) (h9:x.1.args.nodes<=1000000) (hr:x.1.ar) (hok:okP (yL A.P) (zQ x)):
  Calls rB 396 #[jP (some ⟨A.ab,0,none⟩),jI kQ m,jG x.1] w (FmR p w (zKq x.1.args.nodes)):=by
 have HX:=rA (Fe.ok_sub _ _ _ hSU x.2);have HXR:=rA hr;have HV:=rA hV;have HSU:=rA hSU;have HSM:Hid (∀w',Gr w w'->∀M,w.heap.size<=M->Sub A.U (dim (orP (orP p (w.heap.size+1)) M) w')):=rA fun w' hg M hM=>hSU.trans (zE hg.1.size fun k hk hp=>⟨zD.2 ⟨zD.2 ⟨hp,by omega⟩,by omega⟩,hg.1.block k hk⟩)
 have HPP:=rA hpp;have HI:=rA IH;have HN:=rA hn;have HN9:=rA h9;have HMEM:Hid (zEN x.1.op=true->yL A.P (zQ x)):=rA hok.1;have HF:Hid (∀W,AdV A W->Calls rB 388 #[jS A.pa A.P.length A.pc,jG x.1] W (zDB W x A.P)):=rA fun W h=>zCt x h.sub h.past hpl
 have HE:Hid (∀k,k<x.1.args.len->∃(b o:Nat) (y:El A.U),x.1.a=some ⟨b,o,none⟩/\(∀W,Sub A.U W->W.cell? ⟨b,o+k*5,none⟩=some (jI kQ y.1.op)/\W.cell? ⟨b,o+k*5+1,none⟩=some (jT y.1.nm)/\W.cell? ⟨b,o+k*5+2,none⟩=some (jI kQ y.1.v)/\W.cell? ⟨b,o+k*5+3,none⟩=some (jI kQ y.1.bd)/\W.cell? ⟨b,o+k*5+4,none⟩=some (jS y.1.a y.1.args.len y.1.c))/\
   y.1.ar/\y.1.args.nodes<x.1.args.nodes/\zU x.1.args (k+1)=zU x.1.args k+(y.1.args.nodes+1)/\okP (yL A.P) (zQ y)):=rA fun k hk=>by
  obtain⟨b,o,y,e,hdr,hyr,hyn,hcs⟩:=El.kid x hr hk;refine⟨b,o,y,e,hcs,hyr,hyn,zX hdr,?_⟩;have:=okP.drop k hok.2.1;rw[hdr] at this;exact⟨this.1,this.2.1,trivial⟩
 have hL9:x.1.args.len<=1000000000:=rF (Fs.len_le _) (by omega);have HLC:Hid (x.1.nm.size<=9223372036854775807/\x.1.args.len<=9223372036854775807):=rA ⟨x.2.2.1,x.2.2.2.1⟩;have HAB:=rA hV.lt;clear IH hr hpp hn h9 hV hSU hok;obtain⟨⟨op,nm,v,bd,ar,a,c⟩,hx⟩:=x;dsimp only at*;go_enter Tryz.func396,Tryz.ntmps396;go_upto_region 1 with fail;have HW:Hid (∀W,W=(w.alloc (.cells #[jI kQ op,jT nm,jI kQ v,jI kQ bd,jS a ar.len c] 33)).alloc (.cells zO 33)->Gr w W/\W.heap[w.heap.size]? =some (.cells #[jI kQ op,jT nm,jI kQ v,jI kQ bd,jS a ar.len c] 33 (0,0))/\W.heap[w.heap.size+1]? =some (.cells zO 33 (0,0))/\W.heap.size=w.heap.size+2):=rA fun W e=>by
  subst e;have s1:(w.alloc (.cells #[jI kQ op,jT nm,jI kQ v,jI kQ bd,jS a ar.len c] 33)).heap.size=w.heap.size+1:=by simp
  refine⟨(Gr.alloc _ _).trans (Gr.alloc _ _),(rI _ _ (by simp)).trans (rD w _),by rw[<-s1,rD],by simp⟩
 unfold zO at HW;obtain⟨g1,b3,b4,hs1⟩:=HW.out _ rfl;clear HW;generalize (w.alloc _).alloc _=w1 at*;have HG1:=rA g1;have HB3:=rA b3;have HB4:=rA b4;obtain⟨q0,q1,q2,q3,q4, -⟩:=zA b3;clear g1 b3 b4;by_cases hl0:ar.len=0
 ·have hd0:((ar.len:Int)==0)=true:=by simp[hl0]
  obtain⟨k40,k41,k42,k43,k44,f40,f41,f42,f43,f44⟩:=zA HB4.out;have HEND:Hid (FmR p w (zKq ar.nodes) (jR (jG #[jI kQ op,jT nm,jI kQ v,jI kQ bd,jS a ar.len c])) (put5 w1 (w.heap.size+1) (jI kQ op) (jT nm) (jI kQ v) (jI kQ bd) (jS a ar.len c))):=rA ⟨⟨op,nm,v,bd,ar,a,c⟩,rfl,Fe.ok_sub _ _ _ (vM (Gr.put5 HG1.out (by omega)) fun _ h=>h) HX.out,⟨HXR.out,rfl⟩,Gr.put5 HG1.out (by omega)⟩;have hE:=rA (yA (a:=jI kQ op) (b:=jT nm) (c:=jI kQ v) (d:=jI kQ bd) (e:=jS a ar.len c) HB4.out);clear hl0;go_wp2_with fail;exact rN (zKw rfl hE.out) rfl HEND.out
 have hd0:((ar.len:Int)==0)=false:=by rw[beq_eq_false_iff_ne];omega
 have HL0:Hid (0<ar.len):=rA (by omega);clear hl0;go_upto_region 4 with fail;have HP:Hid (AgP w (w1.alloc (.cells #[jI kQ op,jT nm,jI kQ v,jI kQ bd,jS a ar.len c] 33)) op nm v v bd a ar.len c):=rA ⟨HG1.out.trans (Gr.alloc _ _),(rI _ _ (by omega)).trans HB3.out,(rI _ _ (by omega)).trans HB4.out,by rw[<-hs1,rD]⟩;clear q0 q1 q2 q3 q4 hs1;generalize w1.alloc (.cells #[jI kQ op,jT nm,jI kQ v,jI kQ bd,jS a ar.len c] 33)=w4 at*;obtain⟨k30,k31,k32,k33,k34⟩:=HP.out.cells3;have HQ:=rA (vT op);generalize hrem:zEN op=rb at*;go_wp2_with fail;refine(HQ.out _).mono ?_;rintro e w' ⟨rfl,hw'⟩;rw[hw'];clear hw' w';cases rb with
 |false=>
  clear hrem HQ k30 k31 k32 k33 k34;have hmk:∀W:World,(Instr.makeSlice 31 (jI kQ (ar.len:Int)) (jI kQ (ar.len:Int))).run rB W=.ok (jS (some ⟨W.heap.size,0,none⟩) ar.len ar.len) (W.alloc (.cells (madeCells zO (ar.len*5)) 33)):=zGR hL9;obtain⟨k30,k31,k32,k33,k34⟩:=HP.out.cells3;obtain⟨k50,k51,k52,k53,k54,f50,f51,f52,f53,f54⟩:=HP.out.cells5;have HPA:Hid (∀o:Obj,(w4.alloc o).cell? ⟨w.heap.size+2,4,none⟩=some (jS a ar.len c)/\(w4.alloc o).frozen? ⟨w.heap.size+2,4,none⟩=false/\(w4.alloc o).cell? ⟨w.heap.size,4,none⟩=some (jS a ar.len c)):=rA fun o=>by
   have h:=(HP.out.gr' (Gr.alloc w4 o));exact⟨h.cells5.2.2.2.2.1,h.cells5.2.2.2.2.2.2.2.2.2,h.cells3.2.2.2.2⟩
  obtain⟨a54,af4,a34⟩:=HPA.out (.cells (madeCells zO (ar.len*5)) 33);go_upto_region 7 with fail;have HS0:=rA (HP.out.made (z:=zO) (p:=p) (size_madeCells _ _));clear hmk k30 k31 k32 k33 k34 k50 k51 k52 k53 k54 f50 f51 f52 f53 f54 HPA af4 a54 a34;generalize hM:(w4).heap.size=M at*;generalize (w4.alloc (.cells (madeCells zO (ar.len*5)) 33)).setCell ⟨w.heap.size+2,4,none⟩ (jS (some ⟨M,0,none⟩) ar.len ar.len)=w8 at*;have k34:=HS0.out.cell3.2.2.2.2;go_wp2_with fail;go_loopw [37] (fun i wr=>∃(k:Nat) (Z:List Fe),k<=ar.len/\i=jI kQ k/\Hid (AgS p w wr M op nm v bd ar a c Z/\Z.length=k/\(Fe.forest Z).nodes=zU ar k/\∀y∈Z,y.ar)) (fun i _=>ar.len - (intOf i).toNat)
  case atStart=>exact⟨0,[],rH _,rfl,rA ⟨HS0.out,rfl,by cases ar<;>rfl,fun y hy=>by cases hy⟩⟩
  case round=>
   clear k34 HS0;obtain⟨k,Z,hk,rfl,HR⟩:=hrel;by_cases hlt:k<ar.len;rotate_left
   ·have hd:=dF hlt
    obtain⟨k50,k51,k52,k53,k54⟩:=HR.out.1.cells5;obtain⟨k40,k41,k42,k43,k44,f40,f41,f42,f43,f44⟩:=HR.out.1.cells4;have hkl:k=ar.len:=by omega
    have HEND:=rA (HR.out.1.fin2 (hp:=HPP.out) (by rw[HR.out.2.1];exact hkl) (by rw[HR.out.2.2.1,vR (by omega)]) HLC.out.1 HLC.out.2 HXR.out.1 HR.out.2.2.2);have hE:=rA (yA (a:=jI kQ op) (b:=jT nm) (c:=jI kQ v) (d:=jI kQ bd) (e:=jS (some ⟨M,0,none⟩) ar.len ar.len) HR.out.1.b4);clear hkl;go_wp2_with fail;exact rN (zKw rfl hE.out) rfl HEND.out
   have hd:=dT hlt
   obtain⟨b1,o1,y,rfl,hcs,hyr,hyn,hnt,hyp⟩:=HE.out k hlt;obtain⟨c0,c1,c2,c3,c4⟩:=hcs wr (HV.out.gr HR.out.1.gr).sub;have hkl:(k:Int)<(ar.len:Int):=by omega
   have HYR:=rA hyr;have HYN:=rA hyn;have HNT:=rA hnt;have HYP:=rA hyp;have HRW:=rA (HR.out.1.gr' (Gr.alloc wr (.cells y.1 33)));have HBX:=rA (zBA wr y.1);have HAL:=rA HR.out.2;clear hyr hyn hnt hcs hyp HR;go_upto_region 10 with fail;generalize hw9:wr.alloc (.cells y.1 33)=w9 at*;have k54:=HRW.out.cells5.2.2.2.2;obtain⟨y0,y1,y2,y3,y4⟩:=HBX.out w9 (Gr.refl _);clear hw9;have HC:Hid (Calls rB 396 #[jP (some ⟨A.ab,0,none⟩),jI kQ m,jG y.1] (w9.drewN 1) (FmR (orP (orP p (w.heap.size+1)) M) (w9.drewN 1) (zKq y.1.args.nodes))):=rA (by
    have hg:Gr w (w9.drewN 1):=HRW.out.gr.trans (Gr.drawn _ 1);have hM:=HRW.out.lt;exact HI.out (orP (orP p (w.heap.size+1)) M) y _ m (fun q hq=>by have:=HRW.out.row.lt;exact zD.2 ⟨zD.2 ⟨HPP.out q (rF hg.1.size hq),by have:w9.heap.size<=q:=hq;omega⟩,by have:w9.heap.size<=q:=hq;omega⟩) (HV.out.gr hg) (HSM.out _ hg M (by omega)) (by have:=HYN.out;have:=HN.out;omega) (by have:=HYN.out;have:=HN9.out;omega) HYR.out HYP.out)
   have HST:Hid (∀(w5:World) (z:Fe),Gr (w9.drewN 1) w5->z.ok (dim (orP (orP p (w.heap.size+1)) M) w5)->z.args.nodes=y.1.args.nodes->z.ar->w5.cell? ⟨w.heap.size+2,4,none⟩=some (jS (some ⟨M,0,none⟩) ar.len ar.len)/\(∀j,j<5->(∃u,w5.cell? ⟨M,k*5+j,none⟩=some u)/\w5.frozen? ⟨M,k*5+j,none⟩=false)/\
     AgS p w (set5 w5 M (k*5) (jI kQ z.op) (jT z.nm) (jI kQ z.v) (jI kQ z.bd) (jS z.a z.args.len z.c)) M op nm v bd ar (some ⟨b1,o1,none⟩) c (Z++[z])/\(Z++[z]).length=k+1/\(Fe.forest (Z++[z])).nodes=zU ar (k+1)/\∀u∈Z++[z],u.ar):=rA fun w5 z hg hz hn hza=>by
    have hS:=HRW.out.gr' ((Gr.drawn w9 1).trans hg);have hN:=hS.push hz (by rw[HAL.out.1];exact hlt);rw[HAL.out.1] at hN;exact⟨hS.cells5.2.2.2.2,fun j hj=>⟨hS.row.at (by omega),hS.row.frozen _⟩,hN,by simp[HAL.out.1],by rw[Fe.forest_snoc,HAL.out.2.1,hn];have:=HNT.out;omega,fun u hu=>(List.mem_append.1 hu).elim (HAL.out.2.2 u) fun hu=>by rw[List.mem_singleton.1 hu];exact hza⟩
   clear c0 c1 c2 c3 c4
   go_region_law (first
    |(go_simp;refine HC.out.mono ?_;rintro e w5 ⟨z,rfl,hz,hn,hg⟩;obtain⟨k554,hmc,hnx⟩:=HST.out w5 z hg hz hn.2 hn.1;obtain⟨y50,y51,y52,y53,y54⟩:=HBX.out w5 ((Gr.drawn w9 1).trans hg);obtain⟨⟨u0,m0⟩,g0⟩:=hmc 0 (by omega);obtain⟨⟨u1,m1⟩,g1⟩:=hmc 1 (by omega);obtain⟨⟨u2,m2⟩,g2⟩:=hmc 2 (by omega);obtain⟨⟨u3,m3⟩,g3⟩:=hmc 3 (by omega);obtain⟨⟨u4,m4⟩,g4⟩:=hmc 4 (by omega);rw[rJ] at m0 g0;have HNX:=rA hnx;clear hmc hnx hz hn hg))
   all_goals
    go_wp2_with fail;go_roundw
    case rel=>exact⟨k+1,Z++[z],by omega,by go_num,rA HNX.out⟩
    case measure=>simp[intOf];omega
 |true=>
  have HM2:=rA (HMEM.out rfl);clear hrem HQ;have HPD:=rA (HP.out.gr' (Gr.drawn w4 1));obtain⟨-,a1, -⟩:=(HV.out.gr HP.out.gr).cell;obtain⟨k50,k51,k52,k53,k54,f50,f51,f52,f53,f54⟩:=HP.out.cells5;have hne:w.heap.size+2≠A.ab:=by have:=HAB.out;omega
  have hne':=hne.symm;go_upto_region 5 with fail;go_cut [] from 19 to 28 (fun wx=>∃v':Int,Hid (AgP w wx op nm v' v bd a ar.len c))
  case first=>
   go_region_held3 (fun w'=>w'.cell? ⟨A.ab,1,none⟩=some (jS A.pa A.P.length A.pc)/\w'.cell? ⟨w.heap.size,0,none⟩=some (jI kQ op)/\w'.cell? ⟨w.heap.size,1,none⟩=some (jT nm)/\w'.cell? ⟨w.heap.size,2,none⟩=some (jI kQ v)/\w'.cell? ⟨w.heap.size,3,none⟩=some (jI kQ bd)/\w'.cell? ⟨w.heap.size,4,none⟩=some (jS a ar.len c)) (go_keep)
    (first
     |(go_at_call 388;refine(HF.out _ (HV.out.gr HPD.out.gr)).mono ?_;rintro e' w8 ⟨r,rfl,hr,hg⟩;obtain⟨kk,rfl,hkk⟩:=zCH.nat hr HM2.out;have HP8:=rA (HPD.out.gr' hg);obtain⟨r0,r1,r2,r3,r4⟩:=HP8.out.cells3;obtain⟨s50,s51,s52,s53,s54,t50,t51,t52,t53,t54⟩:=HP8.out.cells5;obtain⟨-,ra1, -⟩:=(HV.out.gr HP8.out.gr).cell;have hk0:(0:Int)<=(kk:Int):=rG _;clear hr hg hkk))
   all_goals
    go_wp2_with fail;go_meet;exact⟨_,rA (HP8.out.setV _)⟩
  case rest=>
   obtain⟨v',HU⟩:=hcut;clear HP HPD a1 k50 k51 k52 k53 k54 f50 f51 f52 f53 f54 k30 k31 k32 k33 k34;have HP:=rA HU.out;clear HU;have hmk:∀W:World,(Instr.makeSlice 31 (jI kQ (ar.len:Int)) (jI kQ (ar.len:Int))).run rB W=.ok (jS (some ⟨W.heap.size,0,none⟩) ar.len ar.len) (W.alloc (.cells (madeCells zO (ar.len*5)) 33)):=zGR hL9;obtain⟨k30,k31,k32,k33,k34⟩:=HP.out.cells3;obtain⟨k50,k51,k52,k53,k54,f50,f51,f52,f53,f54⟩:=HP.out.cells5;have HPA:Hid (∀o:Obj,(wc.alloc o).cell? ⟨w.heap.size+2,4,none⟩=some (jS a ar.len c)/\(wc.alloc o).frozen? ⟨w.heap.size+2,4,none⟩=false/\(wc.alloc o).cell? ⟨w.heap.size,4,none⟩=some (jS a ar.len c)):=rA fun o=>by
    have h:=(HP.out.gr' (Gr.alloc wc o));exact⟨h.cells5.2.2.2.2.1,h.cells5.2.2.2.2.2.2.2.2.2,h.cells3.2.2.2.2⟩
   obtain⟨a54,af4,a34⟩:=HPA.out (.cells (madeCells zO (ar.len*5)) 33);go_upto_region 7 with fail;have HS0:=rA (HP.out.made (z:=zO) (p:=p) (size_madeCells _ _));clear hmk k30 k31 k32 k33 k34 k50 k51 k52 k53 k54 f50 f51 f52 f53 f54 HPA af4 a54 a34;generalize hM:(wc).heap.size=M at*;generalize (wc.alloc (.cells (madeCells zO (ar.len*5)) 33)).setCell ⟨w.heap.size+2,4,none⟩ (jS (some ⟨M,0,none⟩) ar.len ar.len)=w8 at*;have k34:=HS0.out.cell3.2.2.2.2;go_wp2_with fail;go_loopw [37] (fun i wr=>∃(k:Nat) (Z:List Fe),k<=ar.len/\i=jI kQ k/\Hid (AgS p w wr M op nm v' bd ar a c Z/\Z.length=k/\(Fe.forest Z).nodes=zU ar k/\∀y∈Z,y.ar)) (fun i _=>ar.len - (intOf i).toNat)
   case atStart=>exact⟨0,[],rH _,rfl,rA ⟨HS0.out,rfl,by cases ar<;>rfl,fun y hy=>by cases hy⟩⟩
   case round=>
    clear k34 HS0;obtain⟨k,Z,hk,rfl,HR⟩:=hrel;by_cases hlt:k<ar.len;rotate_left
    ·have hd:=dF hlt
     obtain⟨k50,k51,k52,k53,k54⟩:=HR.out.1.cells5;obtain⟨k40,k41,k42,k43,k44,f40,f41,f42,f43,f44⟩:=HR.out.1.cells4;have hkl:k=ar.len:=by omega
     have HEND:=rA (HR.out.1.fin2 (hp:=HPP.out) (by rw[HR.out.2.1];exact hkl) (by rw[HR.out.2.2.1,vR (by omega)]) HLC.out.1 HLC.out.2 HXR.out.1 HR.out.2.2.2);have hE:=rA (yA (a:=jI kQ op) (b:=jT nm) (c:=jI kQ v') (d:=jI kQ bd) (e:=jS (some ⟨M,0,none⟩) ar.len ar.len) HR.out.1.b4);clear hkl;go_wp2_with fail;exact rN (zKw rfl hE.out) rfl HEND.out
    have hd:=dT hlt
    obtain⟨b1,o1,y,rfl,hcs,hyr,hyn,hnt,hyp⟩:=HE.out k hlt;obtain⟨c0,c1,c2,c3,c4⟩:=hcs wr (HV.out.gr HR.out.1.gr).sub;have hkl:(k:Int)<(ar.len:Int):=by omega
    have HYR:=rA hyr;have HYN:=rA hyn;have HNT:=rA hnt;have HYP:=rA hyp;have HRW:=rA (HR.out.1.gr' (Gr.alloc wr (.cells y.1 33)));have HBX:=rA (zBA wr y.1);have HAL:=rA HR.out.2;clear hyr hyn hnt hcs hyp HR;go_upto_region 10 with fail;generalize hw9:wr.alloc (.cells y.1 33)=w9 at*;have k54:=HRW.out.cells5.2.2.2.2;obtain⟨y0,y1,y2,y3,y4⟩:=HBX.out w9 (Gr.refl _);clear hw9;have HC:Hid (Calls rB 396 #[jP (some ⟨A.ab,0,none⟩),jI kQ m,jG y.1] (w9.drewN 1) (FmR (orP (orP p (w.heap.size+1)) M) (w9.drewN 1) (zKq y.1.args.nodes))):=rA (by
     have hg:Gr w (w9.drewN 1):=HRW.out.gr.trans (Gr.drawn _ 1);have hM:=HRW.out.lt;exact HI.out (orP (orP p (w.heap.size+1)) M) y _ m (fun q hq=>by have:=HRW.out.row.lt;exact zD.2 ⟨zD.2 ⟨HPP.out q (rF hg.1.size hq),by have:w9.heap.size<=q:=hq;omega⟩,by have:w9.heap.size<=q:=hq;omega⟩) (HV.out.gr hg) (HSM.out _ hg M (by omega)) (by have:=HYN.out;have:=HN.out;omega) (by have:=HYN.out;have:=HN9.out;omega) HYR.out HYP.out)
    have HST:Hid (∀(w5:World) (z:Fe),Gr (w9.drewN 1) w5->z.ok (dim (orP (orP p (w.heap.size+1)) M) w5)->z.args.nodes=y.1.args.nodes->z.ar->w5.cell? ⟨w.heap.size+2,4,none⟩=some (jS (some ⟨M,0,none⟩) ar.len ar.len)/\(∀j,j<5->(∃u,w5.cell? ⟨M,k*5+j,none⟩=some u)/\w5.frozen? ⟨M,k*5+j,none⟩=false)/\
      AgS p w (set5 w5 M (k*5) (jI kQ z.op) (jT z.nm) (jI kQ z.v) (jI kQ z.bd) (jS z.a z.args.len z.c)) M op nm v' bd ar (some ⟨b1,o1,none⟩) c (Z++[z])/\(Z++[z]).length=k+1/\(Fe.forest (Z++[z])).nodes=zU ar (k+1)/\∀u∈Z++[z],u.ar):=rA fun w5 z hg hz hn hza=>by
     have hS:=HRW.out.gr' ((Gr.drawn w9 1).trans hg);have hN:=hS.push hz (by rw[HAL.out.1];exact hlt);rw[HAL.out.1] at hN;exact⟨hS.cells5.2.2.2.2,fun j hj=>⟨hS.row.at (by omega),hS.row.frozen _⟩,hN,by simp[HAL.out.1],by rw[Fe.forest_snoc,HAL.out.2.1,hn];have:=HNT.out;omega,fun u hu=>(List.mem_append.1 hu).elim (HAL.out.2.2 u) fun hu=>by rw[List.mem_singleton.1 hu];exact hza⟩
    clear c0 c1 c2 c3 c4
    go_region_law (first
     |(go_simp;refine HC.out.mono ?_;rintro e w5 ⟨z,rfl,hz,hn,hg⟩;obtain⟨k554,hmc,hnx⟩:=HST.out w5 z hg hz hn.2 hn.1;obtain⟨y50,y51,y52,y53,y54⟩:=HBX.out w5 ((Gr.drawn w9 1).trans hg);obtain⟨⟨u0,m0⟩,g0⟩:=hmc 0 (by omega);obtain⟨⟨u1,m1⟩,g1⟩:=hmc 1 (by omega);obtain⟨⟨u2,m2⟩,g2⟩:=hmc 2 (by omega);obtain⟨⟨u3,m3⟩,g3⟩:=hmc 3 (by omega);obtain⟨⟨u4,m4⟩,g4⟩:=hmc 4 (by omega);rw[rJ] at m0 g0;have HNX:=rA hnx;clear hmc hnx hz hn hg))
    all_goals
     go_wp2_with fail;go_roundw
     case rel=>exact⟨k+1,Z++[z],by omega,by go_num,rA HNX.out⟩
     case measure=>simp[intOf];omega
theorem zJj {A:Ad} (hpl:A.P.length<=1000000):∀n,zQ1 A n
 |0=>fun _ _ _ _ _ _ _ h=>absurd h (rO _)
 |n+1=>fun p x w m hp hv hs h h9 hr hok=>zJ6 hpl (zJj hpl n) p x w m hp hv hs (Nat.lt_succ_iff.1 h) h9 hr hok
def UsR (U:World) (a:Option Addr) (xs:List U16):Prop:=xs≠[]->∃b,a=some ⟨b,0,none⟩/\b<U.heap.size/\∀j (h:j<xs.length),U.cell? ⟨b,j,none⟩=some (yW xs[j])
theorem UsR.on {U U':World} (h:Sub U U') {a:Option Addr} {xs:List U16} (hx:UsR U a xs):UsR U' a xs:=fun h0=>by
 obtain⟨b,e,hb,hc⟩:=hx h0;exact⟨b,e,rL hb h.size,fun j hj=>h.cell (hc j hj)⟩
def zMn:Nat:=65536*401
def VMv (U:World) (v:Value):Prop:=∃b,v=jP (some ⟨b,0,none⟩)/\∀i,i<16->∃(a:Option Addr) (xs:List U16) (c:Nat),U.cell? ⟨b,i,none⟩=some (jS a xs.length c)/\UsR U a xs/\xs.length<=zMn
abbrev J2:Type:=U16×U16
def vK (x:J2):List Value:=[jI kU x.1.1,jI kU x.2.1]
def JsR (U:World) (a:Option Addr) (xs:List J2):Prop:=xs≠[]->∃b,a=some ⟨b,0,none⟩/\b<U.heap.size/\∀j (h:j<xs.length),U.cell? ⟨b,j*2,none⟩=some (yW xs[j].1)/\U.cell? ⟨b,j*2+1,none⟩=some (yW xs[j].2)
theorem JsR.on {U U':World} (h:Sub U U') {a:Option Addr} {xs:List J2} (hx:JsR U a xs):JsR U' a xs:=fun h0=>by
 obtain⟨b,e,hb,hc⟩:=hx h0;exact⟨b,e,rL hb h.size,fun j hj=>⟨h.cell (hc j hj).1,h.cell (hc j hj).2⟩⟩
def zGz:Nat:=4294967296
def VJt (U:World) (v:Value):Prop:=∃(a:Option Addr) (xs:List J2) (c:Nat),v=jS a xs.length c/\JsR U a xs/\xs.length<=zGz
theorem VMv.on {U U':World} (h:Sub U U') {v:Value} (hv:VMv U v):VMv U' v:=by
 obtain⟨b,e,hc⟩:=hv;refine⟨b,e,fun i hi=>?_⟩;obtain⟨a,xs,c,h1,h2,h3⟩:=hc i hi;exact⟨a,xs,c,h.cell h1,h2.on h,h3⟩
theorem VJt.on {U U':World} (h:Sub U U') {v:Value} (hv:VJt U v):VJt U' v:=by
 obtain⟨a,xs,c,e,h2,h3⟩:=hv;exact⟨a,xs,c,e,h2.on h,h3⟩
def msA (A:Ad) (k:Nat):Bool:=k==A.m1||k==A.m2||k==A.m3
theorem zCn {A:Ad} {k:Nat}:msA A k=false↔k≠A.m1/\k≠A.m2/\k≠A.m3:=by simp[msA];constructor<;>intro h<;>simp_all
structure AdS (A:Ad) (W:World):Prop where
 v:AdV A W
 a1:AMap W A.m1 KMoment (VMv (dim (msA A) W))
 a2:AMap W A.m2 KOwing (VJt (dim (msA A) W))
 a3:AMap W A.m3 KMoment KInt
section
variable {A:Ad} {W W':World}
theorem AdS.notm (h:AdS A W) {k:Nat} {cs:Array Value} {T:TypeId} {f:Nat×Nat} (hk:W.heap[k]? =some (.cells cs T f)):msA A k=false:=by
 refine zCn.2 ⟨fun e=>?_,fun e=>?_,fun e=>?_⟩
 ·obtain⟨es,c,h1,_⟩:=h.a1;rw[<-e,hk] at h1;cases h1
 ·obtain⟨es,c,h1,_⟩:=h.a2;rw[<-e,hk] at h1;cases h1
 ·obtain⟨es,c,h1,_⟩:=h.a3;rw[<-e,hk] at h1;cases h1
theorem AdS.notc (h:AdS A W) {k j:Nat} {v:Value} (hk:W.cell? ⟨k,j,none⟩=some v):msA A k=false:=by
 unfold rK at hk;cases hb:W.heap[k]? with
 |none=>rw[hb] at hk;simp at hk
 |some o=>
  cases o with
  |cells cs T f=>exact h.notm hb
  |_=>rw[hb] at hk;simp at hk
theorem AdV.fr (h:AdS A W) (hF:Fr (msA A) W.heap.size W W'):AdV A W':=by
 have hl:∀ {enc:El A.U->List Value} {k lo cap:Nat} {a:Option Addr} {xs:List (El A.U)},zH enc k W lo a cap xs->zH enc k W' lo a cap xs:=fun hx=>hx.block fun q e=>by
  rcases hx with⟨rfl,_⟩|⟨blk,rfl,_,hR⟩
  ·cases e
  ·cases e
   obtain⟨_,cs,T,hb,_⟩:=hR;exact hF.block q (Array.getElem?_eq_some_iff.1 hb).1 (h.notm hb)
 refine⟨⟨rF h.v.sub.size hF.size,fun k cs T f e=>?_⟩,(hF.block _ h.v.lt (h.notm h.v.blk)).trans h.v.blk,hl h.v.past,hl h.v.els,?_⟩
 ·have e':=h.v.sub.blk k cs T f e
  exact(hF.block k (Array.getElem?_eq_some_iff.1 e').1 (h.notm e')).trans e'
 ·obtain⟨a,c,e,hn⟩:=h.v.unt
  refine⟨a,c,e,fun h0=>?_⟩;obtain⟨b,o,e',hb,hc⟩:=hn h0;refine⟨b,o,e',rL hb hF.size,fun j hj=>?_⟩;rw[World.cell?_of_block (hF.block b hb (h.notc (hc j hj)))];exact hc j hj
theorem zFZ (hF:Fr (msA A) W.heap.size W W'):Sub (dim (msA A) W) (dim (msA A) W'):=zE hF.size fun k hk hp=>⟨hp,hF.block k hk hp⟩
theorem AdS.gr (h:AdS A W) (hg:Gr W W'):AdS A W':=by
 have hF:Fr (msA A) W.heap.size W W':=Fr.of_below hg.1;exact⟨AdV.fr h hF,(h.a1.gr hg).mono fun v hv=>hv.on (zFZ hF),(h.a2.gr hg).mono fun v hv=>hv.on (zFZ hF),h.a3.gr hg⟩
theorem AdS.put3 (h:AdS A W) (hok:zBs A) (hm:AMap W' A.m3 KMoment KInt) (ht:W.mapTurned W' A.m3):AdS A W'/\Fr (msA A) W.heap.size W W':=by
 have hF:Fr (msA A) W.heap.size W W':=(Fr.refl _ _ _).turned ht (.inl (by simp[msA]));exact⟨⟨AdV.fr h hF,(h.a1.of_block (zT ht hok.ms.2.1)).mono fun v hv=>hv.on (zFZ hF),(h.a2.of_block (zT ht hok.ms.2.2)).mono fun v hv=>hv.on (zFZ hF),hm⟩,hF⟩
theorem AdS.put1 (h:AdS A W) (hok:zBs A) (hm:AMap W' A.m1 KMoment (VMv (dim (msA A) W))) (ht:W.mapTurned W' A.m1):AdS A W'/\Fr (msA A) W.heap.size W W':=by
 have hF:Fr (msA A) W.heap.size W W':=(Fr.refl _ _ _).turned ht (.inl (by simp[msA]));exact⟨⟨AdV.fr h hF,hm.mono fun v hv=>hv.on (zFZ hF),(h.a2.of_block (zT ht hok.ms.1.symm)).mono fun v hv=>hv.on (zFZ hF),h.a3.of_block (zT ht hok.ms.2.1.symm)⟩,hF⟩
theorem AdS.put2 (h:AdS A W) (hok:zBs A) (hm:AMap W' A.m2 KOwing (VJt (dim (msA A) W))) (ht:W.mapTurned W' A.m2):AdS A W'/\Fr (msA A) W.heap.size W W':=by
 have hF:Fr (msA A) W.heap.size W W':=(Fr.refl _ _ _).turned ht (.inl (by simp[msA]));exact⟨⟨AdV.fr h hF,(h.a1.of_block (zT ht hok.ms.1)).mono fun v hv=>hv.on (zFZ hF),hm.mono fun v hv=>hv.on (zFZ hF),h.a3.of_block (zT ht hok.ms.2.2.symm)⟩,hF⟩
end
theorem zMq (V:World):Sub V (dim (fun _=>false) V):=⟨Nat.le_of_eq (zW _ _).symm,fun _ _ _ _ e=>(zBr (p:=fun _=>false) rfl).trans e⟩
theorem zFx {A:Ad} (hok:zBs A) {W:World} (hv:AdV A W) (x:El A.U) (hr:x.1.ar) (hn:x.1.args.nodes<=400) (hp:okP (yL A.P) (zQ x)) (mem:Int) (k:Nat) (hk:k<=100000000):
  Calls rB 389 #[jP (some ⟨A.ab,0,none⟩),jG #[jI kQ mem,jI kQ k],jG x.1] W (qS W):=by
 have HV:=rA hv;have HW:Hid (∀W',W'=(W.alloc (.cells #[jI kQ mem,jI kQ k] 438)).alloc (.cells x.1 33)->Gr W W'/\∀V,Gr W' V->V.cell? ⟨A.ab,0,none⟩=some (jS A.sa A.l.length A.sc)/\V.cell? ⟨W.heap.size,0,none⟩=some (jI kQ mem)/\V.cell? ⟨W.heap.size,1,none⟩=some (jI kQ k)/\
   V.heap[W.heap.size+1]? =some (.cells x.1 33 (0,0))):=rA fun W' e=>by
  subst e;have hg0:=(Gr.alloc W (.cells #[jI kQ mem,jI kQ k] 438)).trans (Gr.alloc (W.alloc (.cells #[jI kQ mem,jI kQ k] 438)) (.cells x.1 33));refine⟨hg0,fun V hg=>?_⟩;have b0:=(hg.1.block W.heap.size (by simp;omega)).trans ((rI _ _ (by simp)).trans (rD W _));have b1:=(hg.1.block (W.heap.size+1) (by simp)).trans (xH (by simp) _);exact⟨(HV.out.gr (hg0.trans hg)).cell.1,by simp[rK,b0],by simp[rK,b0],b1⟩
 have HC1:Hid (∀V,Gr W V->Calls rB 394 #[jS A.sa A.l.length A.sc,jI kQ k] V (zRn V)):=rA fun V hg=>zH9 (hok.sg.on (HV.out.gr hg).sub) hok.sw hk
 have HC2:Hid (∀V,Gr W V->Calls rB 396 #[jP (some ⟨A.ab,0,none⟩),jI kQ mem,jG x.1] V (FmR (fun _=>false) V (zKq x.1.args.nodes))):=rA fun V hg=>
  zJj (rF hok.pl (by omega)) _ (fun _=>false) x V mem (fun _ _=>rfl) (HV.out.gr hg) ((HV.out.gr hg).sub.trans (zMq V)) (Nat.lt_succ_self _) (by omega) hr hp
 clear hv hr hn hp hk hok;go_enter Tryz.func389,Tryz.ntmps389;go_upto_region 1 with fail;obtain⟨hg1,hcs⟩:=HW.out _ rfl;have HG1:=rA hg1;have HS:=rA hcs;clear HW hg1 hcs;generalize (W.alloc _).alloc _=w1 at*;obtain⟨s0,s1,s2,s3⟩:=HS.out _ (Gr.refl w1);obtain⟨f0,f1,f2,f3,f4, -⟩:=zA s3;have HGD:=rA (Gr.drawn w1 1);clear s3
 go_region_held3 (fun w'=>w'.cell? ⟨A.ab,0,none⟩=some (jS A.sa A.l.length A.sc)/\w'.cell? ⟨W.heap.size,0,none⟩=some (jI kQ mem)/\w'.cell? ⟨W.heap.size,1,none⟩=some (jI kQ k)/\w'.cell? ⟨W.heap.size+1,0,none⟩=some (jI kQ x.1.op)/\w'.cell? ⟨W.heap.size+1,1,none⟩=some (jT x.1.nm)/\w'.cell? ⟨W.heap.size+1,2,none⟩=some (jI kQ x.1.v)/\w'.cell? ⟨W.heap.size+1,3,none⟩=some (jI kQ x.1.bd)/\w'.cell? ⟨W.heap.size+1,4,none⟩=some (jS x.1.a x.1.args.len x.1.c)) (go_keep)
  (first
   |(go_at_call 394;refine(HC1.out _ (HG1.out.trans HGD.out)).mono ?_;rintro e' w5 ⟨mb,rfl,hm,hmb,hg⟩;have HG5:=rA (HGD.out.trans hg);have HM:=rA hm;obtain⟨t0,t1,t2,t3⟩:=HS.out _ HG5.out;obtain⟨g0,g1,g2,g3,g4, -⟩:=zA t3;clear hm hmb hg t3)
   |(go_at_call 396;refine(HC2.out _ (HG1.out.trans HG5.out)).mono ?_;rintro e' w6 ⟨z,rfl,hz,hzp,hg⟩;have HG6:=rA (HG5.out.trans hg);have HM6:=rA (HM.out.gr hg);have HZ:=rA (And.intro hz hzp);obtain⟨t60,t61,t62,t63⟩:=HS.out _ HG6.out;obtain⟨g60,g61,g62,g63,g64, -⟩:=zA t63;clear hz hzp hg t63)
   |(go_at_call 395;refine(zDc HM6.out (Fe.ok_up HZ.out.1) HZ.out.2.1).mono ?_;rintro e' w7 ⟨b,rfl,hg⟩;have HG7:=rA (HG6.out.trans hg);obtain⟨t70,t71,t72,t73⟩:=HS.out _ HG7.out;obtain⟨g70,g71,g72,g73,g74, -⟩:=zA t73;clear hg t73))
 all_goals
  go_wp2_with fail;go_ret;exact⟨_,rfl,HG1.out.trans HG7.out⟩
theorem zPJ (hok:zBs A) (hv:AdV A W):Calls rB 370 #[jP (some ⟨A.ab,0,none⟩)] W (zB9 W):=by
 have HV:=rA hv;have hp8:=hok.pl;obtain⟨-,a1, -⟩:=hv.cell;clear hv hok;go_enter Tryz.func370,Tryz.ntmps370;go_wp2_with fail;go_loopw [3,11] (fun t i wr=>∃(k:Nat) (m:Int),k<=A.P.length/\i=jI kQ k/\t=jI kQ m/\Hid (Gr W wr)) (fun _ i _=>A.P.length - (intOf i).toNat)
 case atStart=>exact⟨0,0,rH _,rfl,rfl,rA (Gr.refl _)⟩
 case round=>
  obtain⟨k,m,hk,rfl,rfl,HG⟩:=hrel;clear a1;by_cases hlt:k<A.P.length;rotate_left
  ·have hd:=dF hlt
   go_wp2_with fail;go_ret;exact⟨_,rfl,HG.out⟩
  have hd:=dT hlt
  obtain⟨b,hb,c0,c1,c2,c3,c4⟩:=vL.elem (HV.out.gr HG.out).past hlt;rw[hb];have hkl:(k:Int)<(A.P.length:Int):=by omega
  have hk0:(0:Int)<=(k:Int):=rG _;generalize A.P[k]=z at*;have e0:=zI wr z.1 33 2;simp only[List.getElem?_toArray,List.getElem?_cons_succ,List.getElem?_cons_zero] at e0;have HGA:Hid (Gr W (wr.alloc (.cells z.1 33))):=rA (HG.out.trans (Gr.alloc _ _));go_wp2_with fail;go_roundw
  case rel=>exact⟨k+1,_,by omega,by go_num,rfl,HGA⟩
  case measure=>simp[intOf];omega
theorem zS6 (w:World):(zeroValue 3).run rB w=.ok (jI kQ 0) w:=zKE w
def AfR (A:Ad) (W:World) (e:Ending) (w':World):Prop:=∃y:Int,e=jR (jI kQ y)/\AdS A w'/\Fr (msA A) W.heap.size W w'
theorem zO9 (hok:zBs A) (hv:AdS A W) (mem:Int) (K:Nat) (hK:K<=100000000):Calls rB 382 #[jP (some ⟨A.ab,0,none⟩),jG #[jI kQ mem,jI kQ K]] W (AfR A W):=by
 have HOK:=rA hok;have hp8:=hok.pl;have hs0:=hv.gr (Gr.alloc W (.cells #[jI kQ mem,jI kQ K] 438));have HS0:=rA hs0;have HG0:=rA (Gr.alloc W (.cells #[jI kQ mem,jI kQ K] 438));have hkey:KMoment (jG #[jI kQ mem,jI kQ K]):=⟨[jI kQ mem,jI kQ K],rfl,⟨⟨_,rfl⟩,⟨_,rfl⟩,trivial⟩⟩;have HKEY:=rA hkey;obtain⟨v,b,hlk0,hvb⟩:=hs0.a3.look zI8 Tryz.underlying434 zS6 hkey;have hlk:=hlk0 true;have hvi:∃y,v=jI kQ y:=by
  rcases hvb with⟨_,y,h⟩|⟨_,h⟩
  ·exact⟨y,h⟩
  ·exact⟨_,h⟩
 obtain⟨y,rfl⟩:=hvi;obtain⟨-,a1, -, -, -, -,a6⟩:=hs0.v.cell;have HBOX:Hid (∀V,Gr (W.alloc (.cells #[jI kQ mem,jI kQ K] 438)) V->V.cell? ⟨W.heap.size,0,none⟩=some (jI kQ mem)/\V.cell? ⟨W.heap.size,1,none⟩=some (jI kQ K)):=rA fun V hg=>by
  have b0:=(hg.1.block W.heap.size (by simp)).trans (rD W _);simp[rK,b0]
 obtain⟨q0,q1⟩:=HBOX.out _ (Gr.refl _);clear hv hok hs0 hlk0 hvb hkey;go_enter Tryz.func382,Tryz.ntmps382;go_upto_region 1 with fail;generalize W.alloc _=w0 at*;cases b with
 |true=>
  go_quiet (fail);go_wp2_with fail;go_ret;exact⟨_,rfl,HS0.out.gr (Gr.drawn _ _),(Fr.of_below HG0.out.1).trans ((Fr.of_below (Gr.drawn _ _).1).mono HG0.out.1.size)⟩
 |false=>
  go_quiet (fail);clear hlk q0 q1 a6;have HS1:=rA (HS0.out.gr (Gr.drawn w0 nq));have HG1:=rA (HG0.out.trans (Gr.drawn w0 nq));have HBOX1:Hid (∀V,Gr (w0.drewN nq) V->V.cell? ⟨W.heap.size,0,none⟩=some (jI kQ mem)/\V.cell? ⟨W.heap.size,1,none⟩=some (jI kQ K)):=rA fun V hg=>HBOX.out V ((Gr.drawn w0 nq).trans hg)
  clear HBOX HS0 HG0;go_upto_region 5 with fail;generalize w0.drewN nq=w1 at*;clear a1;obtain⟨-,a1, -⟩:=HS1.out.v.cell;go_wp2_with fail;go_loopw [7,26] (fun t i wr=>∃(k:Nat) (m:Int),k<=A.P.length/\i=jI kQ k/\t=jI kQ m/\Hid (Gr w1 wr)) (fun _ i _=>A.P.length - (intOf i).toNat)
  case atStart=>exact⟨0,0,rH _,rfl,rfl,rA (Gr.refl _)⟩
  case round=>
   clear a1;obtain⟨k,m,hk,rfl,rfl,HG⟩:=hrel;by_cases hlt:k<A.P.length;rotate_left
   ·have hd:=dF hlt
    have hs:=HS1.out.gr HG.out;obtain⟨-, -, -, -, -, -,a6⟩:=hs.v.cell;obtain⟨q0,q1⟩:=HBOX1.out _ HG.out;have hsd:AdS A wr.drew:=hs.gr (Gr.drawn wr 1);obtain⟨w5,hrun,hm5,ht5⟩:=hsd.a3.update zI8 Tryz.underlying434 (key:=jG #[jI kQ mem,jI kQ K]) (val:=jI kQ m) HKEY.out ⟨_,rfl⟩;have hfin:=hsd.put3 HOK.out hm5 ht5;have HFIN:Hid (AdS A w5/\Fr (msA A) W.heap.size W w5):=rA ⟨hfin.1,(Fr.of_below (HG1.out.trans (HG.out.trans (Gr.drawn wr 1))).1).trans (hfin.2.mono (HG1.out.trans (HG.out.trans (Gr.drawn wr 1))).1.size)⟩;clear hs hsd hm5 ht5 hfin;go_upto_region 13 with fail;go_region;all_goals clear hrun
    all_goals go_wp2_with fail
    all_goals go_ret
    all_goals exact⟨_,rfl,HFIN.out.1,HFIN.out.2⟩
   have hd:=dT hlt
   have hkl:(k:Int)<(A.P.length:Int):=by omega
   have hk0:(0:Int)<=(k:Int):=rG _;obtain⟨bq,hbq,c0,c1,c2,c3,c4⟩:=vL.elem (HS1.out.gr HG.out).v.past hlt;have HP:=rA (HOK.out.par _ (List.getElem_mem hlt));rw[hbq];generalize A.P[k]=z at*;have HBX:=rA (zBA wr z.1);have HGA:Hid (Gr w1 (wr.alloc (.cells z.1 33))):=rA (HG.out.trans (Gr.alloc _ _));have HBB:Hid ((wr.alloc (.cells z.1 33)).heap[wr.heap.size]? =some (.cells z.1 33 (0,0))):=rA (rD _ _);have HSZ:Hid (w1.heap.size<=wr.heap.size):=rA HG.out.1.size;go_upto_region 8 with fail;clear c0 c1 c2 c3 c4 HG;generalize hB:wr.heap.size=B at*;generalize wr.alloc (.cells z.1 33)=w9 at*;obtain⟨z0,z1,z2,z3,z4,y0,y1,y2,y3,y4⟩:=zA HBB.out;by_cases h15:z.1.op=15
   ·have hd15:(z.1.op==(15:Int))=true:=by rw[beq_iff_eq];exact h15
    have hl1:z.1.args.len=1:=HP.out.1.1.1 (.inr (.inr h15));obtain⟨b1,o1,y,ha1,hdr,hyr,hyn,hcs⟩:=El.kid z HP.out.1 (k:=0) (by omega);have HY:Hid (y.1.ar/\y.1.args.nodes<=400/\okP (yL A.P) (zQ y)):=rA ⟨hyr,by have:=HP.out.2.1;omega,by
     have:=okP.drop 0 HP.out.2.2.2.1;rw[hdr] at this;exact⟨this.1,this.2.1,trivial⟩⟩
    obtain⟨c0,c1,c2,c3,c4⟩:=hcs w9 (HS1.out.gr HGA.out).v.sub;have HNW:=rA (Gr.put5 (a:=jI kQ y.1.op) (b:=jT y.1.nm) (c:=jI kQ y.1.v) (d:=jI kQ y.1.bd) (e:=jS y.1.a y.1.args.len y.1.c) HGA.out HSZ.out);have HNB:=rA (yA (a:=jI kQ y.1.op) (b:=jT y.1.nm) (c:=jI kQ y.1.v) (d:=jI kQ y.1.bd) (e:=jS y.1.a y.1.args.len y.1.c) HBB.out);simp only[rM,rJ] at c0 c1 c2 c3 c4;rw[ha1,hl1] at z4;clear h15 hl1 ha1 hdr hyr hyn hcs;go_upto_region 10 with fail;clear z0 z1 z2 z3 z4 y0 y1 y2 y3 y4 c0 c1 c2 c3 c4;unfold put5 at HNW HNB;generalize ((((w9.setCell _ _).setCell _ _).setCell _ _).setCell _ _).setCell _ _=w10 at*;obtain⟨q0,q1⟩:=HBOX1.out _ HNW.out;obtain⟨z0,z1,z2,z3,z4, -⟩:=zA HNB.out;have HC:=rA (zFx HOK.out (HS1.out.gr HNW.out).v y HY.out.1 HY.out.2.1 HY.out.2.2 mem K hK);clear HNB HBB;go_wp2_with fail;refine HC.out.mono ?_;rintro e w11 ⟨bb,rfl,hg⟩;have HG11:=rA (HNW.out.trans hg);clear hg q0 q1 z0 z1 z2 z3 z4 HC HNW;cases bb;all_goals
     go_wp2_with fail;go_roundw
     case rel=>exact⟨k+1,_,by omega,by go_num,rfl,HG11⟩
     case measure=>simp[intOf];omega
   ·have hd15:(z.1.op==(15:Int))=false:=by rw[beq_eq_false_iff_ne];exact h15
    clear h15;have HY:Hid (z.1.ar/\z.1.args.nodes<=400/\okP (yL A.P) (zQ z)):=HP;have HNW:=HGA;have HNB:=HBB;go_upto_region 10 with fail;clear z0 z1 z2 z3 z4 y0 y1 y2 y3 y4;obtain⟨q0,q1⟩:=HBOX1.out _ HNW.out;obtain⟨z0,z1,z2,z3,z4, -⟩:=zA HNB.out;have HC:=rA (zFx HOK.out (HS1.out.gr HNW.out).v z HY.out.1 HY.out.2.1 HY.out.2.2 mem K hK);clear HNB HBB;go_wp2_with fail;refine HC.out.mono ?_;rintro e w11 ⟨bb,rfl,hg⟩;have HG11:=rA (HNW.out.trans hg);clear hg q0 q1 z0 z1 z2 z3 z4 HC HNW;cases bb;all_goals
     go_wp2_with fail;go_roundw
     case rel=>exact⟨k+1,_,by omega,by go_num,rfl,HG11⟩
     case measure=>simp[intOf];omega
theorem zE6 {α:Type} {enc:α->List Value}{t e:Nat} (hT:TyG t e k) (hk:0<k) (he:∀x,(enc x).length=k) (h1:∀x,∀v∈enc x,v.oneCell'=true){lo2 cap:Nat}{a2:Option Addr} {xs news:List α} (h:zH enc k W lo a cap xs) (h2:zH enc k W lo2 a2 c2 news) (hlo:lo<=W.heap.size) (hcap:cap<=maxLen) (hsm:xs.length+news.length<=17179869184):
  ∃a' cap' W',(Builtin.append_ #[t,t] t #[jS a xs.length cap,jS a2 news.length c2]).run rB W=.ok (jS a' (xs.length+news.length) cap') W'/\zH enc k W' lo a' cap' (xs++news)/\zDi lo W W' a a'/\cap'<=maxLen:=by
 by_cases h0:0<news.length
 ·obtain⟨b,rfl, -,hR⟩:=h2.row h0
  exact zIB hT hk he h1 h hlo (sb:=b) (so:=0) (fun j hj c v hv=>by
   have hc:c<k:=by have:=(List.getElem?_eq_some_iff.1 hv).1;rwa[he] at this
   rw[Nat.zero_add];exact hR.cell hj hc hv) h0 hcap hsm
 ·have hn:news=[]:=List.eq_nil_of_length_eq_zero (by omega)
  subst hn;obtain⟨z,bt,hinf,hzs,hbt⟩:=hT.hi;obtain⟨i,hi,hz,hs,hb⟩:=info_parts hinf;have hsrc:Src rB i.size t (jS a2 0 c2) 0 [] W:=by
   refine⟨.inl ⟨_,hT.ht⟩,fun w=>rfl,?_,?_,by simp,fun u hu=>by cases hu⟩;all_goals (cases a2<;>simp[Builtin.firstCells,loadCells,loadCellsFrom])
  have hrun:=run_append_nothing W t t t e i hT.ht hi a xs.length cap h.le (jS a2 0 c2) hsrc;exact⟨a,cap,W,hrun,by simpa using h,⟨⟨none,⟨rfl,rfl,rfl,rE _,fun q _ _=>rfl⟩,fun q e=>by cases e⟩,rE _,fun q e=>.inl e⟩,hcap⟩
theorem zF5 (V:World) (x:U16) (h:lo<=V.heap.size):zH xW 1 (V.alloc (.cells #[jI kU x.1] 25)) lo (some ⟨V.heap.size,0,none⟩) 1 [x]:=by
 refine .inr ⟨_,rfl,h,by simp,_,25,rD _ _,rfl,fun j hj c hc=>?_⟩;have:j=0:=by simpa using hj
 subst this;simp[xW]
theorem okC.drop {T:Fs->Prop}:∀ {f:Fs} (k:Nat),okC T f->okC T (f.drop k)
 | .nil,0,h=>h
 | .nil,_+1,_=>trivial
 | .cons ..,0,h=>h
 | .cons ..,k+1,h=>okC.drop k h.2
theorem zKx (v:Int):0<=IntKind.u16.wrap v/\IntKind.u16.wrap v<65536:=by
 constructor<;>simp[IntKind.wrap,IntKind.bits,IntKind.signed]<;>omega
def shU (v:Int):U16:=⟨IntKind.u16.wrap v,zKx v⟩
theorem UlR.le {w':World}{N:Nat}{e:Ending} (h:UlR w N e w') (hM:N<=M):UlR w M e w':=by
 obtain⟨a,c,ys,h1,h2,h3,h4⟩:=h;exact⟨a,c,ys,h1,h2,rF h3 hM,h4⟩
def zSp (A:Ad) (n:Nat):Prop:=∀(x:El A.U) (W:World) (mem:Int) (K:Nat),AdV A W->K<=100000000->x.1.args.nodes<n->x.1.args.nodes<=400->x.1.ar->okP (yL A.P) (zQ x)->okC (yL A.E) (zQ x)->
 Calls rB 397 #[jP (some ⟨A.ab,0,none⟩),jG #[jI kQ mem,jI kQ K],jG x.1] W (UlR W (65536*(x.1.args.nodes+1)))
theorem zIe (hok:zBs A) (IH:zSp A n) (x:El A.U) (W:World) (mem:Int) (K:Nat) (hv:AdV A W) (hK:K<=100000000) (hn:x.1.args.nodes<=n) (h4:x.1.args.nodes<=400) (hr:x.1.ar) (hp:okP (yL A.P) (zQ x)) (hc:okC (yL A.E) (zQ x)):
  Calls rB 397 #[jP (some ⟨A.ab,0,none⟩),jG #[jI kQ mem,jI kQ K],jG x.1] W (UlR W (65536*(x.1.args.nodes+1))):=by
 have HV:=rA hv;have HW:Hid (∀W',W'=(W.alloc (.cells #[jI kQ mem,jI kQ K] 438)).alloc (.cells x.1 33)->Gr W W'/\∀V,Gr W' V->V.cell? ⟨W.heap.size,0,none⟩=some (jI kQ mem)/\V.cell? ⟨W.heap.size,1,none⟩=some (jI kQ K)/\
   V.heap[W.heap.size+1]? =some (.cells x.1 33 (0,0))):=rA fun W' e=>by
  subst e;refine⟨(Gr.alloc W (.cells #[jI kQ mem,jI kQ K] 438)).trans (Gr.alloc (W.alloc (.cells #[jI kQ mem,jI kQ K] 438)) (.cells x.1 33)),fun V hg=>?_⟩;have b0:=(hg.1.block W.heap.size (by simp;omega)).trans ((rI _ _ (by simp)).trans (rD W _));have b1:=(hg.1.block (W.heap.size+1) (by simp)).trans (xH (by simp) _);exact⟨by simp[rK,b0],by simp[rK,b0],b1⟩
 have HH:Hid (∀V,Gr W V->Calls rB 389 #[jP (some ⟨A.ab,0,none⟩),jG #[jI kQ mem,jI kQ K],jG x.1] V (qS V)):=rA fun V hg=>zFx hok (HV.out.gr hg) x hr h4 hp mem K hK
 have HPA:Hid (∀V,Gr W V->Calls rB 386 #[jG x.1] V (zFP V x.1.past)):=rA fun V hg=>zAb (Fe.ok_sub _ _ _ (HV.out.gr hg).sub x.2)
 have HF:Hid (∀(y:El A.U) V,Gr W V->Calls rB 388 #[jS A.ea A.E.length A.ec,jG y.1] V (zDB V y A.E)):=rA fun y V hg=>zCt y (HV.out.gr hg).sub (HV.out.gr hg).els (rF hok.el (by omega))
 have HAE:Hid (∀V,Gr W V->V.cell? ⟨A.ab,2,none⟩=some (jS A.ea A.E.length A.ec)):=rA fun V hg=>(HV.out.gr hg).cell.2.2.1
 have HE:Hid (x.1.past=false->(x.1.op=8->∀y:El A.U,x.1.args.hd=zQ y->yL A.E (zQ y))/\∀k,k<x.1.args.len->∃(b o:Nat) (y:El A.U),x.1.a=some ⟨b,o,none⟩/\(∀V,Gr W V->V.cell? ⟨b,o+k*5,none⟩=some (jI kQ y.1.op)/\V.cell? ⟨b,o+k*5+1,none⟩=some (jT y.1.nm)/\V.cell? ⟨b,o+k*5+2,none⟩=some (jI kQ y.1.v)/\V.cell? ⟨b,o+k*5+3,none⟩=some (jI kQ y.1.bd)/\V.cell? ⟨b,o+k*5+4,none⟩=some (jS y.1.a y.1.args.len y.1.c))/\
   y.1.args.nodes+1<=x.1.args.nodes/\zU x.1.args (k+1)=zU x.1.args k+(y.1.args.nodes+1)/\(x.1.args.drop k).hd=zQ y/\∀V,Gr W V->Calls rB 397 #[jP (some ⟨A.ab,0,none⟩),jG #[jI kQ mem,jI kQ K],jG y.1] V (UlR V (65536*(y.1.args.nodes+1)))):=rA fun hpast=>by
  have hc1:(x.1.op=8->yL A.E x.1.args.hd)/\okC (yL A.E) x.1.args:=by
   rcases hc.1 with h|h
   ·exact absurd (show x.1.past=true from h) (by rw[hpast];simp)
   ·exact h
  refine⟨fun h8 y e=>by rw[<-e];exact hc1.1 h8,fun k hk=>?_⟩;obtain⟨b,o,y,e,hdr,hyr,hyn,hcs⟩:=El.kid x hr hk;refine⟨b,o,y,e,fun V hg=>hcs V (HV.out.gr hg).sub,by omega,zX hdr,by rw[hdr];rfl,fun V hg=>?_⟩;refine IH y V mem K (HV.out.gr hg) hK (by omega) (by omega) hyr ?_ ?_
  ·have:=okP.drop k hp.2.1
   rw[hdr] at this;exact⟨this.1,this.2.1,trivial⟩
  ·have:=okC.drop k hc1.2
   rw[hdr] at this;exact⟨this.1,trivial⟩
 have HAR:=rA hr.1;have H4:=rA h4;have hL9:x.1.args.len<=1000000000:=rF (Fs.len_le _) (by omega);clear hok IH hv hn h4 hr hp hc hK;generalize x.1.past=pst at*;obtain⟨⟨op,nm,v,bd,ar,a,c⟩,hx⟩:=x;dsimp only at*;go_enter Tryz.func397,Tryz.ntmps397;go_upto_region 1 with fail;obtain⟨hg1,hcs⟩:=HW.out _ rfl;have HG1:=rA hg1;have HS:=rA hcs;clear HW hg1 hcs;generalize (W.alloc _).alloc _=w1 at*;obtain⟨s1,s2,s3⟩:=HS.out _ (Gr.refl w1);obtain⟨f0,f1,f2,f3,f4, -⟩:=zA s3;have HC:=rA (HPA.out _ HG1.out);clear s3 HPA;go_wp2_with fail;refine HC.out.mono ?_;rintro e w2 ⟨rfl,hg2⟩;have HG2:=rA hg2;clear HC hg2 s1 s2 f0 f1 f2 f3 f4;obtain⟨s1,s2,s3⟩:=HS.out _ HG2.out;obtain⟨f0,f1,f2,f3,f4, -⟩:=zA s3;clear s3;cases pst with
 |true=>
  have HC:=rA (HH.out _ (HG1.out.trans HG2.out));go_wp2_with fail;refine HC.out.mono ?_;rintro e w3 ⟨b,rfl,hg3⟩;have HG3:=rA (HG1.out.trans (HG2.out.trans hg3));clear HC hg3 s1 s2 f0 f1 f2 f3 f4;cases b with
  |true=>
   go_wp2_with fail;go_ret;exact⟨_,_,[zA0],rfl,zF5 w3 zA0 HG3.out.1.size,by simp;omega,by simp[maxLen],HG3.out.trans (Gr.alloc _ _)⟩
  |false=>
   go_wp2_with fail;go_ret;exact⟨none,0,[],rfl,.nil,by simp,by simp[maxLen],HG3.out⟩
 |false=>
  obtain⟨HM,HK⟩:Hid (op=8->∀y:El A.U,ar.hd=zQ y->yL A.E (zQ y))/\Hid (∀k,k<ar.len->∃(b o:Nat) (y:El A.U),a=some ⟨b,o,none⟩/\(∀V,Gr W V->V.cell? ⟨b,o+k*5,none⟩=some (jI kQ y.1.op)/\V.cell? ⟨b,o+k*5+1,none⟩=some (jT y.1.nm)/\V.cell? ⟨b,o+k*5+2,none⟩=some (jI kQ y.1.v)/\V.cell? ⟨b,o+k*5+3,none⟩=some (jI kQ y.1.bd)/\V.cell? ⟨b,o+k*5+4,none⟩=some (jS y.1.a y.1.args.len y.1.c))/\
   y.1.args.nodes+1<=ar.nodes/\zU ar (k+1)=zU ar k+(y.1.args.nodes+1)/\(ar.drop k).hd=zQ y/\∀V,Gr W V->Calls rB 397 #[jP (some ⟨A.ab,0,none⟩),jG #[jI kQ mem,jI kQ K],jG y.1] V (UlR V (65536*(y.1.args.nodes+1)))):=by
   obtain⟨h1,h2⟩:=HE.out rfl;exact⟨rA h1,rA h2⟩
  clear HE HH;have HF1:Hid (∀V,Gr W V->Calls rB 388 #[jS A.ea A.E.length A.ec,jG #[jI kQ op,jT nm,jI kQ v,jI kQ bd,jS a ar.len c]] V (zDB V ⟨⟨op,nm,v,bd,ar,a,c⟩,hx⟩ A.E)):=rA fun V hg=>HF.out ⟨⟨op,nm,v,bd,ar,a,c⟩,hx⟩ V hg
  have a2:=HAE.out _ (HG1.out.trans HG2.out);have HGD:Hid (Gr w1 (w2.drewN 1)):=rA (HG2.out.trans (Gr.drawn _ _));go_upto_region 6 with fail;go_cut [8] from 24 to 29 (fun u wx=>∃(r:Int),u=jI kQ r/\Hid (Gr w1 wx/\(r= -1∨∃kk:Nat,r=kk)))
  case first=>
   go_region_held3 (fun w'=>w'.cell? ⟨A.ab,2,none⟩=some (jS A.ea A.E.length A.ec)/\w'.cell? ⟨W.heap.size+1,0,none⟩=some (jI kQ op)/\w'.cell? ⟨W.heap.size+1,1,none⟩=some (jT nm)/\w'.cell? ⟨W.heap.size+1,2,none⟩=some (jI kQ v)/\w'.cell? ⟨W.heap.size+1,3,none⟩=some (jI kQ bd)/\w'.cell? ⟨W.heap.size+1,4,none⟩=some (jS a ar.len c)) (go_keep)
    (first
     |(go_at_call 388;refine(HF1.out _ (HG1.out.trans HGD.out)).mono ?_;rintro e' w8 ⟨r,rfl,hr,hg⟩;have HG8:=rA (HGD.out.trans hg);have HFI:=rA hr;have ra2:=HAE.out _ (HG1.out.trans HG8.out);obtain⟨t1,t2,t3⟩:=HS.out _ HG8.out;obtain⟨g0,g1,g2,g3,g4, -⟩:=zA t3;clear hr hg t3))
   all_goals
    go_wp2_with fail;go_meet;exact⟨_,rfl,rA ⟨HG8.out,HFI.out.imp And.left fun⟨kk,h,_⟩=>⟨kk,h⟩⟩⟩
  case rest=>
   obtain⟨r,rfl,HR⟩:=hcut;clear s1 s2 f0 f1 f2 f3 f4 a2 HGD HG2;go_upto_if 31 with fail;go_cut [7] from 32 to 34 (fun t wx=>∃(sa:Option Addr) (sc:Nat) (ss:List U16),t=jS sa ss.length sc/\Hid (Gr w1 wx/\zH xW 1 wx w1.heap.size sa sc ss/\ss.length<=1/\sc<=maxLen))
   case first=>
    rcases HR.out.2 with rfl|⟨kk,rfl⟩
    ·go_wp2_with fail
     go_meet;exact⟨none,0,[],rfl,rA ⟨HR.out.1,.nil,by simp,by simp[maxLen]⟩⟩
    ·have hk0:(0:Int)<=(kk:Int):=rG _
     go_wp2_with fail;go_meet;exact⟨_,1,[shU _],rfl,rA ⟨HR.out.1.trans (Gr.alloc _ _),zF5 wc (shU _) HR.out.1.1.size,by simp,by simp[maxLen]⟩⟩
   case rest=>
    obtain⟨sa,sc,ss,rfl,HQ⟩:=hcut;clear HR;obtain⟨s1,s2,s3⟩:=HS.out _ HQ.out.1;obtain⟨f0,f1,f2,f3,f4, -⟩:=zA s3;clear s3;by_cases h8:op=8
    ·have hd8:(op==(8:Int))=true:=by rw[beq_iff_eq];exact h8
     have hl1:ar.len=1:=HAR.out.1 (.inr (.inl h8));obtain⟨b1,o1,y,rfl,hcs,hyn,hnt,hhd,hcall⟩:=HK.out 0 (by omega);obtain⟨c0,c1,c2,c3,c4⟩:=hcs _ (HG1.out.trans HQ.out.1);have HMY:Hid (yL A.E (zQ y)):=rA (HM.out h8 y (by rw[<-hhd];cases ar<;>rfl));have a2:=HAE.out _ (HG1.out.trans HQ.out.1);have HFY:=rA (HF.out y);have HGD:Hid (Gr w1 (wc.drewN 1)):=rA (HQ.out.1.trans (Gr.drawn _ _));simp only[rM,rJ] at c0 c1 c2 c3 c4;rw[hl1] at f4;clear h8 hl1 hcs hyn hnt hhd hcall HM HK HF HF1;go_upto_region 11 with fail
     go_region_law (first
      |(go_simp;refine(HFY.out _ (HG1.out.trans HGD.out)).mono ?_;rintro e' w8 ⟨r,rfl,hr,hg⟩;obtain⟨kk,rfl, -⟩:=zCH.nat hr HMY.out;have HG8:=rA (HG1.out.trans (HGD.out.trans hg));have hk0:(0:Int)<=(kk:Int):=rG _;clear hr hg))
     all_goals
      go_wp2_with fail;go_ret;exact⟨_,_,[shU _],rfl,zF5 w8 (shU _) HG8.out.1.size,by simp;omega,by simp[maxLen],HG8.out.trans (Gr.alloc _ _)⟩
    have hd8:(op==(8:Int))=false:=by rw[beq_eq_false_iff_ne];exact h8
    clear h8 HM HF HF1;by_cases h9:op=9
    ·have hd9:(op==(9:Int))=true:=by rw[beq_iff_eq];exact h9
     have hl2:ar.len=2:=HAR.out.2 (.inl h9);obtain⟨b1,o1,y,rfl,hcs,hyn,hnt,hhd,hcall⟩:=HK.out 0 (by omega);obtain⟨b2,o2,z,e2,hds,hzn,hzt,hzd,hcallz⟩:=HK.out 1 (by omega);cases e2;have HKY:=rA hcs;have HKZ:=rA hds;have HCY:=rA hcall;have HCZ:=rA hcallz;have HNY:Hid (y.1.args.nodes+1<=ar.nodes/\z.1.args.nodes+1<=ar.nodes):=rA ⟨hyn,hzn⟩;simp only[rM,rJ,Nat.one_mul] at HKY HKZ;rw[hl2] at f4;have HF4:Hid (∀V,Gr w1 V->V.cell? ⟨W.heap.size,0,none⟩=some (jI kQ mem)/\V.cell? ⟨W.heap.size,1,none⟩=some (jI kQ K)/\V.cell? ⟨W.heap.size+1,4,none⟩=some (jS (some ⟨b1,o1,none⟩) 2 c)):=rA fun V hg=>by
      obtain⟨t1,t2,t3⟩:=HS.out V hg;obtain⟨-, -, -, -,g4, -⟩:=zA t3;exact⟨t1,t2,by rw[g4,hl2]⟩
     clear hl2 hcs hyn hnt hhd hcall hds hzn hzt hzd hcallz HK;have HGD:Hid (Gr w1 (wc.drewN 1)):=rA (HQ.out.1.trans (Gr.drawn _ _));have HGQ:Hid (Gr wc (wc.drewN 1)):=rA (Gr.drawn _ _);have HQW:Hid (Gr w1 wc):=rA HQ.out.1;obtain⟨c0,c1,c2,c3,c4⟩:=HKY.out _ (HG1.out.trans HQ.out.1);clear s1 s2 f1 f2 f3 f4 h9;obtain⟨s1,s2,s3⟩:=HF4.out _ HQ.out.1;go_upto_region 13 with fail;clear f0;go_cut [9] from 52 to 60 (fun t wx=>∃(oa:Option Addr) (oc:Nat) (os:List U16),t=jS oa os.length oc/\Hid (Gr w1 wx/\zH xW 1 wx w1.heap.size oa oc os/\os.length<=65536/\oc<=maxLen))
     case first=>
      go_region_held3 (fun w'=>w'.cell? ⟨W.heap.size,0,none⟩=some (jI kQ mem)/\w'.cell? ⟨W.heap.size,1,none⟩=some (jI kQ K)/\w'.cell? ⟨W.heap.size+1,4,none⟩=some (jS (some ⟨b1,o1,none⟩) 2 c)/\w'.cell? ⟨b1,o1,none⟩=some (jI kQ y.1.op)/\w'.cell? ⟨b1,o1+1,none⟩=some (jT y.1.nm)/\w'.cell? ⟨b1,o1+2,none⟩=some (jI kQ y.1.v)/\w'.cell? ⟨b1,o1+3,none⟩=some (jI kQ y.1.bd)/\w'.cell? ⟨b1,o1+4,none⟩=some (jS y.1.a y.1.args.len y.1.c)) (go_keep)
      (first
       |(go_at_call 397;refine(HCY.out _ (HG1.out.trans HGD.out)).mono ?_;rintro e' w8 ⟨a8,c8,y8,rfl,hl8,hn8,hc8,hg8⟩;have HG8:=rA (HGD.out.trans hg8);have HGX:=rA (HGQ.out.trans hg8);have HL8:=rA hl8;have HN8:Hid (y8.length<=17179869184):=rA (by have:=HNY.out;have:=H4.out;omega);obtain⟨t1,t2,t3⟩:=HF4.out _ HG8.out;obtain⟨g0,g1,g2,g3,g4⟩:=HKY.out _ (HG1.out.trans HG8.out);clear hl8 hn8 hc8 hg8)
       |(go_at_call 407;refine(zEq HL8.out (HQ.out.2.1.gr HGX.out) HN8.out (by have:=HQ.out.2.2.1;omega)).mono ?_;rintro e' w9 ⟨a9,c9,y9,rfl,hl9,hn9,hc9,hg9⟩;have HG9:=rA (HG8.out.trans hg9);have HL9:Hid (zH xW 1 w9 w1.heap.size a9 c9 y9/\y9.length<=65536/\c9<=maxLen):=rA ⟨hl9.low HG8.out.1.size,hn9,hc9⟩;obtain⟨t91,t92,t93⟩:=HF4.out _ HG9.out;obtain⟨g90,g91,g92,g93,g94⟩:=HKY.out _ (HG1.out.trans HG9.out);clear hl9 hn9 hc9 hg9))
      all_goals
       go_wp2_with fail;go_meet;exact⟨a9,c9,y9,rfl,rA ⟨HG9.out,HL9.out⟩⟩
     case rest=>
      obtain⟨oa,oc,os,rfl,HO⟩:=hcut;clear HGD HGQ HQ c0 c1 c2 c3 c4 s1 s2 s3;have HGD:Hid (Gr w1 (wc.drewN 1)):=rA (HO.out.1.trans (Gr.drawn _ _));obtain⟨c0,c1,c2,c3,c4⟩:=HKZ.out _ (HG1.out.trans HO.out.1);obtain⟨s1,s2,s3⟩:=HF4.out _ HO.out.1;go_upto_region 14 with fail
      go_region_law (first
      |(refine zM rfl (.tmp 61) (.tmp 68) 287 287 (some 69) rfl rfl _ _ rfl rfl _ _ HRUN.out ?_)
      |(go_simp;refine(HCZ.out _ (HG1.out.trans HGD.out)).mono ?_;rintro e' w8 ⟨a8,c8,y8,rfl,hl8,hn8,hc8,hg8⟩;obtain⟨a6,c6,w6,hrun,hL6,hA6,hc6⟩:=zE6 tyU (by omega) zEL zEM (HO.out.2.1.gr ((Gr.drawn _ _).trans hg8)) hl8 (HGD.out.trans hg8).1.size HO.out.2.2.2 (by have:=HO.out.2.2.1;have:=HNY.out;have:=H4.out;omega);have HRUN:=rA hrun;have HM6:=rA (show Calls rB 408 #[jS a6 (os.length+y8.length) c6] w6 (UlR w1 (65536*(ar.nodes+1))) from by(have h:=(zCA (hA6.gr (HGD.out.trans hg8) (rE _)) hL6 hc6 (by rw[rC];have:=HO.out.2.2.1;have:=HNY.out;have:=H4.out;omega)).mono fun e w h=>UlR.le h (M:=65536*(ar.nodes+1)) (by rw[rC];have:=HO.out.2.2.1;have:=HNY.out;omega);rwa[rC] at h));clear hrun hL6 hA6 hc6 hl8 hn8 hc8 hg8)
      |(go_simp;refine HM6.out.mono ?_;rintro e' w9 ⟨a9,c9,y9,rfl,hl9,hn9,hc9,hg9⟩;have HR9:Hid (zH xW 1 w9 w1.heap.size a9 c9 y9/\y9.length<=65536*(ar.nodes+1)/\c9<=maxLen/\Gr w1 w9):=rA ⟨hl9,hn9,hc9,hg9⟩;clear hl9 hn9 hc9 hg9))
      all_goals
       go_wp2_with fail;go_ret;exact⟨a9,c9,y9,rfl,HR9.out.1.low HG1.out.1.size,HR9.out.2.1,HR9.out.2.2.1,HG1.out.trans HR9.out.2.2.2⟩
    have hd9:(op==(9:Int))=false:=by rw[beq_eq_false_iff_ne];exact h9
    clear h9;by_cases h10:op=10
    ·have hd10:(op==(10:Int))=true:=by rw[beq_iff_eq];exact h10
     have hl2:ar.len=2:=HAR.out.2 (.inr (.inl h10));obtain⟨b1,o1,y,rfl,hcs,hyn,hnt,hhd,hcall⟩:=HK.out 0 (by omega);obtain⟨b2,o2,z,e2,hds,hzn,hzt,hzd,hcallz⟩:=HK.out 1 (by omega);cases e2;have HKY:=rA hcs;have HKZ:=rA hds;have HCY:=rA hcall;have HCZ:=rA hcallz;have HNY:Hid (y.1.args.nodes+1<=ar.nodes/\z.1.args.nodes+1<=ar.nodes):=rA ⟨hyn,hzn⟩;simp only[rM,rJ,Nat.one_mul] at HKY HKZ;rw[hl2] at f4;have HF4:Hid (∀V,Gr w1 V->V.cell? ⟨W.heap.size,0,none⟩=some (jI kQ mem)/\V.cell? ⟨W.heap.size,1,none⟩=some (jI kQ K)/\V.cell? ⟨W.heap.size+1,4,none⟩=some (jS (some ⟨b1,o1,none⟩) 2 c)):=rA fun V hg=>by
      obtain⟨t1,t2,t3⟩:=HS.out V hg;obtain⟨-, -, -, -,g4, -⟩:=zA t3;exact⟨t1,t2,by rw[g4,hl2]⟩
     clear hl2 hcs hyn hnt hhd hcall hds hzn hzt hzd hcallz HK;have HGD:Hid (Gr w1 (wc.drewN 1)):=rA (HQ.out.1.trans (Gr.drawn _ _));obtain⟨c0,c1,c2,c3,c4⟩:=HKY.out _ (HG1.out.trans HQ.out.1);clear s1 s2 f1 f2 f3 f4 h10;obtain⟨s1,s2,s3⟩:=HF4.out _ HQ.out.1;go_upto_region 16 with fail;clear f0;go_cut [10] from 73 to 82 (fun t wx=>∃(oa:Option Addr) (oc:Nat) (os:List U16),t=jS oa os.length oc/\Hid (Gr w1 wx/\zH xW 1 wx w1.heap.size oa oc os/\os.length<=65536*(ar.nodes+1)/\oc<=maxLen))
     case first=>
      go_region_law (first
      |(refine zM rfl (.tmp 73) (.tmp 80) 287 287 (some 81) rfl rfl _ _ rfl rfl _ _ HRUN.out ?_)
      |(go_simp;refine(HCY.out _ (HG1.out.trans HGD.out)).mono ?_;rintro e' w8 ⟨a8,c8,y8,rfl,hl8,hn8,hc8,hg8⟩;obtain⟨a6,c6,w6,hrun,hL6,hA6,hc6⟩:=zE6 tyU (by omega) zEL zEM (HQ.out.2.1.gr ((Gr.drawn _ _).trans hg8)) hl8 (HGD.out.trans hg8).1.size HQ.out.2.2.2 (by have:=HQ.out.2.2.1;have:=HNY.out;have:=H4.out;omega);have HRUN:=rA hrun;have HM6:=rA (show Calls rB 408 #[jS a6 (ss.length+y8.length) c6] w6 (UlR w1 (65536*(ar.nodes+1))) from by(have h:=(zCA (hA6.gr (HGD.out.trans hg8) (rE _)) hL6 hc6 (by rw[rC];have:=HQ.out.2.2.1;have:=HNY.out;have:=H4.out;omega)).mono fun e w h=>UlR.le h (M:=65536*(ar.nodes+1)) (by rw[rC];have:=HQ.out.2.2.1;have:=HNY.out;omega);rwa[rC] at h));clear hrun hL6 hA6 hc6 hl8 hn8 hc8 hg8)
      |(go_simp;refine HM6.out.mono ?_;rintro e' w9 ⟨a9,c9,y9,rfl,hl9,hn9,hc9,hg9⟩;have HR9:Hid (zH xW 1 w9 w1.heap.size a9 c9 y9/\y9.length<=65536*(ar.nodes+1)/\c9<=maxLen/\Gr w1 w9):=rA ⟨hl9,hn9,hc9,hg9⟩;clear hl9 hn9 hc9 hg9))
      all_goals
       go_wp2_with fail;go_meet;exact⟨a9,c9,y9,rfl,rA ⟨HR9.out.2.2.2,HR9.out.1,HR9.out.2.1,HR9.out.2.2.1⟩⟩
     case rest=>
      obtain⟨oa,oc,os,rfl,HO⟩:=hcut;clear HGD HQ c0 c1 c2 c3 c4 s1 s2 s3;have HGD:Hid (Gr w1 (wc.drewN 1)):=rA (HO.out.1.trans (Gr.drawn _ _));have HGQ:Hid (Gr wc (wc.drewN 1)):=rA (Gr.drawn _ _);obtain⟨c0,c1,c2,c3,c4⟩:=HKZ.out _ (HG1.out.trans HO.out.1);obtain⟨s1,s2,s3⟩:=HF4.out _ HO.out.1;go_upto_region 17 with fail
      go_region_held3 (fun w'=>w'.cell? ⟨W.heap.size,0,none⟩=some (jI kQ mem)/\w'.cell? ⟨W.heap.size,1,none⟩=some (jI kQ K)/\w'.cell? ⟨W.heap.size+1,4,none⟩=some (jS (some ⟨b1,o1,none⟩) 2 c)/\w'.cell? ⟨b1,o1+5,none⟩=some (jI kQ z.1.op)/\w'.cell? ⟨b1,o1+5+1,none⟩=some (jT z.1.nm)/\w'.cell? ⟨b1,o1+5+2,none⟩=some (jI kQ z.1.v)/\w'.cell? ⟨b1,o1+5+3,none⟩=some (jI kQ z.1.bd)/\w'.cell? ⟨b1,o1+5+4,none⟩=some (jS z.1.a z.1.args.len z.1.c)) (go_keep)
      (first
       |(go_at_call 397;refine(HCZ.out _ (HG1.out.trans HGD.out)).mono ?_;rintro e' w8 ⟨a8,c8,y8,rfl,hl8,hn8,hc8,hg8⟩;have HG8:=rA (HGD.out.trans hg8);have HGX:=rA (HGQ.out.trans hg8);have HL8:=rA hl8;have HN8:Hid (y8.length<=17179869184):=rA (by have:=HNY.out;have:=H4.out;omega);obtain⟨t1,t2,t3⟩:=HF4.out _ HG8.out;obtain⟨g0,g1,g2,g3,g4⟩:=HKZ.out _ (HG1.out.trans HG8.out);clear hl8 hn8 hc8 hg8)
       |(go_at_call 407;refine(zEq HL8.out (HO.out.2.1.gr HGX.out) HN8.out (by have:=HO.out.2.2.1;have:=H4.out;omega)).mono ?_;rintro e' w9 ⟨a9,c9,y9,rfl,hl9,hn9,hc9,hg9⟩;have HG9:=rA (HG8.out.trans hg9);have HL9:Hid (zH xW 1 w9 w1.heap.size a9 c9 y9/\y9.length<=65536/\c9<=maxLen):=rA ⟨hl9.low HG8.out.1.size,hn9,hc9⟩;obtain⟨t91,t92,t93⟩:=HF4.out _ HG9.out;obtain⟨g90,g91,g92,g93,g94⟩:=HKZ.out _ (HG1.out.trans HG9.out);clear hl9 hn9 hc9 hg9))
      all_goals
       go_wp2_with fail;go_ret;exact⟨a9,c9,y9,rfl,HL9.out.1.low HG1.out.1.size,by have:=HL9.out.2.1;omega,HL9.out.2.2,HG1.out.trans HG9.out⟩
    have hd10:(op==(10:Int))=false:=by rw[beq_eq_false_iff_ne];exact h10
    clear h10;by_cases h6:op=6
    ·have hd6:(op==(6:Int))=true:=by rw[beq_iff_eq];exact h6
     clear h6 s1 s2 f1 f2 f3;go_wp2_with fail;go_loopw [11,97] (fun t i wr=>∃(k:Nat) (la:Option Addr) (lc:Nat) (ls:List U16),k<=ar.len/\i=jI kQ k/\t=jS la ls.length lc/\Hid (Gr w1 wr/\zH xW 1 wr w1.heap.size la lc ls/\ls.length<=65536*zU ar k/\lc<=maxLen)) (fun _ i _=>ar.len - (intOf i).toNat)
     case atStart=>exact⟨0,none,0,[],rH _,rfl,rfl,rA ⟨HQ.out.1,.nil,by simp,by simp[maxLen]⟩⟩
     case round=>
      obtain⟨k,la,lc,ls,hk,rfl,rfl,HR⟩:=hrel;clear f0 f4 HQ;by_cases hlt:k<ar.len;rotate_left
      ·have hd:=dF hlt
       have HM6:=rA ((zCA HR.out.1 HR.out.2.1 HR.out.2.2.2 (by have:=HR.out.2.2.1;have:=vR (f:=ar) (k:=k) (by omega);have:=H4.out;omega)).mono fun e w h=>UlR.le h (M:=65536*(ar.nodes+1)) (by have:=HR.out.2.2.1;have:=vR (f:=ar) (k:=k) (by omega);omega));go_wp2_with fail;refine HM6.out.mono ?_;rintro e' w9 ⟨a9,c9,y9,rfl,hl9,hn9,hc9,hg9⟩;have HR9:Hid (zH xW 1 w9 w1.heap.size a9 c9 y9/\y9.length<=65536*(ar.nodes+1)/\c9<=maxLen/\Gr w1 w9):=rA ⟨hl9,hn9,hc9,hg9⟩;clear hl9 hn9 hc9 hg9 HM6;go_wp2_with fail;go_ret;exact⟨a9,c9,y9,rfl,HR9.out.1.low HG1.out.1.size,HR9.out.2.1,HR9.out.2.2.1,HG1.out.trans HR9.out.2.2.2⟩
      have hd:=dT hlt
      have hkl:(k:Int)<(ar.len:Int):=by omega
      obtain⟨b1,o1,y,rfl,hcs,hyn,hnt,hhd,hcall⟩:=HK.out k hlt;obtain⟨c0,c1,c2,c3,c4⟩:=hcs _ (HG1.out.trans HR.out.1);have HBX:=rA (zBA wr y.1);have HGA:=rA (Gr.alloc wr (.cells y.1 33));have HNT:=rA hnt;have HNN:Hid (zU ar (k+1)<=ar.nodes):=rA (yE _ _);have HCY:=rA hcall;clear hcs hyn hnt hhd hcall;go_upto_region 23 with fail;clear c0 c1 c2 c3 c4;generalize wr.alloc _=w9 at*;obtain⟨y0,y1,y2,y3,y4⟩:=HBX.out w9 (Gr.refl _);obtain⟨s1,s2, -⟩:=HS.out _ (HR.out.1.trans HGA.out);have HC:=rA (HCY.out _ (HG1.out.trans (HR.out.1.trans HGA.out)));go_wp2_with fail;refine HC.out.mono ?_;rintro e' w8 ⟨a8,c8,y8,rfl,hl8,hn8,hc8,hg8⟩;obtain⟨a6,c6,w6,hrun,hL6,hA6,hc6⟩:=zE6 tyU (by omega) zEL zEM (HR.out.2.1.gr (HGA.out.trans hg8)) hl8 (HR.out.1.trans (HGA.out.trans hg8)).1.size HR.out.2.2.2 (by have:=HR.out.2.2.1;have:=HNT.out;have:=HNN.out;have:=H4.out;omega);have HRUN:=rA hrun;have HNX:Hid (Gr w1 w6/\zH xW 1 w6 w1.heap.size a6 c6 (ls++y8)/\(ls++y8).length<=65536*zU ar (k+1)/\c6<=maxLen):=rA ⟨hA6.gr (HR.out.1.trans (HGA.out.trans hg8)) (rE _),hL6,by rw[rC];have:=HR.out.2.2.1;have:=HNT.out;omega,hc6⟩;clear hrun hL6 hA6 hc6 hl8 hn8 hc8 hg8 y0 y1 y2 y3 y4 s1 s2 HC;go_wp2_with (first|(refine wpList_append_run rfl (.tmp 101) (.tmp 105) 287 287 rfl _ _ rfl rfl _ _ HRUN.out ?_));go_roundw
      case rel=>exact⟨k+1,a6,c6,ls++y8,by omega,by go_num,by simp,HNX⟩
      case measure=>simp[intOf];omega
    have hd6:(op==(6:Int))=false:=by rw[beq_eq_false_iff_ne];exact h6
    clear h6 s1 s2 f1 f2 f3;have HQ0:Hid (Gr w1 (wc.alloc (.cells #[jI kU 0] 25))/\zH xW 1 (wc.alloc (.cells #[jI kU 0] 25)) w1.heap.size (some ⟨wc.heap.size,0,none⟩) 1 [zA0]):=rA ⟨HQ.out.1.trans (Gr.alloc _ _),zF5 wc zA0 HQ.out.1.1.size⟩;go_upto_region 27 with fail;clear f0 f4 HQ;generalize wc.alloc _=w3 at*;generalize wc.heap.size=M at*;obtain⟨-, -,s3⟩:=HS.out _ HQ0.out.1;obtain⟨-, -, -, -,f4, -⟩:=zA s3;clear s3;go_wp2_with fail;go_loopw [14,114] (fun t i wr=>∃(k:Nat) (la:Option Addr) (lc:Nat) (ls:List U16),k<=ar.len/\i=jI kQ k/\t=jS la ls.length lc/\Hid (Gr w1 wr/\zH xW 1 wr w1.heap.size la lc ls/\ls.length<=65536/\lc<=maxLen)) (fun _ i _=>ar.len - (intOf i).toNat)
    case atStart=>exact⟨0,_,1,[zA0],rH _,rfl,rfl,rA ⟨HQ0.out.1,HQ0.out.2,by simp,by simp[maxLen]⟩⟩
    case round=>
     obtain⟨k,la,lc,ls,hk,rfl,rfl,HR⟩:=hrel;clear f4 HQ0;by_cases hlt:k<ar.len;rotate_left
     ·have hd:=dF hlt
      go_wp2_with fail;go_ret;exact⟨la,lc,ls,rfl,HR.out.2.1.low HG1.out.1.size,by have:=HR.out.2.2.1;omega,HR.out.2.2.2,HG1.out.trans HR.out.1⟩
     have hd:=dT hlt
     have hkl:(k:Int)<(ar.len:Int):=by omega
     obtain⟨b1,o1,y,rfl,hcs,hyn,hnt,hhd,hcall⟩:=HK.out k hlt;obtain⟨c0,c1,c2,c3,c4⟩:=hcs _ (HG1.out.trans HR.out.1);have HBX:=rA (zBA wr y.1);have HGA:=rA (Gr.alloc wr (.cells y.1 33));have HYN:=rA hyn;have HCY:=rA hcall;clear hcs hyn hnt hhd hcall;go_upto_region 30 with fail;clear c0 c1 c2 c3 c4;generalize wr.alloc _=w9 at*;obtain⟨y0,y1,y2,y3,y4⟩:=HBX.out w9 (Gr.refl _);obtain⟨s1,s2, -⟩:=HS.out _ (HR.out.1.trans HGA.out);have HC:=rA (HCY.out _ (HG1.out.trans (HR.out.1.trans HGA.out)));go_wp2_with fail;refine HC.out.mono ?_;rintro e' w8 ⟨a8,c8,y8,rfl,hl8,hn8,hc8,hg8⟩;have HG8:=rA (HR.out.1.trans (HGA.out.trans hg8));have HM6:=rA (zEq (HR.out.2.1.gr (HGA.out.trans hg8)) hl8 (by have:=HR.out.2.2.1;omega) (by have:=HYN.out;have:=H4.out;omega));clear hl8 hn8 hc8 hg8 y0 y1 y2 y3 y4 s1 s2 HC;go_wp2_with fail;refine HM6.out.mono ?_;rintro e' w7 ⟨a9,c9,y9,rfl,hl9,hn9,hc9,hg9⟩;have HNX:Hid (Gr w1 w7/\zH xW 1 w7 w1.heap.size a9 c9 y9/\y9.length<=65536/\c9<=maxLen):=rA ⟨HG8.out.trans hg9,hl9.low HG8.out.1.size,hn9,hc9⟩;clear hl9 hn9 hc9 hg9 HM6;go_wp2_with fail;go_roundw
     case rel=>exact⟨k+1,a9,c9,y9,by omega,by go_num,rfl,HNX⟩
     case measure=>simp[intOf];omega
theorem zHV {A:Ad} (hok:zBs A):∀n,zSp A n
 |0=>fun _ _ _ _ _ _ h=>absurd h (rO _)
 |n+1=>fun x W mem K hv hK h h4 hr hp hc=>zIe hok (zHV hok n) x W mem K hv hK (Nat.lt_succ_iff.1 h) h4 hr hp hc
