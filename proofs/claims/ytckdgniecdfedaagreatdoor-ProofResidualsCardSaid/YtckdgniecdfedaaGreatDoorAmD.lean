/- The steps of the plain machine answer as the model: maps and the table of steps. -/
import Derived.Test.YtckdgniecdfedaaGreatDoorAmC
import Derived.Laws.IdiomStrings
import Derived.Laws.BytesArg
import Derived.Lib.Builder
import Derived.RangeFuncLeaves
section
namespace Go.AM
section
variable {P:Program} {ι:Inj} {m:Mem} {w w':World} {A B:Value} {a b:AV} {t:TypeId} {g:G}
theorem bytesK_ok:∀ {cs:List AV} {CS:List Value} {f:List UInt8→R},concL ι cs=some CS→bytesK cs f=.ok→∃ns:List Int,CS=ns.map (Value.int .u8)∧f (ns.map fun n=>UInt8.ofNat n.toNat)=.ok
 |[],CS,f,hc,h=>by
  simp[concL] at hc
  exact⟨[],by simp[hc],h⟩
 |c::cs,CS,f,hc,h=>by
  simp only[concL,Option.bind_eq_some_iff,Option.map_eq_some_iff] at hc
  obtain⟨C,h1,L,h2,rfl⟩:=hc
  cases c<;>first|(exact absurd (show R.bad 0=R.ok from h) (by simp))|skip
  rename_i k n
  cases k<;>first|(exact absurd (show R.bad 0=R.ok from h) (by simp))|skip
  cases n with
  |negSucc n=>exact absurd (show R.bad 0=R.ok from h) (by simp)
  |ofNat n=>
   obtain⟨ns,h3,h4⟩:=bytesK_ok h2 (show bytesK cs (fun l=>f (UInt8.ofNat n::l))=.ok from h)
   simp[conc] at h1
   exact⟨(n:Int)::ns,by simp[h3,←h1],by simpa using h4⟩
theorem isU8_ok (h:isU8 g t=true):g.desc t=.int .u8:=by
 unfold isU8 at h
 split at h
 ·assumption
 ·cases h
theorem mapBytes_ok:∀ {bs:List UInt8} {f:List AV→R},mapK (fun(u:UInt8) k=>forceN u.toNat fun n=>k (AV.int .u8 (Int.ofNat n))) bs f=.ok→f (bs.map fun u=>AV.int .u8 (u.toNat:Nat))=.ok
 |[],_,h=>h
 |u::bs,f,h=>by
  have h':(forceN u.toNat fun n=>mapK (fun(u:UInt8) k=>forceN u.toNat fun n=>k (AV.int .u8 (Int.ofNat n))) bs fun l=>f (AV.int .u8 (Int.ofNat n)::l))=R.ok:=h
  rw[forceN_eq] at h'
  exact mapBytes_ok (bs:=bs) (f:=fun l=>f (AV.int .u8 (Int.ofNat u.toNat)::l)) h'
theorem concL_bytes:∀l:List UInt8,concL ι (l.map fun u=>AV.int .u8 (u.toNat:Nat))=some (l.map fun u=>Value.int .u8 (u.toNat:Nat))
 |[]=>by simp[concL]
 |x::l=>by simp[concL,conc,concL_bytes l]
theorem Step.cellsMarked (hr:Rel P ι m w) {l:List AV} {L:List Value} {e:TypeId} {f:Nat→Mem→R} (hL:concL ι l=some L) {C:Array Value} {ncap sz:Nat}
  (hC:∀i,i<L.length→C[i]? =L[i]?) (hy:sz=P.cellsOf e∧1≤sz∧C.size=ncap*sz) (h:newK m (.cells l e true 1) f=.ok):
  ∃ι' m',f m.next m'=.ok∧Step P ι m w ι' m' {w with heap:=w.heap.push (.cells C e (C.size,C.size+1))}∧ι' m.next=some ⟨w.heap.size,0,ncap,sz⟩:=by
 obtain⟨t',h1,h2⟩:=newK_ok h
 refine⟨ι.set m.next ⟨w.heap.size,0,ncap,sz⟩,_,h2,Step.new hr h1 (p:=⟨w.heap.size,0,ncap,sz⟩) rfl rfl rfl rfl rfl ?_,by simp[Inj.set]⟩
 refine⟨C,e,(C.size,C.size+1),L,by simp,concL_mono (Inj.le_set (hr.fresh _ (Nat.le_refl _))) hL,fun i hi=>by simpa using hC i hi,fun _=>⟨hy.1,hy.2.1⟩,fun _=>⟨rfl,by simp,fun _=>?_,?_⟩⟩
 ·rw[hy.2.2];simp
 ·exact⟨by simp,fun _=>.inr rfl,by simp⟩
theorem convBytes_ok (hg:GOk P g) (hr:Rel P ι m w) {src dst e:TypeId} {s:List UInt8} {f:AV→Mem→R} (hd:g.desc dst=.slice e) (h:convBytes g src e s m f=.ok):
  Out P ι m w f ((convert src dst (.string ⟨s.toArray⟩)).run P w):=by
 obtain⟨h1,h2⟩:=ifB_ok h
 obtain⟨h3,h4⟩:=ifB_ok h2
 obtain⟨k,h5,h6⟩:=optK_ok h4
 obtain⟨h7,h8⟩:=ifB_ok h6
 have hk:=Nat.eq_of_beq_eq_true h7
 subst hk
 have j1:=mapBytes_ok h8
 rw[lenK_eq] at j1
 have hsu:=hg.desc (isString_ok h1) (by simp)
 have hdu:=hg.desc hd (by simp)
 have heu:=hg.desc (isU8_ok h3) (by simp)
 have hrun:=run_bytes_of_string (P:=P) w src dst e ⟨s.toArray⟩ hsu hdu heu
 have hsz:ByteArray.size ⟨s.toArray⟩=s.length:=by simp[ByteArray.size]
 have hge:=grownCap_ge w (ByteArray.size ⟨s.toArray⟩) 0 e
 have hst:Step P ι m w ι m w.drew:=Step.drew hr (w.drawn+1)
 have hse:P.cellsOf e=1:=by
  obtain⟨i,k1,k2⟩:=hg.size h5
  simp[Program.cellsOf,k1,k2]
 have hrow:(bytesRow ⟨s.toArray⟩ (grownCap w (ByteArray.size ⟨s.toArray⟩) 0 e)).size=grownCap w (ByteArray.size ⟨s.toArray⟩) 0 e*1:=by
  simp only[bytesRow,Array.size_append,Array.size_map,Array.size_replicate,List.size_toArray]
  omega
 obtain⟨ι',m',i1,i2,i3⟩:=Step.cellsMarked hst.rel (C:=bytesRow ⟨s.toArray⟩ (grownCap w (ByteArray.size ⟨s.toArray⟩) 0 e)) (ncap:=grownCap w (ByteArray.size ⟨s.toArray⟩) 0 e) (sz:=1) (concL_bytes s)
  (fun i hi=>by
   simp at hi
   rw[bytesRow,Array.getElem?_append_left (by simpa using hi)]
   simp) ⟨hse.symm,Nat.le_refl _,hrow⟩ j1
 refine⟨_,_,ι',_,m',hrun,i1,hst.trans i2,?_⟩
 rw[hsz] at hge
 simp[conc,i3,hsz]
 exact hge
theorem convString_ok (hg:GOk P g) (hr:Rel P ι m w) {src dst:TypeId} {f:AV→R} (hd:g.desc dst=.string) (ha:conc ι a=some A) (hn:∀s,a≠.str s) (h:convString g src a m f=.ok):
  OutP P ι w f ((convert src dst A).run P w):=by
 unfold convString at h
 split at h<;>first|(cases h;done)|skip
 rename_i e hs
 obtain⟨h1,h2⟩:=ifB_ok h
 obtain⟨n,cs,CS,h3,h4,h5,h6⟩:=cellsOfK_ok hr ha h2
 obtain⟨ns,h7,h8⟩:=bytesK_ok h4 h3
 obtain⟨h9,h10⟩:=h6 w rfl
 have hsu:=hg.desc hs (by simp)
 have hdu:=hg.desc hd (by simp)
 have heu:=hg.desc (isU8_ok h1) (by simp)
 have hlen:ns.length=n:=by
  have:=concL_length h4
  rw[h7] at this;simp at this;omega
 refine .mk' h8 (V:=.string ⟨(ns.map fun n=>UInt8.ofNat n.toNat).toArray⟩) (by simp[conc]) ?_
 cases a<;>first|(simp[cellsOfK] at h2;done)|skip
 case str s=>exact absurd rfl (hn s)
 case nils=>
  rw[conc_nils ha] at h9 h10 ⊢
  rw[run_convert_bytes_string w src dst e none 0 0 hsu heu hdu]
  have:n=0:=by simp[Builtin.lenOf] at h9;omega
  have:ns=[]:=List.length_eq_zero_iff.1 (by omega)
  subst this
  rfl
 case sl b o l c=>
  obtain⟨p,hp,rfl⟩:=conc_sl ha
  have hl:l=n:=by simpa[Builtin.lenOf] using h9
  subst hl
  rw[run_convert_bytes_string w src dst e _ l _ hsu heu hdu]
  rw[run_bytesToString w _ l _ ns (by simpa[Builtin.firstCells,h7] using h10),foldl_push_bytes]
  have he0:ByteArray.empty.data= #[]:=rfl
  rw[he0]
  simp
 case dead=>
  obtain⟨b,d,cp,rfl⟩:=conc_dead' ha
  have hl:n=0:=by simpa[Builtin.lenOf] using h9.symm
  subst hl
  rw[run_convert_bytes_string w src dst e _ 0 _ hsu heu hdu]
  rw[run_bytesToString w _ 0 _ ns (by simpa[Builtin.firstCells,h7] using h10),foldl_push_bytes]
  have he0:ByteArray.empty.data= #[]:=rfl
  rw[he0]
  simp
theorem shape_of {C:Array Value} {e:TypeId} {fz:Nat×Nat} {b:Nat} (h:w.heap[b]? =some (.cells C e fz)):w.shape? b=some (e,C.size):=by
 simp[World.shape?,h]
theorem convToUnsafe_ok (hg:GOk P g) (hr:Rel P ι m w) {src dst:TypeId} {b o:Nat} {f:AV→R} (hd:g.desc dst=.unsafePointer) (ha:conc ι (.ptr b o)=some A) (h:convToUnsafe g src b o m f=.ok):
  OutP P ι w f ((convert src dst A).run P w):=by
 unfold convToUnsafe at h
 split at h<;>first|(cases h;done)|skip
 rename_i t hs
 obtain⟨s,h1,h2⟩:=optK_ok h
 obtain⟨h3,h4⟩:=ifB_ok h2
 obtain⟨x,h5,h6⟩:=T.getK_ok (h4:m.t.getK b _=.ok)
 split at h6<;>first|(cases h6;done)|skip
 rename_i c e gr z
 obtain⟨v,h7,h8⟩:=nthK_ok h6
 obtain⟨p,hp,hA⟩:=conc_ptr ha
 obtain⟨C,e',fz,L,k1,k2,k3, -⟩:=blkOf hr h5 hp
 obtain⟨j,j1,j2⟩:=hg.size h1
 have hs1:=Nat.le_of_ble_eq_true h3
 have ho:o<L.length:=by
  rw[concL_length k2]
  rcases Nat.lt_or_ge o c.length with h|h
  ·exact h
  ·rw[List.getElem?_eq_none h] at h7;cases h7
 have hoC:p.delta+o<C.size:=by
  have:=k3 o ho
  rcases Nat.lt_or_ge (p.delta+o) C.size with h|h
  ·exact h
  ·rw[Array.getElem?_eq_none h,List.getElem?_eq_getElem ho] at this;cases this
 refine .mk' h8 ha ?_
 rw[hA]
 exact Lib.run_to_unsafe w ⟨p.blk,p.delta+o,none⟩ (hg.desc hs (by simp)) (hg.desc hd (by simp)) j1 (by omega) (shape_of k1) hoC
theorem convFromUnsafe_ok (hg:GOk P g) (hr:Rel P ι m w) {src dst u:TypeId} {b o:Nat} {f:AV→R} (hd:g.desc dst=.pointer u) (ha:conc ι (.ptr b o)=some A) (h:convFromUnsafe g src u b o m f=.ok):
  OutP P ι w f ((convert src dst A).run P w):=by
 unfold convFromUnsafe at h
 split at h<;>first|(cases h;done)|skip
 rename_i hs
 obtain⟨s,h1,h2⟩:=optK_ok h
 obtain⟨h3,h4⟩:=ifB_ok h2
 obtain⟨h5,h6⟩:=ifB_ok h4
 obtain⟨x,h7,h8⟩:=T.getK_ok (h6:m.t.getK b _=.ok)
 split at h8<;>first|(cases h8;done)|skip
 rename_i c e z
 obtain⟨h9,h10⟩:=ifB_ok h8
 obtain⟨h11,h12⟩:=ifB_ok h10
 rw[lenK_eq] at h12
 obtain⟨h13,h14⟩:=ifB_ok h12
 obtain rfl:=Nat.eq_of_beq_eq_true h11
 obtain rfl:=Nat.eq_of_beq_eq_true h5
 obtain⟨p,hp,hA⟩:=conc_ptr ha
 obtain⟨C,e',fz,L,k1,k2,k3,k4,k5⟩:=blkOf hr h7 hp
 have hz2:=Nat.le_of_ble_eq_true h9
 obtain⟨rfl,k6, -⟩:=k5 (by omega)
 obtain⟨k7,k8⟩:=k6 rfl
 obtain⟨j,j1,j2⟩:=hg.size h1
 have hs1:=Nat.le_of_ble_eq_true h3
 have hsn:=Nat.le_of_ble_eq_true h13
 refine .mk' h14 ha ?_
 rw[hA]
 have hce:P.cellsOf e'=s:=by simp[Program.cellsOf,j1,j2]
 refine Lib.run_from_unsafe w ⟨p.blk,p.delta+0,none⟩ (hg.desc hs (by simp)) (hg.desc hd (by simp)) j1 (shape_of k1) ?_
 rw[k7,hce]
 have hcount:1≤C.size / s:=(Nat.le_div_iff_mul_le (by omega)).2 (by omega)
 have hdp:P.depth=(2*(P.types.size+Made.depth)+1)+1:=rfl
 rw[hdp]
 simp only[liesAt,Bool.or_eq_true]
 left
 rw[hdp]
 have hs0:s≠0:=by omega
 simp[rowAt,hce,hcount,sameLayout,hs0]
theorem convK_ok (hg:GOk P g) (hr:Rel P ι m w) {src dst:TypeId} {f:AV→Mem→R} (ha:conc ι a=some A) (h:convK g src dst a m f=.ok):
  Out P ι m w f ((convert src dst A).run P w):=by
 obtain⟨h0,h1⟩:=ifB_ok h
 have hs:g.desc src≠.invalid:=by
  unfold known at h0
  split at h0
  ·cases h0
  ·assumption
 have hsu:=hg.run_desc rfl hs w
 split at h1<;>first|(cases h1;done)|skip
 ·rename_i k j n hd
  have hdu:=hg.run_desc hd (by simp) w
  rw[conc_int ha]
  refine OutP.out hr (.mkInt (wrapK_ok h1) (n':=k.wrap n) ?_ rfl)
  simp[convert,hsu,hdu,Conv.intToInt]
 ·rename_i s hd
  have hdu:=hg.run_desc hd (by simp) w
  have ha':=ha
  rw[conc_str ha] at ha' ⊢
  refine OutP.out hr (.mk' h1 ha' ?_)
  simp[convert,hsu,hdu]
 ·rename_i e s hd
  rw[conc_str ha]
  exact convBytes_ok hg hr hd h1
 ·rename_i hd
  exact OutP.out hr (convString_ok hg hr hd ha (by simp) h1)
 ·rename_i hd
  exact OutP.out hr (convString_ok hg hr hd ha (by simp) h1)
 ·rename_i hd
  exact OutP.out hr (convToUnsafe_ok hg hr hd ha h1)
 ·rename_i hd
  exact OutP.out hr (convFromUnsafe_ok hg hr hd ha h1)
end
end Go.AM
end
section
namespace Go.AM
section
variable {P:Program} {ι:Inj} {m:Mem} {w w':World} {A B:Value} {a b:AV} {t:TypeId} {g:G} {ts:Array TypeId} {ty:TypeId}
theorem liesAt_u8 {e u:TypeId} (he:P.underlying e=some (.int .u8)) (hu:P.underlying u=some (.int .u8)) (hc:P.cellsOf e=1) {count off n:Nat} (hn:off+n≤count):liesAt P P.depth e count off u n=true:=by
 have hd:P.depth=(2*(P.types.size+Made.depth)+1)+1:=rfl
 rw[hd]
 simp only[liesAt,Bool.or_eq_true]
 left
 rw[hd]
 simp[rowAt,hc,hn,sameLayout,he,hu,Nat.mod_one]
theorem add_one_add (a:Addr) (j:Nat):(a.add 1).add j=a.add (j+1):=by
 unfold Addr.add
 by_cases hj:j=0
 ·subst hj;simp
 ·simp[hj];omega
theorem loadBytes_run:∀(ns:List Int) (a:Addr) (acc:ByteArray),(∀(j:Nat) (n:Int),ns[j]? =some n→w.cell? (a.add j)=some (.int .u8 n))→
  (loadBytes a acc ns.length).run P w=.ok ⟨acc.data++(ns.map fun n=>UInt8.ofNat n.toNat).toArray⟩ w
 |[],a,acc,_=>by simp[loadBytes]
 |n::ns,a,acc,h=>by
  have h0:w.cell? a=some (.int .u8 n):=by
   have:=h 0 n rfl
   simpa[Addr.add] using this
  have ih:=loadBytes_run ns (a.add 1) (acc.push n.toNat.toUInt8) (fun j y hy=>by
   rw[add_one_add]
   exact h (j+1) y (by simpa using hy))
  simp only[List.length_cons,loadBytes,Sem.run_bind,run_load,h0,Result.andThen]
  rw[ih]
  congr 1
  apply ByteArray.ext
  simp[ByteArray.push,Nat.toUInt8]
theorem unsafeString_run {u:TypeId} {k:IntKind} {n:Nat} {ad:Addr} {l:List UInt8} (ts0:ts[0]? =some t) (ht:P.underlying t=some (.pointer u)) (hn:n≠0) (hn2:n≤1099511627776) (hv:(variablesAt ad u n).run P w=.ok true w)
  (hl:(loadBytes ad .empty n).run P w=.ok ⟨l.toArray⟩ w):(Builtin.unsafeString_ ts ty #[.pointer (some ad),.int k n]).run P w=.ok (.string ⟨l.toArray⟩) (w.freeze ad n):=by
 obtain⟨s1,s2,s3,s4,hdef⟩:∃s1 s2 s3 s4,Builtin.unsafeString_ ts ty #[.pointer (some ad),.int k n]=
   (do
    let n←asInt (.int k n)
    let some pt:=ts[0]? |stuck s1
    if n<0 then runtimePanic (.error s2)
    if n>IntKind.i64.max then unsupported (.unsafePointer s3)
    if n=0 then pure (.string .empty)
    else if←variablesAt ad (← elemOf pt) n.toNat then do
     let s←loadBytes ad .empty n.toNat
     freeze ad n.toNat
     pure (.string s)
    else unsupported (.unsafePointer s4)):=⟨_,_,_,_,rfl⟩
 rw[hdef]
 have hmax:IntKind.i64.max=9223372036854775807:=rfl
 have hneg:¬(n:Int)<0:=by omega
 have h63:¬(9223372036854775807:Int)<(n:Int):=by omega
 simp[asInt,asIntOf,hmax,h63,hneg,hn,ts0,elemOf,run_underlying ht,hv,hl]
theorem unsafeString_none {k:IntKind} {p:Option Addr} (ts0:ts[0]? =some t):(Builtin.unsafeString_ ts ty #[.pointer p,.int k 0]).run P w=.ok (.string ⟨#[]⟩) w:=by
 have hmax:IntKind.i64.max=9223372036854775807:=rfl
 cases p with
 |none=>
  obtain⟨s1,s2,s3,s4,hdef⟩:∃s1 s2 s3 s4,Builtin.unsafeString_ ts ty #[.pointer none,.int k 0]=
    (do
     let n←asInt (.int k 0)
     let some _:=ts[0]? |stuck s1
     if n<0 then runtimePanic (.error s2)
     if n>IntKind.i64.max then unsupported (.unsafePointer s3)
     if n=0 then pure (.string .empty)
     else runtimePanic (.error s4)):=⟨_,_,_,_,rfl⟩
  rw[hdef]
  simp[asInt,asIntOf,hmax,ts0]
  rfl
 |some ad=>
  obtain⟨s1,s2,s3,s4,hdef⟩:∃s1 s2 s3 s4,Builtin.unsafeString_ ts ty #[.pointer (some ad),.int k 0]=
    (do
     let n←asInt (.int k 0)
     let some pt:=ts[0]? |stuck s1
     if n<0 then runtimePanic (.error s2)
     if n>IntKind.i64.max then unsupported (.unsafePointer s3)
     if n=0 then pure (.string .empty)
     else if←variablesAt ad (← elemOf pt) n.toNat then do
      let s←loadBytes ad .empty n.toNat
      freeze ad n.toNat
      pure (.string s)
     else unsupported (.unsafePointer s4)):=⟨_,_,_,_,rfl⟩
  rw[hdef]
  simp[asInt,asIntOf,hmax,ts0]
  rfl
theorem frozen_heap {w:World} {C:Array Value} {e:TypeId} {fz:Nat×Nat} {ad:Addr} {n:Nat} (h:w.heap[ad.block]? =some (.cells C e fz)) (hn:n≠0):
  (w.freeze ad n).heap[ad.block]? =some (.cells C e (if fz.1==fz.2 then(ad.off,ad.off+n) else(min fz.1 ad.off,max fz.2 (ad.off+n))))∧
   (w.freeze ad n).heap.size=w.heap.size∧∀k,k≠ad.block→(w.freeze ad n).heap[k]? =w.heap[k]? :=by
 unfold World.freeze
 rw[if_neg hn]
 refine⟨?_,by simp,fun k hk=>?_⟩
 ·simp only[Array.getElem?_modify,h]
  obtain⟨lo,hi⟩:=fz
  simp
 ·simp only[Array.getElem?_modify]
  rw[if_neg (fun e=>hk e.symm)]
theorem isBytePtr_ok (h:isBytePtr g t=true):∃u,g.desc t=.pointer u∧isU8 g u=true:=by
 unfold isBytePtr at h
 split at h
 ·rename_i u hd;exact⟨u,hd,h⟩
 ·cases h
theorem unsafeStrK_ok (hg:GOk P g) (hr:Rel P ι m w) {f:AV→Mem→R} (ts0:ts[0]? =some t) (ha:conc ι a=some A) (hb:conc ι b=some B) (h:unsafeStrK g t a b m f=.ok):
  Out P ι m w f ((Builtin.unsafeString_ ts ty #[A,B]).run P w):=by
 obtain⟨k,n,rfl,h1⟩:=asNatK_ok h
 rw[conc_int hb]
 split at h1<;>first|(cases h1;done)|skip
 ·obtain⟨h2,h3⟩:=ifB_ok h1
  have hn:=Nat.eq_of_beq_eq_true h2
  subst hn
  have e:A=.pointer none:=by simp[conc] at ha;exact ha.symm
  rw[e]
  exact OutP.out hr (.mk' h3 (by simp[conc]) (unsafeString_none ts0))
 ·rename_i bl o
  obtain⟨p,hp,rfl⟩:=conc_ptr ha
  rw[iteB_eq] at h1
  split at h1<;>rename_i hn
  ·have hn:=Nat.eq_of_beq_eq_true hn
   subst hn
   exact OutP.out hr (.mk' h1 (by simp[conc]) (unsafeString_none ts0))
  ·have hn0:n≠0:=fun e=>hn (by rw[e];rfl)
   obtain⟨h2,h3⟩:=ifB_ok h1
   obtain⟨x,h4,h5⟩:=T.getK_ok (h3:m.t.getK bl _=.ok)
   split at h5<;>first|(cases h5;done)|skip
   rename_i c e gr z
   obtain⟨h6,h7⟩:=ifB_ok h5
   obtain⟨h8,h9⟩:=ifB_ok h7
   obtain⟨s,h10,h11⟩:=optK_ok h9
   obtain⟨h12,h13⟩:=ifB_ok h11
   obtain⟨h14,h15⟩:=ifB_ok h13
   obtain⟨h16,h17⟩:=dropK_ok h15
   obtain⟨h18,h19⟩:=takeK_ok h17
   obtain rfl:=Nat.eq_of_beq_eq_true h12
   obtain⟨u,hdu,hu8⟩:=isBytePtr_ok h2
   obtain⟨C,e',fz,L,k1,k2,k3,k4,k5⟩:=blkOf hr h4 hp
   have hz2:=Nat.le_of_ble_eq_true h6
   obtain⟨rfl,k6,k7,k8⟩:=k5 (by omega)
   have hl:=concL_take (concL_drop k2 o) n
   obtain⟨ns,j1,j2⟩:=bytesK_ok hl h19
   have hLl:=concL_length k2
   simp only[List.length_drop] at h18
   have hnl:ns.length=n:=by
    have:=congrArg List.length j1
    simp at this;omega
   have hsize:p.delta+c.length≤C.size:=by
    rcases Nat.eq_zero_or_pos c.length with h0|h0
    ·omega
    ·have h3:=k3 (L.length - 1) (by omega)
     have:(L[L.length - 1]?).isSome=true:=by rw[List.getElem?_eq_getElem (by omega)];rfl
     rw[←h3] at this
     rcases Nat.lt_or_ge (p.delta+(L.length - 1)) C.size with h'|h'
     ·omega
     ·rw[Array.getElem?_eq_none h'] at this;cases this
   have hce:P.cellsOf e'=1:=by
    obtain⟨i,q1,q2⟩:=hg.size h10
    simp[Program.cellsOf,q1,q2]
   have heu:=hg.desc (isU8_ok h8) (by simp)
   have huu:=hg.desc (isU8_ok hu8) (by simp)
   have hvar:(variablesAt ⟨p.blk,p.delta+o,none⟩ u n).run P w=.ok true w:=by
    simp[variablesAt,shape_of k1]
    rw[hce,Nat.div_one]
    exact liesAt_u8 heu huu hce (by omega)
   have hload:(loadBytes ⟨p.blk,p.delta+o,none⟩ .empty n).run P w=.ok ⟨(ns.map fun n=>UInt8.ofNat n.toNat).toArray⟩ w:=by
    have:=loadBytes_run (P:=P) (w:=w) ns ⟨p.blk,p.delta+o,none⟩ .empty (fun j v hv=>by
     have hj:j<ns.length:=by
      rcases Nat.lt_or_ge j ns.length with h|h
      ·exact h
      ·rw[List.getElem?_eq_none h] at hv;cases hv
     have hL:((L.drop o).take n)[j]? =some (.int .u8 v):=by rw[j1,List.getElem?_map,hv];rfl
     rw[List.getElem?_take,if_pos (by omega),List.getElem?_drop] at hL
     rw[add_plain,cell_of k1,Nat.add_assoc,k3 (o+j) (by omega)]
     exact hL)
    rw[hnl] at this
    rw[this]
    have he0:ByteArray.empty.data= #[]:=rfl
    rw[he0]
    simp
   have hrun:=unsafeString_run (ty:=ty) (k:=k) ts0 (hg.desc hdu (by simp)) hn0 (Nat.le_of_ble_eq_true h14) hvar hload
   obtain⟨f1,f2,f3⟩:=frozen_heap (ad:=⟨p.blk,p.delta+o,none⟩) k1 hn0
   have fin:∀z',(z'=2∧z≠1∨z'=4)→putK m bl (.cells c e' gr z') (fun m=>f (.str (ns.map fun n=>UInt8.ofNat n.toNat)) m)=.ok→
     Out P ι m w f ((Builtin.unsafeString_ ts ty #[.pointer (some ⟨p.blk,p.delta+o,none⟩),.int k n]).run P w):=fun z' hz' h0=>by
    obtain⟨t',i1,i2⟩:=T.setK_ok (h0:m.t.setK bl _ _=.ok)
    have hfr:(w.freeze ⟨p.blk,p.delta+o,none⟩ n).os=w.os∧(w.freeze ⟨p.blk,p.delta+o,none⟩ n).tape=w.tape∧(w.freeze ⟨p.blk,p.delta+o,none⟩ n).output=w.output:=by
     unfold World.freeze
     rw[if_neg hn0]
     exact⟨rfl,rfl,rfl⟩
    have hst:=Step.put (x':=.cells c e' gr z') hr h4 (by rcases(show z=0∨z=1∨z=2 by omega) with rfl|rfl|rfl<;>rfl) hp i2 f2 f3 hfr.1 hfr.2.1 hfr.2.2 ⟨C,e',_,L,f1,k2,k3,k4,fun _=>⟨rfl,k6,k7,?_⟩⟩
    ·exact⟨_,_,ι,_,_,hrun,i1,hst,by simp[conc]⟩
    ·refine⟨by omega,by omega,fun hz=>?_⟩
     have hz1:z≠1:=by omega
     rcases(show z=0∨z=2 by omega) with rfl|rfl
     ·rw[k8.1 rfl]
      simp;omega
     ·have:=k8.2.2 rfl
      split
      ·simp;omega
      ·simp;omega
   rw[iteB_eq] at j2
   split at j2<;>rename_i hz
   ·exact fin 4 (.inr rfl) j2
   ·exact fin 2 (.inl ⟨rfl,fun e=>hz (by rw[e];rfl)⟩) j2
end
end Go.AM
end
section
namespace Go.AM
section
variable {P:Program} {ι:Inj} {m:Mem} {w w':World} {A B:Value} {a b:AV} {t:TypeId} {g:G} {ts:Array TypeId} {ty:TypeId} {mask:Nat} {fr:Fr} {act:Act}
theorem extreme_fold {mx:Bool}:∀ {rest:List AV} {REST:List Value} {k:IntKind} {x:Int} {f:Int→R},concL ι rest=some REST→
  foldK (fun v (a:Int) k'=>asIntK v fun y=>iteB (intLt (pickI mx a y) (pickI mx y a)) (k' y) (k' a)) rest x f=.ok→
  ∃y,f y=.ok∧(REST.foldlM (if mx then Builtin.max2 else Builtin.min2) (Value.int k x)).run P w=.ok (.int k y) w
 |[],REST,k,x,f,hc,h=>by
  simp[concL] at hc
  subst hc
  exact⟨x,h,by simp⟩
 |v::rest,REST,k,x,f,hc,h=>by
  simp only[concL,Option.bind_eq_some_iff,Option.map_eq_some_iff] at hc
  obtain⟨V,h1,L,h2,rfl⟩:=hc
  have h':asIntK v (fun y=>iteB (intLt (pickI mx x y) (pickI mx y x)) (foldK (fun v (a:Int) k'=>asIntK v fun y=>iteB (intLt (pickI mx a y) (pickI mx y a)) (k' y) (k' a)) rest y f)
    (foldK (fun v (a:Int) k'=>asIntK v fun y=>iteB (intLt (pickI mx a y) (pickI mx y a)) (k' y) (k' a)) rest x f))=.ok:=h
  obtain⟨j,n,rfl,h3⟩:=asIntK_ok h'
  rw[iteB_eq,intLt_ok] at h3
  rw[conc_int h1]
  cases mx with
  |true=>
   by_cases hlt:x<n
   ·rw[if_pos (show decide (pickI true x n<pickI true n x)=true from decide_eq_true hlt)] at h3
    obtain⟨y,i1,i2⟩:=extreme_fold (k:=k) h2 h3
    refine⟨y,i1,?_⟩
    simp only[if_true] at i2
    simp[Builtin.max2,hlt,i2]
   ·rw[if_neg (show¬decide (pickI true x n<pickI true n x)=true from fun h=>hlt (of_decide_eq_true h))] at h3
    obtain⟨y,i1,i2⟩:=extreme_fold (k:=k) h2 h3
    refine⟨y,i1,?_⟩
    simp only[if_true] at i2
    simp[Builtin.max2,hlt,i2]
  |false=>
   by_cases hlt:n<x
   ·rw[if_pos (show decide (pickI false x n<pickI false n x)=true from decide_eq_true hlt)] at h3
    obtain⟨y,i1,i2⟩:=extreme_fold (k:=k) h2 h3
    refine⟨y,i1,?_⟩
    simp only[Bool.false_eq_true,if_false] at i2
    simp[Builtin.min2,hlt,i2]
   ·rw[if_neg (show¬decide (pickI false x n<pickI false n x)=true from fun h=>hlt (of_decide_eq_true h))] at h3
    obtain⟨y,i1,i2⟩:=extreme_fold (k:=k) h2 h3
    refine⟨y,i1,?_⟩
    simp only[Bool.false_eq_true,if_false] at i2
    simp[Builtin.min2,hlt,i2]
theorem extremeK_ok {mx:Bool} {vs:List AV} {args:Array Value} {f:AV→R} (hc:concL ι vs=some args.toList) (h:extremeK mx vs f=.ok):
  OutP P ι w f ((if mx then Builtin.max_ ts ty args else Builtin.min_ ts ty args).run P w):=by
 unfold extremeK at h
 split at h<;>first|(cases h;done)|skip
 rename_i k x rest
 simp only[concL,Option.bind_eq_some_iff,Option.map_eq_some_iff] at hc
 obtain⟨V,h1,L,h2,h3⟩:=hc
 have hV:=conc_int h1
 subst hV
 obtain⟨y,i1,i2⟩:=extreme_fold (P:=P) (w:=w) (k:=k) h2 h
 refine .mkInt i1 (n':=y) ?_ rfl
 cases mx with
 |true=>
  simp only[if_true] at i2 ⊢
  simp only[Builtin.max_,←h3]
  exact i2
 |false=>
  simp only[Bool.false_eq_true,if_false] at i2 ⊢
  simp only[Builtin.min_,←h3]
  exact i2
theorem entsRel_get {es:List Ent}:∀ {Es:List MapEntry},EntsRel ι es Es→∀ {q:Nat} {e:Ent},(es.find? fun e=>e.born==q)=some e→∃E,(Es.find? fun E=>E.born==q)=some E∧EntRel ι e E:=by
 induction es with
 |nil=>intro Es _ q e h;cases h
 |cons e0 es ih=>
  intro Es hr q e h
  cases Es with
  |nil=>exact hr.elim
  |cons E0 Es=>
   obtain⟨h0,h1⟩:=hr
   rw[List.find?_cons] at h ⊢
   rw[←h0.2.2]
   split at h
   ·injection h with h;subst h;exact⟨E0,rfl,h0⟩
   ·exact ih h1 h
theorem run_getIter {r:Nat} {mb:Option Nat} {s l:Nat} {seen:Array Nat} (h:w.heap[r]? =some (.mapIter mb s seen l)):(getObj r).run P w=.ok (.mapIter mb s seen l) w:=by simp[getObj,Sem.run,h]
theorem entryK_ok (hr:Rel P ι m w) {f:AV→Mem→R} (ha:conc ι a=some A) (h:entryK a m f=.ok):Out P ι m w f ((Instr.entry A).run P w):=by
 unfold entryK at h
 split at h<;>first|(cases h;done)|skip
 rename_i b
 obtain⟨p,hp,rfl⟩:=conc_ptr ha
 obtain⟨x,h1,h2⟩:=T.getK_ok (h:m.t.getK b _=.ok)
 split at h2<;>first|(cases h2;done)|skip
 rename_i mb s seen last
 obtain⟨y,h3,h4⟩:=T.getK_ok (h2:m.t.getK mb _=.ok)
 split at h4<;>first|(cases h4;done)|skip
 rename_i es c
 obtain⟨h5,h6⟩:=ifB_ok h4
 obtain⟨q,h7,h8⟩:=optK_ok h6
 obtain⟨e,h9,h10⟩:=optK_ok h8
 obtain⟨d0,m',k1,p',hp',rfl⟩:=blkOf hr h1 hp
 obtain⟨E,j1,j2,j3⟩:=blkOf hr h3 hp'
 obtain⟨E0,i1,i2,i3,i4⟩:=entsRel_get j2 h9
 obtain rfl:=Nat.eq_of_beq_eq_true h5
 refine OutP.out hr (.mk' h10 (V:=.tuple #[E0.key,E0.val]) (by simp[conc,concL,i2,i3]) ?_)
 have hb:seen.toArray.back? =some q:=by simpa[Array.back?,List.getLast?_eq_getElem?] using h7
 have hf:(E.find? fun x=>x.born==q)=some E0:=by
  rw[←Array.find?_toList];exact i1
 have hdef:(Instr.entry (.pointer (some ⟨p.blk,p.delta+0,none⟩)))=Instr.entry (.pointer (some ⟨p.blk,0,none⟩)):=by rw[d0]
 rw[hdef]
 simp[Instr.entry,run_getIter k1,run_getMap j1,hb,hf]
end
end Go.AM
end
section
namespace Go.AM
section
variable {P:Program} {ι:Inj} {m:Mem} {w w':World} {A B K:Value} {a b key:AV} {t:TypeId} {g:G}
theorem cellEq_int {k:IntKind} {x:Int} {V:Value} {f:Bool→R} (ha:conc ι a=some V) (h:cellEq (.int k x) a f=.ok) (j:IntKind):∃r,Instr.sameNow (.int j) (.int k x) V=some r∧f r=.ok∧(r=true→a=.int k x):=by
 cases a<;>first|(cases h;done)|skip
 rename_i k' y
 obtain⟨h1,h2⟩:=ifB_ok (h:ifB 0 (kindEq k k') (f (intEq x y))=.ok)
 obtain rfl:=kindEq_ok h1
 rw[conc_int ha]
 rw[intEq_ok] at h2
 exact⟨_,by simp[Instr.sameNow],h2,fun h=>by rw[eq_of_beq h]⟩
theorem cellEq_str {s:List UInt8} {V:Value} {f:Bool→R} (ha:conc ι a=some V) (h:cellEq (.str s) a f=.ok):∃r,Instr.sameNow .string (.string ⟨s.toArray⟩) V=some r∧f r=.ok∧(r=true→a=.str s):=by
 cases a<;>first|(cases h;done)|skip
 rename_i s'
 have h2:f (strEq s s')=.ok:=h
 rw[conc_str ha]
 rw[strEq_ok] at h2
 refine⟨s==s',?_,h2,fun h=>by rw[eq_of_beq h]⟩
 show some ((⟨s.toArray⟩:ByteArray)==⟨s'.toArray⟩)=_
 congr 1
 by_cases e:s=s'
 ·subst e
  rw[(MapKept.bytes_beq _ _).2 rfl]
  simp
 ·have:¬((⟨s.toArray⟩:ByteArray)==⟨s'.toArray⟩)=true:=fun h=>e (by have:=(MapKept.bytes_beq _ _).1 h;injection this with h;exact List.toArray_inj h)
  rw[beq_eq_false_iff_ne.2 e]
  exact Bool.eq_false_iff.2 this
theorem cellEq_bool {x:Bool} {V:Value} {f:Bool→R} (ha:conc ι a=some V) (h:cellEq (.bool x) a f=.ok):∃r,Instr.sameNow .bool (.bool x) V=some r∧f r=.ok∧(r=true→a=.bool x):=by
 cases a<;>first|(cases h;done)|skip
 rename_i y
 have h2:f (iteB x y (Bool.not y))=.ok:=h
 rw[conc_bool ha]
 refine⟨x==y,rfl,?_,fun h=>by rw[eq_of_beq h]⟩
 rw[←h2]
 cases x<;>cases y<;>rfl
noncomputable def findFrom (g:G) (t:TypeId) (key:AV) (yes:Nat→Ent→R) (no:R):List Ent→Nat→R
 |[],_=>no
 |e::es,i=>keyEq g t key e.key fun b=>if b then yes i e else findFrom g t key yes no es (i+1)
theorem findK_from {yes:Nat→Ent→R} {no:R} (es:List Ent):findK g t key es yes no=findFrom g t key yes no es 0:=by
 suffices H:∀(es:List Ent) (i:Nat),(List.rec (motive:=fun _=>Nat→R) (fun _=>no) (fun e _ ih i=>keyEq g t key e.key fun b=>Bool.rec (motive:=fun _=>R) (forceN (Nat.succ i) ih) (yes i e) b) es i:R)=findFrom g t key yes no es i from H es 0
 intro es
 induction es with
 |nil=>intro i;rfl
 |cons e es ih=>
  intro i
  show keyEq g t key e.key _=_
  simp only[findFrom]
  congr 1
  funext b
  cases b with
  |true=>rfl
  |false=>
   show forceN (Nat.succ i) _=_
   rw[forceN_eq]
   exact ih _
def Found (ι:Inj) (key:AV) (yes:Nat→Ent→R) (no:R) (es:List Ent) (Es:List MapEntry) (i0:Nat) (r:Option (Nat×Value)):Prop:=
 (r=none∧no=.ok)∨∃i e E,r=some (i0+i,E.val)∧yes (i0+i) e=.ok∧es[i]? =some e∧Es[i]? =some E∧EntRel ι e E∧e.key=key
theorem Found.cons {yes:Nat→Ent→R} {no:R} {es:List Ent} {Es:List MapEntry} {i0:Nat} {r:Option (Nat×Value)} {e:Ent} {E:MapEntry} (h:Found ι key yes no es Es (i0+1) r):Found ι key yes no (e::es) (E::Es) i0 r:=by
 rcases h with h|⟨i,e',E',h1,h2,h3,h4,h5⟩
 ·exact .inl h
 ·exact .inr ⟨i+1,e',E',by rw[h1];congr 2;omega,by rw[show i0+(i+1)=i0+1+i by omega];exact h2,by simpa using h3,by simpa using h4,h5⟩
theorem findNow_ok {d:TypeDesc} {yes:Nat→Ent→R} {no:R} (hs:∀(e:AV) (V:Value) (f:Bool→R),conc ι e=some V→keyEq g t key e f=.ok→∃r,Instr.sameNow d K V=some r∧f r=.ok∧(r=true→e=key)):
  ∀ {es:List Ent} {Es:List MapEntry} {i0:Nat},EntsRel ι es Es→findFrom g t key yes no es i0=.ok→∃r,Instr.findNow d K Es i0=some r∧Found ι key yes no es Es i0 r
 |[],[],i0,_,h=>⟨none,rfl,.inl ⟨rfl,h⟩⟩
 |[],_::_,_,hr,_=>hr.elim
 |_::_,[],_,hr,_=>hr.elim
 |e::es,E::Es,i0,hr,h=>by
  obtain⟨r,h1,h2,hk⟩:=hs e.key E.key _ hr.1.1 (h:keyEq g t key e.key _=.ok)
  simp only[Instr.findNow,h1]
  cases r with
  |true=>exact⟨_,rfl,.inr ⟨0,e,E,rfl,by simpa using h2,rfl,rfl,hr.1,hk rfl⟩⟩
  |false=>
   obtain⟨r,h3,h4⟩:=findNow_ok hs hr.2 (by simpa using h2)
   exact⟨r,h3,h4.cons⟩
theorem findAsking_ok {yes:Nat→Ent→R} {no:R} (hs:∀(e:AV) (V:Value) (f:Bool→R),conc ι e=some V→keyEq g t key e f=.ok→∃r,(Op.equal t K V).run P w=.ok r w∧f r=.ok∧(r=true→e=key)):
  ∀ {es:List Ent} {Es:List MapEntry} {i0:Nat},EntsRel ι es Es→findFrom g t key yes no es i0=.ok→∃r,(Instr.findAsking t K Es i0).run P w=.ok r w∧Found ι key yes no es Es i0 r
 |[],[],i0,_,h=>⟨none,by simp[Instr.findAsking],.inl ⟨rfl,h⟩⟩
 |[],_::_,_,hr,_=>hr.elim
 |_::_,[],_,hr,_=>hr.elim
 |e::es,E::Es,i0,hr,h=>by
  obtain⟨r,h1,h2,hk⟩:=hs e.key E.key _ hr.1.1 (h:keyEq g t key e.key _=.ok)
  cases r with
  |true=>exact⟨_,by simp[Instr.findAsking,h1],.inr ⟨0,e,E,rfl,by simpa using h2,rfl,rfl,hr.1,hk rfl⟩⟩
  |false=>
   obtain⟨r,h3,h4⟩:=findAsking_ok hs hr.2 (by simpa using h2)
   exact⟨r,by simp[Instr.findAsking,h1];exact h3,h4.cons⟩
theorem cellEq_same {x y:AV} {f:Bool→R} (h:cellEq x y f=.ok):∃r,(∀f',cellEq x y f'=f' r)∧f r=.ok∧(r=true→x=y):=by
 cases x<;>cases y<;>first|(cases h;done)|skip
 ·rename_i x y
  refine⟨x==y,fun f'=>?_,?_,fun h=>by rw[eq_of_beq h]⟩
  ·show f' (iteB x y (Bool.not y))=_
   cases x<;>cases y<;>rfl
  ·have:f (iteB x y (Bool.not y))=.ok:=h
   rw[←this];cases x<;>cases y<;>rfl
 ·rename_i k x j y
  obtain⟨h1,h2⟩:=ifB_ok (h:ifB 0 (kindEq k j) (f (intEq x y))=.ok)
  refine⟨x==y,fun f'=>?_,by rw[←intEq_ok];exact h2,fun h=>by rw[eq_of_beq h,kindEq_ok h1]⟩
  show ifB 0 (kindEq k j) (f' (intEq x y))=_
  rw[h1,intEq_ok];rfl
 ·rename_i x y
  refine⟨x==y,fun f'=>?_,?_,fun h=>by rw[eq_of_beq h]⟩
  ·show f' (strEq x y)=_
   rw[strEq_ok]
  ·have:f (strEq x y)=.ok:=h
   rw[←strEq_ok];exact this
theorem cellsEq_same:∀ {xs ys:List AV} {f:Bool→R},cellsEq xs ys f=.ok→∃r,(∀f',cellsEq xs ys f'=f' r)∧f r=.ok∧(r=true→xs=ys)
 |[],[],f,h=>⟨true,fun _=>rfl,h,fun _=>rfl⟩
 |[],_::_,f,h=>⟨false,fun _=>rfl,h,fun h=>by cases h⟩
 |x::xs,[],f,h=>absurd (show R.bad 0=R.ok from h) (by simp)
 |x::xs,y::ys,f,h=>by
  have e:∀f',cellsEq (x::xs) (y::ys) f'=cellEq x y fun b=>Bool.rec (motive:=fun _=>R) (f' false) (cellsEq xs ys f') b:=fun f'=>rfl
  rw[e] at h
  obtain⟨r,h1,h2,h3⟩:=cellEq_same h
  cases r with
  |false=>exact⟨false,fun f'=>by rw[e,h1],h2,fun h=>by cases h⟩
  |true=>
   obtain⟨q,h4,h5,h6⟩:=cellsEq_same (h2:cellsEq xs ys f=.ok)
   exact⟨q,fun f'=>by rw[e,h1];exact h4 f',h5,fun h=>by rw[h3 rfl,h6 h]⟩
theorem flatEq_same (hg:GOk P g) (hflat:∀t,g.isFlat t=true→Flat P t) {xs ys:List AV} {X Y:List Value} {f:Bool→R} (hX:concL ι xs=some X) (hY:concL ι ys=some Y) (h:flatEq g t xs ys f=.ok):
  ∃b,f b=.ok∧(Op.equal t (.agg X.toArray) (.agg Y.toArray)).run P w=.ok b w∧(b=true→xs=ys):=by
 obtain⟨h1,h2⟩:=ifB_ok h
 obtain⟨z,h3,h4⟩:=optK_ok h2
 obtain⟨h5,h6⟩:=ifB_ok h4
 obtain⟨h7,h8⟩:=ifB_ok h6
 obtain⟨r,j1,j2,j3⟩:=cellsEq_same h8
 have h0:flatEq g t xs ys (fun b=>if b=r then .ok else .bad 0)=.ok:=by
  show ifB 0 (g.isFlat t) (optK 0 (g.zero t) fun z=>ifB 0 (fitsB xs z.cells) (ifB 0 (fitsB ys z.cells) (cellsEq xs ys _)))=_
  rw[h1,h3]
  show ifB 0 (fitsB xs z.cells) (ifB 0 (fitsB ys z.cells) (cellsEq xs ys _))=_
  rw[h5,h7]
  show cellsEq xs ys _=_
  rw[j1,if_pos rfl]
 obtain⟨b,k1,k2, -⟩:=flatEq_ok hg hflat (w:=w) hX hY h0
 have:b=r:=by
  by_cases e:b=r
  ·exact e
  ·rw[if_neg e] at k1;cases k1
 subst this
 exact⟨b,j2,k2,j3⟩
theorem findK_ok (hg:GOk P g) (hflat:∀t,g.isFlat t=true→Flat P t) (hk:key.isKey g t=true) (hK:conc ι key=some K) {es:List Ent} {Es:List MapEntry} {yes:Nat→Ent→R} {no:R} (he:EntsRel ι es Es)
  (h:findK g t key es yes no=.ok):(∀e,(Instr.checkKey e 10000 t K).run P w=.ok () w)∧∃r,(Instr.findKey t K Es).run P w=.ok r w∧Found ι key yes no es Es 0 r:=by
 rw[findK_from] at h
 have now:∀d,g.desc t=d→d≠.invalid→(∀(e:AV) (V:Value) (f:Bool→R),conc ι e=some V→keyEq g t key e f=.ok→∃r,Instr.sameNow d K V=some r∧f r=.ok∧(r=true→e=key))→
   ∃r,(Instr.findKey t K Es).run P w=.ok r w∧Found ι key yes no es Es 0 r:=fun d hd hi hs=>by
  have hu:=hg.run_desc hd hi w
  obtain⟨r,h1,h2⟩:=findNow_ok hs he h
  exact⟨r,by simp[Instr.findKey,hu,h1],h2⟩
 have agg:∀d xs,g.desc t=d→d≠.invalid→(∀X V,Instr.sameNow d (.agg X) V=none)→key=.agg xs→iteB (allPlain xs) (iteB (g.isFlat t) (match g.zero t with|some z=>fitsB xs z.cells|none=>false) false) false=true→
   (∀e,(Instr.checkKey e 10000 t K).run P w=.ok () w)∧∃r,(Instr.findKey t K Es).run P w=.ok r w∧Found ι key yes no es Es 0 r:=fun d xs hd hi hn hx hf=>by
  subst hx
  obtain⟨X,hX,rfl⟩:=conc_agg hK
  rw[iteB_eq] at hf
  split at hf<;>try cases hf
  rw[iteB_eq] at hf
  split at hf<;>rename_i hfl<;>try cases hf
  have hF:=hflat t hfl
  split at hf<;>try cases hf
  rename_i z hs
  refine⟨fun e=>hF.key e ι xs X w z (hg.zero hs) hX hf,?_⟩
  have hu:=hg.run_desc hd hi w
  cases Es with
  |nil=>
   cases es with
   |nil=>exact⟨none,by simp[Instr.findKey,hu,Instr.findNow],.inl ⟨rfl,h⟩⟩
   |cons e es=>exact he.elim
  |cons E Es=>
   obtain⟨r,h1,h2⟩:=findAsking_ok (P:=P) (w:=w) (K:=.agg X.toArray) (fun e V f hV hq=>by
    cases e<;>first|(cases hq;done)|skip
    rename_i ys
    obtain⟨Y,hY,rfl⟩:=conc_agg hV
    obtain⟨r,q1,q2,q3⟩:=flatEq_same hg hflat (w:=w) hX hY (hq:flatEq g t xs ys f=.ok)
    exact⟨r,q2,q1,fun h=>by rw[q3 h]⟩) he h
   exact⟨r,by simp[Instr.findKey,hu,Instr.findNow,hn,h1],h2⟩
 unfold AV.isKey at hk
 split at hk<;>try cases hk
 ·rename_i j k x hd
  have hu:=hg.run_desc hd (by simp) w
  obtain rfl:=conc_int hK
  exact⟨fun e=>(show∀n:Nat,(Instr.checkKey e (n+1) t _).run P w=.ok () w from fun n=>by simp[Instr.checkKey,hu]) 9999,now _ hd (by simp) fun e V f hV hq=>cellEq_int hV hq j⟩
 ·rename_i x hd
  have hu:=hg.run_desc hd (by simp) w
  obtain rfl:=conc_str hK
  exact⟨fun e=>(show∀n:Nat,(Instr.checkKey e (n+1) t _).run P w=.ok () w from fun n=>by simp[Instr.checkKey,hu]) 9999,now _ hd (by simp) fun e V f hV hq=>cellEq_str hV hq⟩
 ·rename_i x hd
  have hu:=hg.run_desc hd (by simp) w
  obtain rfl:=conc_bool hK
  exact⟨fun e=>(show∀n:Nat,(Instr.checkKey e (n+1) t _).run P w=.ok () w from fun n=>by simp[Instr.checkKey,hu]) 9999,now _ hd (by simp) fun e V f hV hq=>cellEq_bool hV hq⟩
 ·rename_i fs xs hd
  exact agg _ xs hd (by simp) (fun _ _=>by simp[Instr.sameNow]) rfl hk
 ·rename_i n e xs hd
  exact agg _ xs hd (by simp) (fun _ _=>by simp[Instr.sameNow]) rfl hk
end
end Go.AM
end
section
namespace Go.AM
section
variable {P:Program} {ι:Inj} {m:Mem} {w w':World} {A B:Value} {a b:AV} {t:TypeId} {g:G}
theorem lookupK_ok (hg:GOk P g) (hflat:∀t,g.isFlat t=true→Flat P t) (hr:Rel P ι m w) {ok:Bool} {f:AV→R} (ha:conc ι a=some A) (hb:conc ι b=some B) (h:lookupK g t a b ok m f=.ok):
  OutP P ι w f ((Instr.lookup t A B ok).run P w):=by
 unfold lookupK at h
 split at h<;>first|(cases h;done)|skip
 rename_i kt e hd
 have hu:=hg.run_desc hd (by simp) w
 obtain⟨h1,h2⟩:=ifB_ok h
 have out:∀ {v:AV} {V:Value} {c:Bool},conc ι v=some V→iteB ok (f (.tup [v,.bool c])) (f v)=.ok→OutP P ι w f (.ok (if ok then .tuple #[V,.bool c] else V) w):=fun {v V c} hv h0=>by
  cases ok with
  |true=>exact .mk' (h0:f (.tup [v,.bool c])=.ok) (V:=.tuple #[V,.bool c]) (by simp[conc,concL,hv]) rfl
  |false=>exact .mk' (h0:f v=.ok) hv rfl
 have none_:optK 0 (g.zero e) (fun z=>iteB ok (f (.tup [z,.bool false])) (f z))=.ok→∃Z,(zeroValue e).run P w=.ok Z w∧OutP P ι w f (.ok (if ok then .tuple #[Z,.bool false] else Z) w):=fun h0=>by
  obtain⟨z,h3,h4⟩:=optK_ok h0
  obtain⟨Z,k1,k2⟩:=G.zero_ok hg (ι:=ι) h3 w
  exact⟨Z,k1,out k2 h4⟩
 split at h2<;>first|(cases h2;done)|skip
 ·rw[conc_nilm ha]
  obtain⟨hck,r,h3,h4⟩:=findK_ok (P:=P) (w:=w) (es:=[]) (Es:=[]) (yes:=fun _ _=>.bad 0) (no:=R.ok) hg hflat h1 hb trivial rfl
  have hr0:r=none:=by
   rcases h4 with⟨h,_⟩|⟨i,e',E,_,h,_⟩
   ·exact h
   ·cases h
  subst hr0
  obtain⟨Z,k1,k2⟩:=none_ h2
  have hc:=hck true
  simpa[Instr.lookup,hu,hc,h3,k1] using k2
 ·rename_i bl
  obtain⟨x,h3,h4⟩:=T.getK_ok (h2:m.t.getK bl _=.ok)
  split at h4<;>first|(cases h4;done)|skip
  rename_i es c
  obtain⟨p,hp,rfl⟩:∃p,ι bl=some p∧A=.map (some p.blk):=by
   simp only[conc,Option.map_eq_some_iff] at ha
   obtain⟨p,q1,q2⟩:=ha;exact⟨p,q1,q2.symm⟩
  obtain⟨E,k1,k2,k3⟩:=blkOf hr h3 hp
  obtain⟨hck,r,h5,h6⟩:=findK_ok (P:=P) (w:=w) hg hflat h1 hb k2 h4
  have hc:=hck E.isEmpty
  rcases h6 with⟨rfl,h7⟩|⟨i,e',E',rfl,h7,h8,h9,h10, -⟩
  ·obtain⟨Z,j1,j2⟩:=none_ h7
   have:(Instr.lookup t (.map (some p.blk)) B ok).run P w=.ok (if ok then .tuple #[Z,.bool false] else Z) w:=by
    simp[Instr.lookup,hu,run_getMap k1,hc,h5,j1]
   rw[this];exact j2
  ·have:(Instr.lookup t (.map (some p.blk)) B ok).run P w=.ok (if ok then .tuple #[E'.val,.bool true] else E'.val) w:=by
    simp[Instr.lookup,hu,run_getMap k1,hc,h5]
   rw[this];exact out h10.2.1 h7
end
end Go.AM
end
section
namespace Go.AM
section
variable {ι:Inj} {K:Value} {key:AV}
theorem sameBits_plain (h:key.plain=true) (hK:conc ι key=some K) (n:Nat):Instr.sameBits n K K=true:=by
 cases key<;>first|(cases h;done)|skip
 ·rw[conc_bool hK];cases n<;>simp[Instr.sameBits]
 ·rw[conc_int hK];cases n<;>simp[Instr.sameBits]
 ·rw[conc_str hK]
  cases n<;>(simp only[Instr.sameBits];exact(MapKept.bytes_beq _ _).2 rfl)
theorem sameBits_zip (n:Nat):∀ {xs:List AV} {X:List Value},concL ι xs=some X→(∀x∈xs,x.plain=true)→((X.zip X).all fun(x,y)=>Instr.sameBits n x y)=true
 |[],X,h,_=>by simp[concL] at h;subst h;rfl
 |x::xs,X,h,hp=>by
  simp only[concL,Option.bind_eq_some_iff,Option.map_eq_some_iff] at h
  obtain⟨V,h1,L,h2,rfl⟩:=h
  have h3:=sameBits_zip n h2 fun y hy=>hp y (List.mem_cons_of_mem _ hy)
  rw[List.zip_cons_cons,List.all_cons,h3]
  simp[sameBits_plain (hp x (List.mem_cons_self ..)) h1 n]
theorem sameBits_agg {xs:List AV} {X:List Value} (h:concL ι xs=some X) (hp:∀x∈xs,x.plain=true) (n:Nat):Instr.sameBits (n+1) (.agg X.toArray) (.agg X.toArray)=true:=by
 have:=sameBits_zip n h hp
 simp only[Instr.sameBits,beq_self_eq_true,Bool.true_and]
 exact this
end
end Go.AM
end
section
namespace Go.AM
section
variable {P:Program} {ι:Inj} {m:Mem} {w w':World} {A B:Value} {a b:AV} {t:TypeId} {g:G}
theorem run_setMap {r:Nat} {E E':Array MapEntry} {c c':Nat} (h:w.heap[r]? =some (.map E c)):(setObj r (.map E' c')).run P w=.ok () {w with heap:=w.heap.setIfInBounds r (.map E' c')}:=by
 simp[setObj,Sem.run,h]
theorem Step.map (hr:Rel P ι m w) {bl:Nat} {es es':List Ent} {c c':Nat} {p:Pl} {E':Array MapEntry} (hb:m.t.find bl bl=some (.map es c)) (hp:ι bl=some p) (he:EntsRel ι es' E'.toList) {f:Mem→R}
  (h:putK m bl (.map es' c') f=.ok):∃m',f m'=.ok∧Step P ι m w ι m' {w with heap:=w.heap.setIfInBounds p.blk (.map E' c')}:=by
 obtain⟨E,k1,k2,k3⟩:=blkOf hr hb hp
 obtain⟨t',h1,h2⟩:=T.setK_ok (h:m.t.setK bl (.map es' c') (fun t=>f ⟨m.next,t⟩)=.ok)
 have hlt:p.blk<w.heap.size:=by
  rcases Nat.lt_or_ge p.blk w.heap.size with h|h
  ·exact h
  ·rw[Array.getElem?_eq_none h] at k1;cases k1
 refine⟨_,h1,Step.put hr hb rfl hp h2 (by simp) (fun k hk=>?_) rfl rfl rfl ⟨E',?_,he,k3⟩⟩
 ·simp only[Array.getElem?_setIfInBounds_ne (Ne.symm hk)]
 ·simp[hlt]
theorem EntsRel.set:∀ {es:List Ent} {Es:List MapEntry},EntsRel ι es Es→∀ {i:Nat} {e:Ent} {E:MapEntry},EntRel ι e E→EntsRel ι (es.set i e) (Es.set i E)
 |[],[],_,_,_,_,_=>trivial
 |[],_::_,h,_,_,_,_=>h.elim
 |_::_,[],h,_,_,_,_=>h.elim
 |_::_,_::_,h,0,_,_,he=>⟨he,h.2⟩
 |_::_,_::_,h,_+1,_,_,he=>⟨h.1,h.2.set he⟩
theorem EntsRel.app:∀ {es:List Ent} {Es:List MapEntry},EntsRel ι es Es→∀ {es':List Ent} {Es':List MapEntry},EntsRel ι es' Es'→EntsRel ι (es++es') (Es++Es')
 |[],[],_,_,_,h=>h
 |[],_::_,h,_,_,_=>h.elim
 |_::_,[],h,_,_,_=>h.elim
 |_::_,_::_,h,_,_,h'=>⟨h.1,h.2.app h'⟩
theorem EntsRel.erase:∀ {es:List Ent} {Es:List MapEntry},EntsRel ι es Es→∀(i:Nat),EntsRel ι (es.take i++es.drop (i+1)) (Es.eraseIdx i)
 |[],[],_,i=>by simp;trivial
 |[],_::_,h,_=>h.elim
 |_::_,[],h,_=>h.elim
 |_::_,_::_,h,0=>by simpa using h.2
 |e::es,E::Es,h,i+1=>by
  have:=h.2.erase i
  simp only[List.take_succ_cons,List.drop_succ_cons,List.cons_append,List.eraseIdx_cons_succ]
  exact⟨h.1,this⟩
theorem isKey_same {kt:TypeId} {key:AV} {K:Value} (hk:key.isKey g kt=true) (hK:conc ι key=some K) (n:Nat):Instr.sameBits (n+1) K K=true:=by
 unfold AV.isKey at hk
 have agg:∀xs,key=.agg xs→allPlain xs=true→Instr.sameBits (n+1) K K=true:=fun xs hx hp=>by
  subst hx
  obtain⟨X,hX,rfl⟩:=conc_agg hK
  refine sameBits_agg hX (fun x hx=>?_) n
  have:∀(l:List AV),allPlain l=true→∀x∈l,x.plain=true:=by
   intro l
   induction l with
   |nil=>intro _ x hx;cases hx
   |cons a l ih=>
    intro h x hx
    have h':iteB a.plain (allPlain l) false=true:=h
    rw[iteB_eq] at h'
    split at h'
    ·rcases List.mem_cons.1 hx with rfl|hx
     ·assumption
     ·exact ih h' x hx
    ·cases h'
  exact this xs hp x hx
 split at hk<;>try cases hk
 ·exact sameBits_plain rfl hK _
 ·exact sameBits_plain rfl hK _
 ·exact sameBits_plain rfl hK _
 ·rw[iteB_eq] at hk
  split at hk
  ·exact agg _ rfl ‹_›
  ·cases hk
 ·rw[iteB_eq] at hk
  split at hk
  ·exact agg _ rfl ‹_›
  ·cases hk
theorem updateK_ok (hg:GOk P g) (hflat:∀t,g.isFlat t=true→Flat P t) (hr:Rel P ι m w) {key val:AV} {K V:Value} {f:Mem→R} (ha:conc ι a=some A) (hK:conc ι key=some K) (hV:conc ι val=some V)
  (h:updateK g t a key val m f=.ok):∃w' m',(Instr.mapUpdate t A K V).run P w=.ok () w'∧f m'=.ok∧Step P ι m w ι m' w':=by
 unfold updateK at h
 split at h<;>first|(cases h;done)|skip
 rename_i kt e hd
 have hu:=hg.run_desc hd (by simp) w
 obtain⟨h1,h2⟩:=ifB_ok h
 split at h2<;>first|(cases h2;done)|skip
 rename_i bl
 obtain⟨x,h3,h4⟩:=T.getK_ok (h2:m.t.getK bl _=.ok)
 split at h4<;>first|(cases h4;done)|skip
 rename_i es c
 obtain⟨p,hp,rfl⟩:=conc_mp ha
 obtain⟨E,k1,k2,k3⟩:=blkOf hr h3 hp
 obtain⟨hck,r,h5,h6⟩:=findK_ok (P:=P) (w:=w) hg hflat h1 hK k2 h4
 have hc:=hck false
 rcases h6 with⟨rfl,h7⟩|⟨i,e',E',rfl,h7,h8,h9,h10,h11⟩
 ·rw[appK_eq,forceN_eq] at h7
  obtain⟨m',i1,i2⟩:=Step.map hr h3 hp (E':=E.push {key:=K,val:=V,born:=c}) (by
   rw[Array.toList_push]
   exact k2.app (es':=[⟨key,val,c⟩]) (Es':=[{key:=K,val:=V,born:=c}]) ⟨⟨hK,hV,rfl⟩,trivial⟩) h7
  refine⟨_,m',?_,i1,i2⟩
  simp[Instr.mapUpdate,hu,run_getMap k1,hc,h5,run_setMap k1]
 ·obtain⟨h12,h13⟩:=setNthK_ok h7
  simp only[Nat.zero_add] at h12 h13 h5
  have hkey:E'.key=K:=by
   have:=h10.1
   rw[h11,hK] at this;injection this with this;exact this.symm
  obtain⟨m',i1,i2⟩:=Step.map hr h3 hp (E':=E.modify i fun e=> {e with key:=K,val:=V}) (by
   have:(E.modify i fun e=> {e with key:=K,val:=V}).toList=E.toList.set i {key:=K,val:=V,born:=E'.born}:=by
    rw[Array.toList_modify]
    apply List.ext_getElem?
    intro j
    rw[List.getElem?_modify,List.getElem?_set]
    by_cases e:i=j
    ·subst e
     have hl:i<E.toList.length:=by
      rcases Nat.lt_or_ge i E.toList.length with h|h
      ·exact h
      ·rw[List.getElem?_eq_none h] at h9;cases h9
     rw[if_pos rfl,if_pos hl,h9];simp
    ·simp[e]
   rw[this]
   exact k2.set ⟨hK,hV,h10.2.2⟩) h13
  refine⟨_,m',?_,i1,i2⟩
  have hEi:E[i]? =some E':=by rw[←h9];simp
  have hkts:(Instr.keyThatStays K K).run P w=.ok K w:=by
   simp[Instr.keyThatStays,isKey_same h1 hK 9999]
  simp[Instr.mapUpdate,hu,run_getMap k1,hc,h5,hEi,hkey,hkts,run_setMap k1]
theorem deleteK_ok (hg:GOk P g) (hflat:∀t,g.isFlat t=true→Flat P t) (hr:Rel P ι m w) {kt et:TypeId} {bl:Nat} {key:AV} {K:Value} {ts:Array TypeId} {args:Array Value} {ty:TypeId} {f:AV→Mem→R}
  (ts0:ts[0]? =some t) (a0:args[0]? =some A) (a1:args[1]? =some K) (hd:g.desc t=.map kt et) (ha:conc ι (.mp bl)=some A) (hK:conc ι key=some K)
  (h:ifB 0 (key.isKey g kt) (blkK m bl fun y=>match y with
       | .map es c=>findK g kt key es (fun i _=>takeK es i fun l=>dropK es (Nat.succ i) fun r=>appK l r fun es=>putK m bl (.map es c) fun m=>f (.tup []) m) (f (.tup []) m)
       |_=>.bad 0)=.ok):Out P ι m w f ((Builtin.delete_ ts ty args).run P w):=by
 have hu:=hg.run_desc hd (by simp) w
 obtain⟨h1,h2⟩:=ifB_ok h
 obtain⟨x,h3,h4⟩:=T.getK_ok (h2:m.t.getK bl _=.ok)
 split at h4<;>first|(cases h4;done)|skip
 rename_i es c
 obtain⟨p,hp,rfl⟩:=conc_mp ha
 obtain⟨E,k1,k2,k3⟩:=blkOf hr h3 hp
 obtain⟨hck,r,h5,h6⟩:=findK_ok (P:=P) (w:=w) hg hflat h1 hK k2 h4
 have hc:=hck E.isEmpty
 rcases h6 with⟨rfl,h7⟩|⟨i,e',E',rfl,h7,h8,h9,h10,h11⟩
 ·refine⟨.tuple #[],w,ι,.tup [],m,?_,h7,.refl hr,by simp[conc,concL]⟩
  have hsame: {w with heap:=w.heap.setIfInBounds p.blk (.map E c)}=w:=by
   have:w.heap.setIfInBounds p.blk (.map E c)=w.heap:=by
    apply Array.ext_getElem?
    intro j
    by_cases e:p.blk=j
    ·subst e
     rw[k1]
     have hlt:p.blk<w.heap.size:=by
      rcases Nat.lt_or_ge p.blk w.heap.size with h|h
      ·exact h
      ·rw[Array.getElem?_eq_none h] at k1;cases k1
     simp[hlt]
    ·rw[Array.getElem?_setIfInBounds_ne e]
   rw[this]
  simp[Builtin.delete_,ts0,a0,a1,hu,run_getMap k1,hc,h5,run_setMap k1,hsame]
 ·obtain⟨h12,h13⟩:=takeK_ok h7
  obtain⟨h14,h15⟩:=dropK_ok h13
  rw[appK_eq] at h15
  simp only[Nat.zero_add] at h12 h14 h15 h5
  obtain⟨m',i1,i2⟩:=Step.map hr h3 hp (E':=E.eraseIdxIfInBounds i) (by
   have:(E.eraseIdxIfInBounds i).toList=E.toList.eraseIdx i:=by
    simp[Array.toList_eraseIdxIfInBounds]
   rw[this]
   exact k2.erase i) h15
  refine⟨.tuple #[],_,ι,.tup [],m',?_,i1,i2,by simp[conc,concL]⟩
  simp[Builtin.delete_,ts0,a0,a1,hu,run_getMap k1,hc,h5,run_setMap k1]
end
end Go.AM
end
section
namespace Go.AM
section
variable {P:Program} {ι:Inj} {m:Mem} {w w':World} {A B:Value} {a b:AV} {t:TypeId} {g:G} {fr:Fr} {mask:Nat} {act:Act}
theorem makeMapK_ok (hg:GOk P g) (hr:Rel P ι m w) (hf:FrRel P ι fr mask act.tmps) {r:Option Operand} {f:AV→Mem→R} (h:makeMapK g t r fr m f=.ok):Out P ι m w f ((Instr.makeMap t (r.map act.eval)).run P w):=by
 unfold makeMapK at h
 cases r with
 |none=>
  have:=newMap_ok hr h
  simpa[Instr.makeMap] using this
 |some x=>
  obtain⟨v,h1,h2⟩:=ev_ok hr hf (h:ev x fr _=.ok)
  split at h1<;>first|(cases h1;done)|skip
  rename_i kt e hd
  have hu:=hg.run_desc hd (by simp) w
  obtain⟨k,n,rfl,h3⟩:=asIntK_ok h1
  have:=newMap_ok hr h3
  have hv:=conc_int h2
  simpa[Instr.makeMap,hu,hv,asInt,asIntOf] using this
theorem andR_ok {a b:R} (h:andR a b=.ok):a=.ok∧b=.ok:=by
 cases a<;>first|(cases h;done)|exact⟨rfl,h⟩
theorem allR_ok {α:Type} {f:α→R}:∀ {l:List α},allR l f=.ok→∀a∈l,f a=.ok
 |[],_,_,h=>by cases h
 |x::l,h,a,ha=>by
  obtain⟨h1,h2⟩:=andR_ok (h:andR (f x) (allR l f)=.ok)
  rcases List.mem_cons.1 ha with rfl|ha
  ·exact h1
  ·exact allR_ok h2 a ha
theorem filter_rel {p:Nat→Bool}:∀ {es:List Ent} {Es:List MapEntry},EntsRel ι es Es→EntsRel ι (es.filter fun e=>p e.born) (Es.filter fun e=>p e.born)
 |[],[],_=>trivial
 |[],_::_,h=>h.elim
 |_::_,[],h=>h.elim
 |e::es,E::Es,h=>by
  have hb:=h.1.2.2
  have ih:=filter_rel (p:=p) h.2
  simp only[List.filter_cons,←hb]
  by_cases hp:p e.born=true
  ·rw[if_pos hp,if_pos hp];exact⟨h.1,ih⟩
  ·rw[if_neg hp,if_neg hp];exact ih
theorem all_rel {p:Nat→Bool}:∀ {es:List Ent} {Es:List MapEntry},EntsRel ι es Es→(es.all fun e=>p e.born)=(Es.all fun e=>p e.born)
 |[],[],_=>rfl
 |[],_::_,h=>h.elim
 |_::_,[],h=>h.elim
 |e::es,E::Es,h=>by
  have hb:=h.1.2.2
  simp only[List.all_cons,all_rel (p:=p) h.2,hb]
theorem ents_get:∀ {es:List Ent} {Es:List MapEntry},EntsRel ι es Es→∀ {i:Nat} {E:MapEntry},Es[i]? =some E→∃e,es[i]? =some e∧EntRel ι e E
 |[],[],_,i,E,h=>by simp at h
 |[],_::_,h,_,_,_=>h.elim
 |_::_,[],h,_,_,_=>h.elim
 |e::es,E::Es,h,0,E',hE=>by simp at hE;subst hE;exact⟨e,rfl,h.1⟩
 |e::es,E::Es,h,i+1,E',hE=>by simpa using ents_get h.2 (by simpa using hE)
theorem run_choose_next {n:Nat} (hn:0<n):∃i w',(choose (.mapNext n)).run P w=.ok i w'∧i<n∧∃d,w'= {w with drawn:=d}:=by
 by_cases h:n≤1
 ·exact⟨0,w,by simp[choose,Sem.run,Question.forced,h],hn,w.drawn,rfl⟩
 ·refine⟨w.tape w.drawn (.mapNext n) % n,{w with drawn:=w.drawn+1},?_,Nat.mod_lt _ hn,_,rfl⟩
  simp[choose,Sem.run,Question.forced,h,Question.cut]
theorem nextK_ok (hr:Rel P ι m w) {s:Bool} {ty:TypeId} {f:AV→Mem→R} (ha:conc ι a=some A) (h:nextK a s m f=.ok):Out P ι m w f ((Instr.next A s ty).run P w):=by
 unfold nextK at h
 split at h<;>first|(cases h;done)|skip
 rename_i b
 obtain⟨x,h1,h2⟩:=T.getK_ok (h:m.t.getK b _=.ok)
 obtain⟨p,hp,rfl⟩:=conc_ptr ha
 split at h2<;>first|(cases h2;done)|skip
 ·rename_i since seen stepped
  obtain⟨k0,m',k1,k2⟩:=blkOf hr h1 hp
  subst k2
  refine OutP.out hr (.mk' h2 (V:=.tuple #[.bool false]) (by simp[conc,concL]) ?_)
  rw[k0]
  simp[Instr.next,run_getIter k1]
 ·rename_i mb since seen last
  obtain⟨k0,m',k1,q,hq,rfl⟩:=blkOf hr h1 hp
  obtain⟨z,h3,h4⟩:=T.getK_ok (h2:m.t.getK mb _=.ok)
  split at h4<;>first|(cases h4;done)|skip
  rename_i es clock
  obtain⟨h5,h6⟩:=ifB_ok h4
  obtain⟨E,j1,j2,j3⟩:=blkOf hr h3 hq
  have hleft:=filter_rel (p:=fun n=>!(seen.any fun s=>s==n)) j2
  have hlast:=all_rel (p:=fun n=>Nat.ble last n) j2
  have hchk:(!seen.toArray.isEmpty&& !E.isEmpty&&E.all (fun x=>decide (x.born≥last)))=false:=by
   have e1:(E.all fun x=>decide (x.born≥last))=(es.all fun e=>Nat.ble last e.born):=by
    rw[hlast,←Array.all_toList]
    congr 1
    funext x
    rw[Bool.eq_iff_iff,Nat.ble_eq];simp
   have e2:E.isEmpty=es.isEmpty:=by
    have:=j2.length
    cases es with
    |nil=>simp at this ⊢;exact this
    |cons e es=>
     simp at this ⊢
     intro e;rw[e] at this;simp at this
   rw[e1,e2]
   have h5':(seen.isEmpty||es.isEmpty|| !(es.all fun e=>Nat.ble last e.born))=true:=h5
   have e3:seen.toArray.isEmpty=seen.isEmpty:=by cases seen<;>rfl
   rw[e3]
   revert h5'
   cases seen.isEmpty<;>cases es.isEmpty<;>cases (es.all fun e=>Nat.ble last e.born)<;>simp
  have hfil:(E.filter fun e=>!seen.toArray.contains e.born).toList=E.toList.filter fun e=>!(seen.any fun s=>s==e.born):=by
   rw[Array.toList_filter]
   congr 1
   funext e
   congr 1
   rw[List.contains_toArray,List.contains_eq_any_beq]
   congr 1
   funext x
   rw[Bool.eq_iff_iff];simp;exact⟨fun h=>h.symm,fun h=>h.symm⟩
  rw[k0]
  generalize hl:(es.filter fun e=>!(seen.any fun s=>s==e.born))=left at h6 hleft
  generalize hL:(E.filter fun e=>!seen.toArray.contains e.born)=LA at hfil
  rw[←hfil] at hleft
  have hget:∀ {α:Type} (k:Obj→Sem α),((getObj p.blk).bind k).run P w=(k (.mapIter (some q.blk) since seen.toArray last)).run P w:=fun k=>by
   have:=run_getIter (P:=P) k1
   show((getObj p.blk >>= k:Sem _)).run P w=_
   rw[Sem.run_bind,this];rfl
  have hrest:∀ {α:Type} (k:Obj→Sem α),((getObj q.blk).bind k).run P w=(k (.map E clock)).run P w:=fun k=>by
   have:=run_getMap (P:=P) j1
   show((getObj q.blk >>= k:Sem _)).run P w=_
   rw[Sem.run_bind,this];rfl
  cases left with
  |nil=>
   have hL0:LA= #[]:=by
    have:=hleft.length
    simp at this;exact this
   refine OutP.out hr (.mk' (h6:f (.tup [.bool false]) m=.ok) (V:=.tuple #[.bool false]) (by simp[conc,concL]) ?_)
   have hch:(choose (.mapNext 1)).run P w=.ok 0 w:=by simp[choose,Sem.run,Question.forced]
   simp only[Nat.add_zero,Instr.next,Sem.run_bind,run_getIter k1,run_getMap j1,Result.andThen_ok,hchk,hL,hL0]
   simp[hch]
  |cons e0 left=>
   obtain⟨h7,h8⟩:=ifB_ok (h6:ifB 0 _ _=.ok)
   have hall:=allR_ok h8
   have hold:=all_rel (p:=fun n=>Nat.ble (Nat.succ n) since) hleft
   rw[h7] at hold
   have hlt:∀x∈LA,x.born<since:=fun x hx=>by
    have:=List.all_eq_true.1 hold.symm x (by simpa using hx)
    exact Nat.le_of_ble_eq_true this
   have ho:LA.filter (fun x=>decide (x.born<since))=LA:=by
    rw[Array.filter_eq_self]
    intro x hx;simpa using hlt x hx
   have hn:LA.filter (fun x=>decide (x.born≥since))= #[]:=by
    rw[Array.filter_eq_empty_iff]
    intro x hx
    have:=hlt x hx
    simp;exact this
   have hpos:0<LA.size:=by
    have:=hleft.length
    simp at this;omega
   have hne:LA.isEmpty=false:=by
    rw[Bool.eq_false_iff];intro h
    rw[Array.isEmpty_iff] at h;rw[h] at hpos;simp at hpos
   obtain⟨i,w1,c1,c2,d,rfl⟩:=run_choose_next (P:=P) (w:=w) hpos
   have hgi:LA[i]? =some LA[i]:=Array.getElem?_eq_getElem c2
   obtain⟨e,g1,g2⟩:=ents_get hleft (i:=i) (E:=LA[i]) (by rw[←hgi];simp)
   have hk:=hall e (List.mem_of_getElem? g1)
   obtain⟨t',p1,p2⟩:=T.setK_ok (hk:m.t.setK b _ (fun t=>f (.tup [.bool true,e.key,e.val]) ⟨m.next,t⟩)=.ok)
   have hbl:p.blk<w.heap.size:=by
    rcases Nat.lt_or_ge p.blk w.heap.size with h|h
    ·exact h
    ·rw[Array.getElem?_eq_none h] at k1;cases k1
   have hst:Step P ι m w ι ⟨m.next,t'⟩ {w with drawn:=d,heap:=w.heap.setIfInBounds p.blk (.mapIter (some q.blk) since (seen.toArray.push e.born) clock)}:=
    Step.put hr h1 rfl hp p2 (by simp) (fun k hk=>by simp only[Array.getElem?_setIfInBounds_ne (Ne.symm hk)]) rfl rfl rfl
     ⟨k0,some q.blk,by simp[hbl],q,hq,rfl⟩
   refine⟨.tuple #[.bool true,LA[i].key,LA[i].val],_,ι,_,_,?_,p1,hst,by simp[conc,concL,g2.1,g2.2.1]⟩
   have hsz:({w with drawn:=d}:World).heap[p.blk]? =some (.mapIter (some q.blk) since seen.toArray last):=k1
   have hset:(setObj p.blk (.mapIter (some q.blk) since (seen.toArray.push LA[i].born) clock)).run P {w with drawn:=d}=.ok () {w with drawn:=d,heap:=w.heap.setIfInBounds p.blk (.mapIter (some q.blk) since (seen.toArray.push e.born) clock)}:=by
    rw[g2.2.2]
    simp[setObj,Sem.run,hsz]
   simp only[Nat.add_zero,Instr.next,Sem.run_bind,run_getIter k1,run_getMap j1,Result.andThen_ok,hchk,hL,ho,hn,hne]
   simp[c1,hgi]
   simp at hset
   rw[hset];rfl
end
end Go.AM
end
section
namespace Go.AM
def Wide (F:Fence):Prop:=F=Fence.wide∨∃l,F=Fence.wide.inRound l
theorem Wide.fn {F:Fence} (h:Wide F) (f:FuncId):F.fn f:=by
 rcases h with rfl|⟨l,rfl⟩<;>trivial
def Came (P:Program) (F:Fence) (n:Nat) (o:Oper) (a:Act) (Q:Exit→Act→World→Prop) (ι:Inj) (m:Mem) (w:World) (f:AV→Mem→R) (r:Result Next):Prop:=
 o.uponIn F n P a (fun a' w'=>∃V v ι' m',a'=a.put o.dst V∧f v m'=.ok∧Step P ι m w ι' m' w'∧conc ι' v=some V) Q r
def Ret (P:Program) (ι:Inj) (m:Mem) (w:World) (k:AV→Mem→R) (e:Ending) (w':World):Prop:=
 ∃V,e=.returned V∧∃v ι' m',k v m'=.ok∧Step P ι m w ι' m' w'∧conc ι' v=some V
structure CallOk (P:Program) (call:CallF):Prop where
 fn:∀(ι:Inj) (m:Mem) (w:World) (k:AV→Mem→R) (f:FuncId) (args:List AV) (Args:List Value),Rel P ι m w→concL ι args=some Args→call (.fn f args) m k=.ok→
  ∃fn,P.funcs[f]? =some fn∧((fn.body.isSome=true∧(callFunc f Args.toArray).run P w=.ok (.enter f Args.toArray) w∧∀n,CallsIn Fence.wide n P f Args.toArray w (Ret P ι m w k))∨
   (fn.body=none∧∃V w',(callFunc f Args.toArray).run P w=.ok (.value V) w'∧Ret P ι m w k (.returned V) w'))
 yield:∀(ι:Inj) (m:Mem) (w:World) (k:AV→Mem→R) (l:Nat) (p:Pl) (args:List AV) (Args:List Value),Rel P ι m w→ι l=some p→concL ι args=some Args→call (.yield l args) m k=.ok→
  ∃fn tmps asg body,(Instr.yield p.blk Args.toArray).run P w=.ok (.round p.blk fn tmps asg body) w∧∀n,RoundIn Fence.wide n P p.blk fn tmps asg body w (Ret P ι m w k)
section
variable {P:Program} {F:Fence} {n:Nat} {o:Oper} {a:Act} {Q:Exit→Act→World→Prop} {ι:Inj} {m:Mem} {w:World} {f:AV→Mem→R} {g:G} {call:CallF}
theorem Out.came {s:Sem Value} (h:Out P ι m w f (s.run P w)):Came P F n o a Q ι m w f ((do pure (.value (← s)):Sem Next).run P w):=by
 obtain⟨V,w',ι',v,m',h1,h2,h3,h4⟩:=h
 simp only[Sem.run_bind,h1,Result.andThen_ok,Sem.run_pure]
 exact⟨V,v,ι',m',rfl,h2,h3,h4⟩
theorem OutP.came {s:Sem Value} (hr:Rel P ι m w) (h:OutP P ι w (fun v=>f v m) (s.run P w)):Came P F n o a Q ι m w f ((do pure (.value (← s)):Sem Next).run P w):=(h.out hr).came
theorem came_unit {s:Sem Unit} {w':World} {m':Mem} (h1:s.run P w=.ok () w') (h2:f .undef m'=.ok) (h3:Step P ι m w ι m' w'):Came P F n o a Q ι m w f ((do s;pure .skip:Sem Next).run P w):=by
 simp only[Sem.run_bind,h1,Result.andThen_ok,Sem.run_pure]
 exact⟨undef,.undef,ι,m',rfl,h2,h3,by simp[AV.undef,conc,concL,undef]⟩
theorem came_value {V:Value} {v:AV} (hr:Rel P ι m w) (h1:conc ι v=some V) (h2:f v m=.ok):Came P F n o a Q ι m w f (.ok (.value V) w):=⟨V,v,ι,m,rfl,h2,.refl hr,h1⟩
theorem came_ret {V:Value} {w':World} (h:Ret P ι m w f (.returned V) w'):Came P F n o a Q ι m w f (.ok (.value V) w'):=by
 obtain⟨V',e,v,ι',m',h1,h2,h3⟩:=h
 injection e with e;subst e
 exact⟨V,v,ι',m',rfl,h1,h2,h3⟩
theorem came_enter (hF:Wide F) {fid:FuncId} {args:Array Value} (h:∀n,CallsIn Fence.wide n P fid args w (Ret P ι m w f)):Came P F n o a Q ι m w f (.ok (.enter fid args) w):=by
 refine⟨fun hd=>absurd hd (by rcases hF with rfl|⟨l,rfl⟩<;>simp[Fence.wide]),?_⟩
 have key:CallsIn F (n - 1) P fid args w (Ret P ι m w f):=by
  rcases hF with rfl|⟨l,rfl⟩
  ·exact h _
  ·exact h _
 refine key.mono fun e w'' ⟨V,he,v,ι',m',h1,h2,h3⟩=>?_
 subst he
 exact⟨V,v,ι',m',rfl,h1,h2,h3⟩
theorem came_round (hF:Wide F) {l:Nat} {fid:FuncId} {tmps:Array Value} {asg body:Code} (h:∀n,RoundIn Fence.wide n P l fid tmps asg body w (Ret P ι m w f)):Came P F n o a Q ι m w f (.ok (.round l fid tmps asg body) w):=by
 refine⟨fun hd=>absurd hd (by rcases hF with rfl|⟨l,rfl⟩<;>simp[Fence.wide]),?_⟩
 have key:RoundIn F (n - 1) P l fid tmps asg body w (Ret P ι m w f):=by
  rcases hF with rfl|⟨l,rfl⟩
  ·exact h _
  ·exact h _
 refine key.mono fun e w'' ⟨V,he,v,ι',m',h1,h2,h3⟩=>?_
 subst he
 exact⟨V,v,ι',m',rfl,h1,h2,h3⟩
theorem CallOk.came (hc:CallOk P call) (hF:Wide F) {fid:FuncId} {args:List AV} {Args:List Value} (hr:Rel P ι m w) (hargs:concL ι args=some Args) (h:call (.fn fid args) m f=.ok):
  Came P F n o a Q ι m w f ((callFunc fid Args.toArray).run P w):=by
 obtain⟨fn,_,⟨_,h1,h2⟩|⟨_,V,w',h1,h2⟩⟩:=hc.fn ι m w f fid args Args hr hargs h
 ·rw[h1];exact came_enter hF h2
 ·rw[h1];exact came_ret h2
theorem methodOf_ok (hg:GOk P g) {t:TypeId} {name:String} {fid:FuncId} {V:Value} (h:methodOf g t name=some fid):(method (P.types.size+Made.depth) t V name).run P w=.ok (fid,V) w:=by
 have h1:1≤Made.depth:=by decide
 obtain⟨k,hk⟩:∃k,P.types.size+Made.depth=k+1:=⟨P.types.size+Made.depth - 1,by omega⟩
 rw[hk]
 unfold methodOf at h
 split at h<;>first|(cases h;done)|skip
 rename_i i hi
 have hinfo:=hg.info hi
 split at h<;>first|(cases h;done)|skip
 rename_i mt hm
 split at h<;>first|(cases h;done)|skip
 rename_i hpath
 have hp:mt.path.toList=[]:=by
  have:=Array.isEmpty_iff.1 hpath
  rw[this]
 have hfind:i.methods.find? (fun x=>x.name==name)=some mt:=by simpa using hm
 have hd:∀d,g.desc t=d→d≠.invalid→(underlying t).run P w=.ok d w:=fun d h1 h2=>hg.run_desc h1 h2 w
 split at h<;>first|(cases h;done)|skip
 ·rename_i f' hfn
  split at h<;>first|(cases h;done)|skip
  rename_i e hdesc
  injection h with h
  subst h
  have hu:=hd _ hdesc (by simp)
  simp[method,typeInfo,hinfo,hfind,hp,follow,hfn,receiverAt,hu,Place.get]
 ·rename_i f' hfn
  have hnp:∀e,g.desc t≠.pointer e:=fun e he=>by rw[he] at h;cases h
  have hinv:g.desc t≠.invalid:=fun he=>by rw[he] at h;cases h
  have hf':f'=fid:=by
   split at h
   ·cases h
   ·cases h
   ·injection h
  subst hf'
  have hu:=hd _ rfl hinv
  simp[method,typeInfo,hinfo,hfind,hp,follow,hfn,receiverAt,hu,Place.get]
theorem resolveFn_ok (hc:CallOk P call) (hF:Wide F) (hr:Rel P ι m w) {fn:Fn} {first cap args:List AV} {A:Value} {ARGS:Array Value} (ha:conc ι (.fn fn first cap)=some A) (hargs:concL ι args=some ARGS.toList)
  (h:resolveFn fn first cap args (fun t=>call t m f)=.ok):Came P F n o a Q ι m w f ((do let d←Deferred.ofValue A ARGS;invoke d.target d.args:Sem Next).run P w):=by
 obtain⟨f',a',c',h1,h2,h3,rfl⟩:=conc_fn ha
 unfold resolveFn at h
 split at h<;>first|(cases h;done)|skip
 ·rename_i i
  rw[appK_eq,appK_eq] at h
  simp only[concFn,Option.some.injEq] at h1
  subst h1
  have:=hc.came (n:=n) (o:=o) (a:=a) (Q:=Q) hF hr (concL_append h2 (concL_append hargs h3)) h
  have e:(a'++(ARGS.toList++c')).toArray=a'.toArray++ARGS++c'.toArray:=by apply Array.ext';simp
  rw[e] at this
  simpa[Deferred.ofValue,invoke] using this
 ·rename_i l
  simp only[concFn,Option.map_eq_some_iff] at h1
  obtain⟨p,hp,rfl⟩:=h1
  rw[appK_eq] at h
  obtain⟨fn,tmps,asg,body,y1,y2⟩:=hc.yield ι m w f l p _ _ hr hp (concL_append h2 hargs) h
  have:=came_round (n:=n) (o:=o) (a:=a) (Q:=Q) hF y2
  rw[←y1] at this
  have e:(a'++ARGS.toList).toArray=a'.toArray++ARGS:=by apply Array.ext';simp
  rw[e] at this
  simpa[Deferred.ofValue,invoke] using this
theorem builtinK_ok (hg:GOk P g) (hflat:∀t,g.isFlat t=true→Flat P t) (hr:Rel P ι m w) {b:Builtin} {ats:Array TypeId} {tl:List TypeId} (htl:ats.toList=tl) {args:List AV} {ARGS:Array Value} {ty:TypeId} {cs:Array Bool}
  (hargs:concL ι args=some ARGS.toList) (h:builtinK g b tl args m f=.ok):Came P F n o a Q ι m w f ((builtin b ats ty cs ARGS).run P w):=by
 have get:∀ {i:Nat} {v:AV},args[i]? =some v→∃V,conc ι v=some V∧ARGS[i]? =some V:=fun {i v} hv=>by
  obtain⟨V,h1,h2⟩:=concL_get hargs hv
  exact⟨V,h1,by simpa using h2⟩
 have tget:∀ {i:Nat} {t:TypeId},tl[i]? =some t→ats[i]? =some t:=fun {i t} hv=>by rw[←htl] at hv;simpa using hv
 have all:∀ {k:Nat},args.length=k→ARGS.size=k:=fun {k} hk=>by have:=concL_length hargs;simp at this;omega
 unfold builtinK at h
 split at h<;>first|(cases h;done)|skip
 ·split at h<;>first|(cases h;done)|skip
  rename_i t ts x xs
  obtain⟨X,hX,a0⟩:=get (i:=0) (v:=x) rfl
  exact(lenB_ok (ts:=ats) (args:=ARGS) hg hr hX h (tget (i:=0) rfl) a0 ty).came hr
 ·split at h<;>first|(cases h;done)|skip
  rename_i t u ts s x xs
  obtain⟨S,hS,a0⟩:=get (i:=0) (v:=s) rfl
  obtain⟨X,hX,a1⟩:=get (i:=1) (v:=x) rfl
  have t0:=tget (i:=0) (t:=t) rfl
  have t1:=tget (i:=1) (t:=u) rfl
  split at h<;>first|(cases h;done)|skip
  ·exact(appendK_ok hg hr t0 t1 (.inl ⟨_,by assumption⟩) hS hX a0 a1 h).came
  ·exact(appendK_ok hg hr t0 t1 (.inr (by assumption)) hS hX a0 a1 h).came
 ·split at h<;>first|(cases h;done)|skip
  rename_i t ts d x xs
  obtain⟨S,hS,a0⟩:=get (i:=0) (v:=d) rfl
  obtain⟨X,hX,a1⟩:=get (i:=1) (v:=x) rfl
  exact(copyK_ok hg hr (tget (i:=0) rfl) hS hX a0 a1 h).came
 ·exact(extremeK_ok (mx:=true) (ts:=ats) (ty:=ty) hargs h).came hr
 ·exact(extremeK_ok (mx:=false) (ts:=ats) (ty:=ty) hargs h).came hr
 ·split at h<;>first|(cases h;done)|skip
  rename_i t ts x xs
  obtain⟨X,hX,a0⟩:=get (i:=0) (v:=x) rfl
  exact(capK_ok (args:=ARGS) hg (tget (i:=0) rfl) a0 hX h).came hr
 ·split at h<;>first|(cases h;done)|skip
  rename_i t ts bl key xs
  obtain⟨S,hS,a0⟩:=get (i:=0) (v:=.mp bl) rfl
  obtain⟨X,hX,a1⟩:=get (i:=1) (v:=key) rfl
  split at h<;>first|(cases h;done)|skip
  exact(deleteK_ok hg hflat hr (tget (i:=0) rfl) a0 a1 (by assumption) hS hX h).came
 ·split at h<;>first|(cases h;done)|skip
  rename_i x
  obtain⟨X,hX,a0⟩:=get (i:=0) (v:=x) rfl
  have:=all (k:=1) rfl
  have e:ARGS= #[X]:=by
   apply Array.ext_getElem?
   intro i
   cases i with
   |zero=>exact a0
   |succ i=>rw[Array.getElem?_eq_none (by omega),Array.getElem?_eq_none (by simp)]
  rw[e]
  exact(sliceDataK_ok (ts:=ats) (ty:=ty) hX h).came hr
 ·split at h<;>first|(cases h;done)|skip
  rename_i t ts p k
  obtain⟨X,hX,a0⟩:=get (i:=0) (v:=p) rfl
  obtain⟨Y,hY,a1⟩:=get (i:=1) (v:=k) rfl
  have:=all (k:=2) rfl
  have e:ARGS= #[X,Y]:=by
   apply Array.ext_getElem?
   intro i
   match i with
   |0=>exact a0
   |1=>exact a1
   |i+2=>rw[Array.getElem?_eq_none (by omega),Array.getElem?_eq_none (by simp)]
  rw[e]
  exact(unsafeStrK_ok hg hr (tget (i:=0) rfl) hX hY h).came
theorem callOp_ok (hg:GOk P g) (hflat:∀t,g.isFlat t=true→Flat P t) (hc:CallOk P call) (hF:Wide F) (hr:Rel P ι m w) {fr:Fr} {mask:Nat} (hf:FrRel P ι fr mask a.tmps) {c:Call} {args:List AV} {ty:TypeId}
  (hargs:concL ι args=some (c.args.toList.map a.eval)) (h:callOp call g c args fr m f=.ok):Came P F n o a Q ι m w f ((do let d←resolve a.eval c ty;invoke d.target d.args:Sem Next).run P w):=by
 obtain⟨callee,cargs,ats⟩:=c
 have hA:concL ι args=some (cargs.map a.eval).toList:=by simpa using hargs
 cases callee with
 |value x=>
  obtain⟨v,h1,h2⟩:=ev_ok hr hf (h:ev x fr (fun x=>resolveK x args fun t=>call t m f)=.ok)
  cases v<;>first|(cases h1;done)|skip
  exact resolveFn_ok hc hF hr h2 hA h1
 |invoke recv name=>
  obtain⟨v,h1,h2⟩:=ev_ok hr hf (h:ev recv fr (fun r=>methodK g r name args fun t=>call t m f)=.ok)
  unfold methodK at h1
  split at h1<;>first|(cases h1;done)|skip
  obtain⟨fid,h3,h4⟩:=optK_ok h1
  obtain⟨V,hV,e⟩:=conc_ifc h2
  rename_i t v
  have hm:=methodOf_ok (w:=w) (V:=V) hg h3
  have:=hc.came (n:=n) (o:=o) (a:=a) (Q:=Q) hF hr (show concL ι (v::args)=some (V::(cargs.map a.eval).toList) by simp only[concL,hV,hA];rfl) h4
  have e2:(V::(cargs.map a.eval).toList).toArray= #[V]++cargs.map a.eval:=by apply Array.ext';simp
  rw[e2] at this
  have e3:((do let d←resolve a.eval {callee:=.invoke recv name,args:=cargs,argTypes:=ats} ty;invoke d.target d.args:Sem Next).run P w)=(callFunc fid (#[V]++cargs.map a.eval)).run P w:=by
   have e4:(#[Value.iface t V]++cargs.map a.eval).extract 1 (#[Value.iface t V]++cargs.map a.eval).size=cargs.map a.eval:=by
    apply Array.ext';simp;exact List.take_of_length_le (by simp)
   have e5:(#[Value.iface t V]++cargs.map a.eval)[0]? =some (Value.iface t V):=by simp[Array.getElem?_append]
   simp only[resolve,Sem.run_bind,Sem.run_pure,Result.andThen_ok,invoke,e,e5,e4,callMethod]
   simp[hm]
  rw[e3];exact this
 |builtin b=>
  have h1:builtinK g b ats.toList args m f=.ok:=h
  exact builtinK_ok hg hflat hr rfl hA h1
theorem opK_ok (hg:GOk P g) (hflat:∀t,g.isFlat t=true→Flat P t) (hc:CallOk P call) (hF:Wide F) (hr:Rel P ι m w) {fr:Fr} {mask:Nat} (hf:FrRel P ι fr mask a.tmps)
  (h:opK o.op g call fr m f=.ok):Came P F n o a Q ι m w f ((execOp a.eval o).run P w):=by
 have evk:∀ {x:Operand} {k:AV→R},ev x fr k=.ok→∃v,k v=.ok∧conc ι v=some (a.eval x):=fun h=>ev_ok hr hf h
 cases hop:o.op<;>rw[hop] at h<;>first|(cases h;done)|simp only[execOp,hop]
 case move x=>
  obtain⟨v,h1,h2⟩:=evk (h:ev x fr (fun v=>f v m)=.ok)
  exact came_value hr h2 h1
 case assign x=>
  obtain⟨v,h1,h2⟩:=evk (h:ev x fr (fun v=>f v m)=.ok)
  exact came_value hr h2 h1
 case pick c x y=>
  obtain⟨v,h1,h2⟩:=evk (h:ev c fr (fun c=>asBoolK c fun c=>ev (iteB c x y) fr fun v=>f v m)=.ok)
  obtain⟨b,rfl,h3⟩:=asBoolK_ok h1
  obtain⟨u,h4,h5⟩:=evk h3
  have hb:=conc_bool h2
  have:=came_value (F:=F) (n:=n) (o:=o) (a:=a) (Q:=Q) hr h5 h4
  rw[hb]
  cases b<;>exact this
 case alloc e=>
  obtain⟨z,h1,h2⟩:=optK_ok (h:optK 0 (g.zero e) _=.ok)
  exact(alloc_ok hg hr h1 h2).came
 case box e x=>
  obtain⟨v,h1,h2⟩:=evk (h:ev x fr _=.ok)
  exact(box_ok hr h2 h1).came
 case build t ps=>exact(buildK_ok hg hr hf (f:=fun v=>f v m) h).came hr
 case buildSlice t k ps=>exact(buildSliceK_ok hg hr hf h).came
 case load t x=>
  obtain⟨v,h1,h2⟩:=evk (h:ev x fr _=.ok)
  obtain⟨s,h3,h4⟩:=optK_ok h1
  exact(loadK_ok hg hr h3 h2 h4).came hr
 case store t x y=>
  obtain⟨v,h1,h2⟩:=evk (h:ev x fr _=.ok)
  obtain⟨u,h3,h4⟩:=evk h1
  obtain⟨s,h5,h6⟩:=optK_ok h3
  obtain⟨w',m',k1,k2,k3⟩:=storeK_ok hg hr h5 h2 h4 h6
  exact came_unit k1 k2 k3
 case nilCheck x=>
  obtain⟨v,h1,h2⟩:=evk (h:ev x fr (fun v=>nilCheckK v fun v=>f v m)=.ok)
  obtain⟨h3,h4⟩:=nilCheckK_ok (P:=P) (w:=w) (o:=o) hop h2 h1
  have:=came_value (F:=F) (n:=n) (o:=o) (a:=a) (Q:=Q) hr h2 h3
  rw[←h4] at this
  simpa only[execOp,hop] using this
 case binOp op t x y u=>
  obtain⟨v,h1,h2⟩:=evk (h:ev x fr _=.ok)
  obtain⟨z,h3,h4⟩:=evk h1
  refine(binK_ok hg hflat hr x y (fun hl=>?_) h2 h4 h3).came hr
  unfold litNil at hl
  cases hx:isLit x
  ·rw[hx] at hl;exact .inr hl
  ·exact .inl rfl
 case unOp op t x=>
  obtain⟨v,h1,h2⟩:=evk (h:ev x fr _=.ok)
  exact(unK_ok h2 h1).came hr
 case convert s d x=>
  obtain⟨v,h1,h2⟩:=evk (h:ev x fr _=.ok)
  exact(convK_ok hg hr h2 h1).came
 case makeInterface t x=>
  obtain⟨v,h1,h2⟩:=evk (h:ev x fr _=.ok)
  obtain⟨h3,h4⟩:=ifB_ok h1
  rw[Sem.run_bind,ifaceOk_ok hg h3]
  exact came_value hr (by simp[conc,h2]) h4
 case makeFunc fn first cap=>
  obtain⟨h0,h⟩:=ifB_ok (h:ifB 0 (plainFn fn) _=.ok)
  obtain⟨vs,h1,h2⟩:=evs_ok hr hf (h:evs first.toList fr _=.ok)
  obtain⟨us,h3,h4⟩:=evs_ok hr hf h1
  have hfn:concFn ι fn=some fn:=by cases fn<;>first|rfl|cases h0
  refine came_value (V:=.func fn (first.map a.eval) (cap.map a.eval)) hr ?_ h3
  have e1:(first.toList.map a.eval).toArray=first.map a.eval:=by apply Array.ext';simp
  have e2:(cap.toList.map a.eval).toArray=cap.map a.eval:=by apply Array.ext';simp
  simp only[conc,hfn,h2,h4,Option.bind_some,Option.map_some,e1,e2]
 case makeMap t r=>exact(makeMapK_ok hg hr hf h).came
 case makeSlice t l c=>
  obtain⟨v,h1,h2⟩:=evk (h:ev l fr _=.ok)
  obtain⟨u,h3,h4⟩:=evk h1
  exact(makeSliceK_ok hg hr h2 h4 h3).came
 case slice t x lo hi mx=>
  obtain⟨h0,h1⟩:=ifB_ok (h:ifB 0 (Option.isNone mx) _=.ok)
  obtain⟨v,h2,h3⟩:=evk h1
  obtain⟨l,h4,h5⟩:=evo_ok hr hf h2
  obtain⟨k,h6,h7⟩:=evo_ok hr hf h4
  cases mx<;>first|(cases h0;done)|skip
  have o1:OptRel ι l (lo.map a.eval):=by
   cases l with
   |none=>simp only at h5;subst h5;rfl
   |some l=>simp only at h5;obtain⟨y,rfl,h8⟩:=h5;exact⟨_,rfl,h8⟩
  have o2:OptRel ι k (hi.map a.eval):=by
   cases k with
   |none=>simp only at h7;subst h7;rfl
   |some l=>simp only at h7;obtain⟨y,rfl,h8⟩:=h7;exact⟨_,rfl,h8⟩
  exact(sliceK_ok o1 o2 hg hr h3 h6).came
 case fieldAddr t x i=>
  obtain⟨v,h1,h2⟩:=evk (h:ev x fr _=.ok)
  exact(fieldAddrK_ok hg h2 h1).came hr
 case field t x i=>
  obtain⟨v,h1,h2⟩:=evk (h:ev x fr _=.ok)
  cases v<;>first|(cases h1;done)|skip
  obtain⟨fd,h3,h4⟩:=optK_ok h1
  exact(fieldK_ok (f:=fun v=>f v m) hg h2 h3 h4).came hr
 case indexAddr t x i=>
  obtain⟨v,h1,h2⟩:=evk (h:ev x fr _=.ok)
  obtain⟨u,h3,h4⟩:=evk h1
  exact(indexAddrK_ok hg h2 h4 h3).came hr
 case index t x i=>
  obtain⟨v,h1,h2⟩:=evk (h:ev x fr _=.ok)
  obtain⟨u,h3,h4⟩:=evk h1
  exact(indexK_ok hg h2 h4 h3).came hr
 case lookup t x i ok=>
  obtain⟨v,h1,h2⟩:=evk (h:ev x fr _=.ok)
  obtain⟨u,h3,h4⟩:=evk h1
  exact(lookupK_ok hg hflat hr h2 h4 h3).came hr
 case mapUpdate t x k v=>
  obtain⟨v1,h1,h2⟩:=evk (h:ev x fr _=.ok)
  obtain⟨v2,h3,h4⟩:=evk h1
  obtain⟨v3,h5,h6⟩:=evk h3
  obtain⟨w',m',k1,k2,k3⟩:=updateK_ok hg hflat hr h2 h4 h6 h5
  exact came_unit k1 k2 k3
 case insert t x k v=>
  obtain⟨v1,h1,h2⟩:=evk (h:ev x fr _=.ok)
  obtain⟨v2,h3,h4⟩:=evk h1
  obtain⟨v3,h5,h6⟩:=evk h3
  obtain⟨w',m',k1,k2,k3⟩:=updateK_ok hg hflat hr h2 h4 h6 h5
  exact came_unit k1 k2 k3
 case range t x=>
  obtain⟨v,h1,h2⟩:=evk (h:ev x fr _=.ok)
  obtain⟨h3,h4⟩:=ifB_ok h1
  exact(rangeK_ok hg hr h3 h2 h4).came
 case next it s=>
  obtain⟨v,h1,h2⟩:=evk (h:ev it fr _=.ok)
  exact(nextK_ok hr h2 h1).came
 case entry it=>
  obtain⟨v,h1,h2⟩:=evk (h:ev it fr _=.ok)
  exact(entryK_ok hr h2 h1).came
 case typeAssert x xt t ok=>
  obtain⟨v,h1,h2⟩:=evk (h:ev x fr _=.ok)
  exact(assertK_ok (f:=fun v=>f v m) hg h2 h1).came hr
 case extract x i=>
  obtain⟨v,h1,h2⟩:=evk (h:ev x fr _=.ok)
  cases v<;>first|(cases h1;done)|skip
  exact(extract_ok (f:=fun v=>f v m) h2 h1).came hr
 case call c=>
  obtain⟨vs,h1,h2⟩:=evs_ok hr hf (h:evs c.args.toList fr _=.ok)
  exact callOp_ok hg hflat hc hF hr hf h2 h1
end
end Go.AM
end
