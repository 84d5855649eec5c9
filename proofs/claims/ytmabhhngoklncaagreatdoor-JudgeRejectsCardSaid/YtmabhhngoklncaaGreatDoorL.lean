/- The order of formulas, in plain words: as for law 33. -/
import Derived.Test.YtmabhhngoklncaaGreatDoorK
import Derived.Shelf.SlSortCmp.NoneTotal
import Derived.Shelf.Small.Strs
import Derived.Shelf.Small.Wraps
set_option maxRecDepth 100000
set_option maxHeartbeats 40000000
set_option linter.all false
open Go.Lib renaming hid->rA,compareInt->rB,compareBytes->rE
open Go.Proofs.Tryz renaming prog->rC
open Go.World renaming cell?_alloc_some->rD
open Nat renaming zero_le->rF,lt_succ_self->rG,not_lt_zero->rH,le_refl->rI
open Go.Value renaming int->jI,slice->jS,pointer->jP,bool->jB,string->jT,agg->jG
open Go.IntKind renaming i64->kQ
open Go.Ending renaming returned->jR
open Go Go.RowKit Go.Sort Go.Shelf
namespace Go.Proofs.YtmabhhngoklncaaGreatDoor
variable {w:World}{x y:Fe}{f g r r':Fs}{a:Option Addr}{mb:Nat}{l:List Sg}
structure Ky where
 op:Int
 nm:ByteArray
 v:Int
 bd:Int
 n:Nat
def zC8 (a b:Ky):Int:=
 if a.op≠b.op then rB a.op b.op else if a.nm≠b.nm then rE a.nm.data.toList b.nm.data.toList else if a.v≠b.v then rB a.v b.v else if a.bd≠b.bd then rB a.bd b.bd else rB a.n b.n
theorem yI {x y:Int} (h:rB x y=0):x=y:=by
 unfold rB at h;split at h
 ·cases h
 ·split at h
  ·cases h
  ·omega
theorem yH (x:Int):rB x x=0:=by unfold rB;simp
theorem zAX:∀ {a b:List UInt8},rE a b=0->a=b
 |[],[],_=>rfl
 |[],_::_,h=>by cases h
 |_::_,[],h=>by cases h
 |a::l,b::m,h=>by
  unfold rE at h;split at h
  ·cases h
  ·split at h
   ·cases h
   ·rename_i h1 h2
    have:a=b:=by
     apply UInt8.toNat_inj.1;have h1:¬a.toNat<b.toNat:=fun e=>h1 (UInt8.lt_iff_toNat_lt.2 e)
     have h2:¬b.toNat<a.toNat:=fun e=>h2 (UInt8.lt_iff_toNat_lt.2 e)
     omega
    rw[this,zAX h]
theorem zOy {a b:Ky} (h:zC8 a b=0):a=b:=by
 obtain⟨o,n,v,d,k⟩:=a;obtain⟨o',n',v',d',k'⟩:=b;unfold zC8 at h;dsimp only at h;by_cases h0:o=o'
 ·by_cases h1:n=n'
  ·by_cases h2:v=v'
   ·by_cases h3:d=d'
    ·simp only[h0,h1,h2,h3,ne_eq,not_true_eq_false,if_false] at h
     have:=yI h;have:k=k':=by omega
     rw[h0,h1,h2,h3,this]
    ·simp only[h0,h1,h2,h3,ne_eq,not_true_eq_false,if_false,not_false_eq_true,if_true] at h
     exact absurd (yI h) h3
   ·simp only[h0,h1,h2,ne_eq,not_true_eq_false,if_false,not_false_eq_true,if_true] at h
    exact absurd (yI h) h2
  ·simp only[h0,h1,ne_eq,not_true_eq_false,if_false,not_false_eq_true,if_true] at h
   exact absurd (ByteArray.ext (Array.toList_inj.1 (zAX h))) h1
 ·simp only[h0,ne_eq,not_false_eq_true,if_true] at h
  exact absurd (yI h) h0
def xV:Fs->List Ky
 | .nil=>[]
 | .cons op nm v bd args rest=>⟨op,nm,v,bd,args.len⟩::(xV args++xV rest)
def zA7:List Ky->List Ky->Int
 |[],[]=>0
 |[],_::_=> -1
 |_::_,[]=>1
 |a::l,b::m=>if zC8 a b=0 then zA7 l m else zC8 a b
structure TC {α:Type} (c:α->α->Int):Prop where
 same:∀a,c a a=0
 eq:∀a b,c a b=0->a=b
 flip:∀a b,c a b<0->0<c b a
 flop:∀a b,0<c a b->c b a<0
 trans:∀a b d,c a b<0->c b d<0->c a d<0
theorem TC.comap {α β:Type} {c:β->β->Int} (h:TC c) (f:α->β) (hf:∀a b,f a=f b->a=b):TC (fun a b=>c (f a) (f b)):=
 ⟨fun _=>h.same _,fun _ _ e=>hf _ _ (h.eq _ _ e),fun _ _=>h.flip _ _,fun _ _=>h.flop _ _,fun _ _ _=>h.trans _ _ _⟩
theorem TC.prod {α β:Type} [DecidableEq α] {c:α->α->Int} {d:β->β->Int} (hc:TC c) (hd:TC d):TC (fun(x y:α×β)=>if x.1≠y.1 then c x.1 y.1 else d x.2 y.2):=by
 refine⟨fun a=>by simp[hd.same],fun a b e=>?_,fun a b e=>?_,fun a b e=>?_,fun a b t e1 e2=>?_⟩
 ·by_cases h:a.1=b.1
  ·simp only[h,ne_eq,not_true_eq_false,if_false] at e
   exact Prod.ext h (hd.eq _ _ e)
  ·simp only[ne_eq,h,not_false_eq_true,if_true] at e
   exact absurd (hc.eq _ _ e) h
 ·by_cases h:a.1=b.1
  ·simp only[h,ne_eq,not_true_eq_false,if_false] at e ⊢
   exact hd.flip _ _ e
  ·rw[if_pos h] at e
   rw[if_pos (fun e:b.1=a.1=>h e.symm)];exact hc.flip _ _ e
 ·by_cases h:a.1=b.1
  ·simp only[h,ne_eq,not_true_eq_false,if_false] at e ⊢
   exact hd.flop _ _ e
  ·rw[if_pos h] at e
   rw[if_pos (fun e:b.1=a.1=>h e.symm)];exact hc.flop _ _ e
 ·by_cases h:a.1=b.1
  ·by_cases h':b.1=t.1
   ·simp only[h,h',ne_eq,not_true_eq_false,if_false] at e1 e2 ⊢
    exact hd.trans _ _ _ e1 e2
   ·simp only[h,h',ne_eq,not_true_eq_false,if_false,not_false_eq_true,if_true] at e1 e2 ⊢
    exact e2
  ·by_cases h':b.1=t.1
   ·rw[if_pos h] at e1
    rw[<-h',if_pos h];exact e1
   ·simp only[h,h',ne_eq,not_false_eq_true,if_true] at e1 e2
    have ht:=hc.trans _ _ _ e1 e2;by_cases h3:a.1=t.1
    ·rw[h3,hc.same] at ht;omega
    ·simp only[h3,ne_eq,not_false_eq_true,if_true]
     exact ht
theorem TC.list {α:Type} {c:α->α->Int} (hc:TC c) {l:List α->List α->Int} (h0:l [] []=0) (h1:∀b m,l [] (b::m)= -1) (h2:∀a k,l (a::k) []=1) (h3:∀a k b m,l (a::k) (b::m)=if c a b=0 then l k m else c a b):TC l:=by
 refine⟨fun a=>?_,fun a=>?_,fun a=>?_,fun a=>?_,fun a=>?_⟩
 ·induction a with
  |nil=>exact h0
  |cons a k ih=>rw[h3,if_pos (hc.same a),ih]
 ·induction a with
  |nil=>intro b e;cases b with
   |nil=>rfl
   |cons b m=>rw[h1] at e;omega
  |cons a k ih=>intro b e;cases b with
   |nil=>rw[h2] at e;omega
   |cons b m=>
    rw[h3] at e;by_cases h:c a b=0
    ·rw[if_pos h] at e
     rw[hc.eq _ _ h,ih _ e]
    ·rw[if_neg h] at e;exact absurd e h
 ·induction a with
  |nil=>intro b e;cases b with
   |nil=>rw[h0] at e;omega
   |cons b m=>rw[h2];omega
  |cons a k ih=>intro b e;cases b with
   |nil=>rw[h2] at e;omega
   |cons b m=>
    rw[h3] at e ⊢;by_cases h:c a b=0
    ·rw[if_pos h] at e
     rw[if_pos (by rw[hc.eq _ _ h];exact hc.same _)];exact ih _ e
    ·rw[if_neg h] at e
     have:=hc.flip _ _ e;rw[if_neg (by omega)];exact this
 ·induction a with
  |nil=>intro b e;cases b with
   |nil=>rw[h0] at e;omega
   |cons b m=>rw[h1] at e;omega
  |cons a k ih=>intro b e;cases b with
   |nil=>rw[h1];omega
   |cons b m=>
    rw[h3] at e ⊢;by_cases h:c a b=0
    ·rw[if_pos h] at e
     rw[if_pos (by rw[hc.eq _ _ h];exact hc.same _)];exact ih _ e
    ·rw[if_neg h] at e
     have:=hc.flop _ _ e;rw[if_neg (by omega)];exact this
 ·induction a with
  |nil=>intro b d e1 e2;cases b with
   |nil=>rw[h0] at e1;omega
   |cons b m=>cases d with
    |nil=>rw[h2] at e2;omega
    |cons d n=>rw[h1];omega
  |cons a k ih=>intro b d e1 e2;cases b with
   |nil=>rw[h2] at e1;omega
   |cons b m=>cases d with
    |nil=>rw[h2] at e2;omega
    |cons d n=>
     rw[h3] at e1 e2 ⊢;by_cases h:c a b=0
     ·rw[if_pos h] at e1
      have:=hc.eq _ _ h;subst this;by_cases h':c a d=0
      ·rw[if_pos h'] at e2 ⊢
       exact ih _ _ e1 e2
      ·rw[if_neg h'] at e2 ⊢
       exact e2
     ·rw[if_neg h] at e1
      by_cases h':c b d=0
      ·have:=hc.eq _ _ h'
       subst this;rw[if_neg h];exact e1
      ·rw[if_neg h'] at e2
       have:=hc.trans _ _ _ e1 e2;rw[if_neg (by omega)];exact this
theorem y7:TC rB:=by
 refine⟨yH,fun a b=>yI,fun a b=>?_,fun a b=>?_,fun a b d=>?_⟩<;>unfold rB<;>repeat' split<;>omega
theorem zKQ:TC (fun a b:UInt8=>if a<b then(-1:Int) else if b<a then 1 else 0):=by
 refine⟨fun a=>by simp[UInt8.lt_irrefl],fun a b=>?_,fun a b=>?_,fun a b=>?_,fun a b d=>?_⟩<;>simp only[UInt8.lt_iff_toNat_lt]
 ·intro h
  apply UInt8.toNat_inj.1;split at h
  ·omega
  ·split at h<;>omega
 all_goals repeat' split
 all_goals omega
theorem v8:TC rE:=zKQ.list rfl (fun _ _=>rfl) (fun _ _=>rfl) (fun a k b m=>by
 simp only[rE];by_cases h1:a<b
 ·simp[h1]
 ·by_cases h2:b<a<;>simp[h1,h2])
theorem zOu:TC zC8:=by
 have hb:TC (fun a b:ByteArray=>rE a.data.toList b.data.toList):=v8.comap (fun x:ByteArray=>x.data.toList) fun a b h=>ByteArray.ext (Array.toList_inj.1 h)
 have hn:TC (fun a b:Nat=>rB a b):=y7.comap (fun x:Nat=>(x:Int)) fun a b h=>by omega
 have h:=(y7.prod (hb.prod (y7.prod (y7.prod hn)))).comap (fun k:Ky=>(k.op,k.nm,k.v,k.bd,k.n)) (fun a b h=>by cases a;cases b;simp_all);exact h
theorem zFb:TC zA7:=zOu.list rfl (fun _ _=>rfl) (fun _ _=>rfl) (fun _ _ _ _=>rfl)
theorem zFu:∀ {f g:Fs} {x y:List Ky},f.len=g.len->xV f++x=xV g++y->f=g/\x=y
 | .nil,.nil,_,_,_,h=>⟨rfl,by simpa[xV] using h⟩
 | .nil,.cons ..,_,_,h,_=>by simp[Fs.len] at h
 | .cons ..,.nil,_,_,h,_=>by simp[Fs.len] at h
 | .cons op nm v bd a r,.cons op' nm' v' bd' a' r',x,y,hl,h=>by
  simp only[xV,List.cons_append,List.append_assoc,List.cons.injEq,Ky.mk.injEq] at h;obtain⟨⟨rfl,rfl,rfl,rfl,h4⟩,h⟩:=h;obtain⟨ha,h⟩:=zFu h4 h;obtain⟨hr,h⟩:=zFu (by simpa[Fs.len] using hl) h;exact⟨by rw[ha,hr],h⟩
theorem zH2 (hl:f.len=g.len) (h:xV f=xV g):f=g:=(zFu (x:=[]) (y:=[]) hl (by simpa using h)).1
def zEv (f g:Fs):Int:=zA7 (xV f) (xV g)
theorem zOv {α:Type} (t:α->Fs):Sort.SWO (ltOf fun x y=>zEv (t x) (t y)):=by
 have H:=zFb;have hl:∀x y,ltOf (fun x y=>zEv (t x) (t y)) x y=true↔zA7 (xV (t x)) (xV (t y))<0:=fun x y=>decide_eq_true_iff
 have hn:∀x y,ltOf (fun x y=>zEv (t x) (t y)) x y=false↔0<=zA7 (xV (t x)) (xV (t y)):=fun x y=>decide_eq_false_iff_not.trans Int.not_lt
 refine⟨fun x=>(hn _ _).2 (by rw[H.same];exact Int.le_refl _),fun x y z h1 h2=>(hl _ _).2 (H.trans _ _ _ ((hl _ _).1 h1) ((hl _ _).1 h2)),fun x y z h1 h2=>(hn _ _).2 ?_⟩;have h1:=(hn _ _).1 h1;have h2:=(hn _ _).1 h2;by_cases e1:zA7 (xV (t x)) (xV (t y))=0
 ·rw[H.eq _ _ e1];exact h2
 ·by_cases e2:zA7 (xV (t y)) (xV (t z))=0
  ·rw[<-H.eq _ _ e2];exact h1
  ·have f1:=H.flop _ _ (show 0<zA7 (xV (t x)) (xV (t y)) by omega)
   have f2:=H.flop _ _ (show 0<zA7 (xV (t y)) (xV (t z)) by omega);have:=H.flip _ _ (H.trans _ _ _ f2 f1);omega
theorem zDu:∀(f g:Fs) (X Y:List Ky),f.len=g.len->zA7 (xV f++X) (xV g++Y)=if zA7 (xV f) (xV g)=0 then zA7 X Y else zA7 (xV f) (xV g)
 | .nil,.nil,X,Y,_=>by simp[xV,zA7]
 | .nil,.cons ..,_,_,h=>by simp[Fs.len] at h
 | .cons ..,.nil,_,_,h=>by simp[Fs.len] at h
 | .cons op nm v bd a r,.cons op' nm' v' bd' a' r',X,Y,h=>by
  simp only[xV,List.cons_append,List.append_assoc,zA7];by_cases hk:zC8 ⟨op,nm,v,bd,a.len⟩ ⟨op',nm',v',bd',a'.len⟩=0
  ·have hl:a.len=a'.len:=by have:=zOy hk;simp only[Ky.mk.injEq] at this;exact this.2.2.2.2
   have hr:r.len=r'.len:=by simpa[Fs.len] using h
   simp only[hk,if_true];rw[zDu a a' (xV r++X) (xV r'++Y) hl,zDu a a' (xV r) (xV r') hl];by_cases h1:zA7 (xV a) (xV a')=0
   ·simp only[h1,if_true]
    exact zDu r r' X Y hr
   ·simp only[h1,if_false]
  ·simp only[hk,if_false]
def Fe.tree (x:Fe):Fs:=.cons x.op x.nm x.v x.bd x.args .nil
def Fe.ky (x:Fe):Ky:=⟨x.op,x.nm,x.v,x.bd,x.args.len⟩
def zAY (x y:Fe):Int:=zEv x.tree y.tree
theorem zPE (x y:Fe):zAY x y=if zC8 x.ky y.ky=0 then zEv x.args y.args else zC8 x.ky y.ky:=by
 simp only[zAY,zEv,Fe.tree,xV,zA7,List.append_nil];rfl
theorem zM5 {op v bd op' v' bd':Int}{nm nm':ByteArray}{a a':Fs} (hx:x.tree=.cons op nm v bd a .nil) (hy:y.tree=.cons op' nm' v' bd' a' .nil):zEv (.cons op nm v bd a r) (.cons op' nm' v' bd' a' r')=if zAY x y=0 then zEv r r' else zAY x y:=by
 have h:=zDu (.cons op nm v bd a .nil) (.cons op' nm' v' bd' a' .nil) (xV r) (xV r') rfl;rw[<-hx,<-hy] at h;show zA7 _ _=if zA7 (xV x.tree) (xV y.tree)=0 then zA7 (xV r) (xV r') else zA7 (xV x.tree) (xV y.tree)
 rw[<-h,hx,hy];simp[xV]
theorem zPm (h:zAY x y=0):x.tree=y.tree:=zH2 rfl (zFb.eq _ _ h)
theorem zND (h:x.tree=y.tree):zAY x y=0:=by
 unfold zAY;rw[h];exact zFb.same _
end Go.Proofs.YtmabhhngoklncaaGreatDoor
namespace Go.Proofs
def Tryz.sortF_ren:Go.Shelf.Ren:=⟨fun|6=>270|15=>185|14=>291|28=>228|29=>229|20=>301|21=>302|22=>303|23=>304|24=>305|25=>306|26=>307|27=>308|46=>320|47=>266|48=>267|49=>321|50=>322|57=>334|n=>n,fun|22=>31|24=>33|25=>91|3=>3|39=>257|0=>0|53=>284|55=>301|4=>4|46=>294|45=>293|50=>187|5=>5|9=>9|66=>334|70=>132|76=>358|77=>106|n=>n,fun|n=>n⟩
theorem Tryz.sortF:Go.Proofs.SlLaysF0.n6 rC Tryz.sortF_ren:= {
 mixed:=by kernel_rfl
 f6:=⟨Tryz.f270.name,by decide,Tryz.func270.trans (congrArg some (by kernel_rfl))⟩
 f14:=⟨Tryz.f291.name,by decide,Tryz.func291.trans (congrArg some (by kernel_rfl))⟩
 f15:=Tryz.func185.trans (congrArg some (by kernel_rfl))
 f20:=⟨Tryz.f301.name,by decide,Tryz.func301.trans (congrArg some (by kernel_rfl))⟩
 f21:=⟨Tryz.f302.name,by decide,Tryz.func302.trans (congrArg some (by kernel_rfl))⟩
 f22:=⟨Tryz.f303.name,by decide,Tryz.func303.trans (congrArg some (by kernel_rfl))⟩
 f23:=⟨Tryz.f304.name,by decide,Tryz.func304.trans (congrArg some (by kernel_rfl))⟩
 f24:=⟨Tryz.f305.name,by decide,Tryz.func305.trans (congrArg some (by kernel_rfl))⟩
 f25:=⟨Tryz.f306.name,by decide,Tryz.func306.trans (congrArg some (by kernel_rfl))⟩
 f26:=⟨Tryz.f307.name,by decide,Tryz.func307.trans (congrArg some (by kernel_rfl))⟩
 f27:=⟨Tryz.f308.name,by decide,Tryz.func308.trans (congrArg some (by kernel_rfl))⟩
 f28:=Tryz.func228.trans (congrArg some (by kernel_rfl))
 f29:=Tryz.func229.trans (congrArg some (by kernel_rfl))
 f46:=⟨Tryz.f320.name,by decide,Tryz.func320.trans (congrArg some (by kernel_rfl))⟩
 f47:=Tryz.func266.trans (congrArg some (by kernel_rfl))
 f48:=Tryz.func267.trans (congrArg some (by kernel_rfl))
 f49:=⟨Tryz.f321.name,by decide,Tryz.func321.trans (congrArg some (by kernel_rfl))⟩
 f50:=⟨Tryz.f322.name,by decide,Tryz.func322.trans (congrArg some (by kernel_rfl))⟩
 f57:=⟨Tryz.f334.name,by decide,Tryz.func334.trans (congrArg some (by kernel_rfl))⟩
 t0:=Tryz.underlying0
 a0:=Tryz.isAgg0
 z0:=Tryz.sizeOf0
 v0:=Tryz.zeroValue0
 t3:=Tryz.underlying3
 a3:=Tryz.isAgg3
 z3:=Tryz.sizeOf3
 v3:=Tryz.zeroValue3
 t4:=Tryz.underlying4
 a4:=Tryz.isAgg4
 z4:=Tryz.sizeOf4
 v4:=Tryz.zeroValue4
 t5:=Tryz.underlying5
 a5:=Tryz.isAgg5
 z5:=Tryz.sizeOf5
 v5:=Tryz.zeroValue5
 t9:=Tryz.underlying9
 a9:=Tryz.isAgg9
 z9:=Tryz.sizeOf9
 v9:=Tryz.zeroValue9
 t22:=Tryz.underlying31
 a22:=Tryz.isAgg31
 z22:=Tryz.sizeOf31
 v22:=Tryz.zeroValue31
 t25:=Tryz.underlying91
 a25:=Tryz.isAgg91
 z25:=Tryz.sizeOf91
 v25:=Tryz.zeroValue91
 t39:=Tryz.underlying257
 a39:=Tryz.isAgg257
 z39:=Tryz.sizeOf257
 v39:=Tryz.zeroValue257
 t45:=Tryz.underlying293
 a45:=Tryz.isAgg293
 z45:=Tryz.sizeOf293
 v45:=Tryz.zeroValue293
 t46:=Tryz.underlying294
 a46:=Tryz.isAgg294
 z46:=Tryz.sizeOf294
 v46:=Tryz.zeroValue294
 t50:=Tryz.underlying187
 a50:=Tryz.isAgg187
 z50:=Tryz.sizeOf187
 v50:=Tryz.zeroValue187
 t53:=Tryz.underlying284
 a53:=Tryz.isAgg284
 z53:=Tryz.sizeOf284
 v53:=Tryz.zeroValue284
 t55:=Tryz.underlying301
 a55:=Tryz.isAgg301
 z55:=Tryz.sizeOf301
 v55:=Tryz.zeroValue301
 t66:=Tryz.underlying334
 a66:=Tryz.isAgg334
 z66:=Tryz.sizeOf334
 v66:=Tryz.zeroValue334
 t70:=Tryz.underlying132
 a70:=Tryz.isAgg132
 z70:=Tryz.sizeOf132
 v70:=Tryz.zeroValue132
 t76:=Tryz.underlying358
 a76:=Tryz.isAgg358
 z76:=Tryz.sizeOf358
 v76:=Tryz.zeroValue358
 t77:=Tryz.underlying106
 a77:=Tryz.isAgg106
 z77:=Tryz.sizeOf106
 v77:=Tryz.zeroValue106}
def Tryz.sortJ_ren:Go.Shelf.Ren:=⟨fun|6=>399|15=>185|14=>409|28=>228|29=>229|20=>415|21=>416|22=>417|23=>418|24=>419|25=>420|26=>421|27=>422|46=>423|47=>266|48=>267|49=>424|50=>425|57=>426|n=>n,fun|22=>440|24=>445|25=>460|3=>3|39=>257|0=>0|53=>284|55=>301|4=>4|46=>294|45=>293|50=>187|5=>5|9=>9|66=>334|70=>132|76=>358|77=>106|n=>n,fun|n=>n⟩
theorem Tryz.sortJ:Go.Proofs.SlLaysF0.n6 rC Tryz.sortJ_ren:= {
 mixed:=by kernel_rfl
 f6:=⟨Tryz.f399.name,by decide,Tryz.func399.trans (congrArg some (by kernel_rfl))⟩
 f14:=⟨Tryz.f409.name,by decide,Tryz.func409.trans (congrArg some (by kernel_rfl))⟩
 f15:=Tryz.func185.trans (congrArg some (by kernel_rfl))
 f20:=⟨Tryz.f415.name,by decide,Tryz.func415.trans (congrArg some (by kernel_rfl))⟩
 f21:=⟨Tryz.f416.name,by decide,Tryz.func416.trans (congrArg some (by kernel_rfl))⟩
 f22:=⟨Tryz.f417.name,by decide,Tryz.func417.trans (congrArg some (by kernel_rfl))⟩
 f23:=⟨Tryz.f418.name,by decide,Tryz.func418.trans (congrArg some (by kernel_rfl))⟩
 f24:=⟨Tryz.f419.name,by decide,Tryz.func419.trans (congrArg some (by kernel_rfl))⟩
 f25:=⟨Tryz.f420.name,by decide,Tryz.func420.trans (congrArg some (by kernel_rfl))⟩
 f26:=⟨Tryz.f421.name,by decide,Tryz.func421.trans (congrArg some (by kernel_rfl))⟩
 f27:=⟨Tryz.f422.name,by decide,Tryz.func422.trans (congrArg some (by kernel_rfl))⟩
 f28:=Tryz.func228.trans (congrArg some (by kernel_rfl))
 f29:=Tryz.func229.trans (congrArg some (by kernel_rfl))
 f46:=⟨Tryz.f423.name,by decide,Tryz.func423.trans (congrArg some (by kernel_rfl))⟩
 f47:=Tryz.func266.trans (congrArg some (by kernel_rfl))
 f48:=Tryz.func267.trans (congrArg some (by kernel_rfl))
 f49:=⟨Tryz.f424.name,by decide,Tryz.func424.trans (congrArg some (by kernel_rfl))⟩
 f50:=⟨Tryz.f425.name,by decide,Tryz.func425.trans (congrArg some (by kernel_rfl))⟩
 f57:=⟨Tryz.f426.name,by decide,Tryz.func426.trans (congrArg some (by kernel_rfl))⟩
 t0:=Tryz.underlying0
 a0:=Tryz.isAgg0
 z0:=Tryz.sizeOf0
 v0:=Tryz.zeroValue0
 t3:=Tryz.underlying3
 a3:=Tryz.isAgg3
 z3:=Tryz.sizeOf3
 v3:=Tryz.zeroValue3
 t4:=Tryz.underlying4
 a4:=Tryz.isAgg4
 z4:=Tryz.sizeOf4
 v4:=Tryz.zeroValue4
 t5:=Tryz.underlying5
 a5:=Tryz.isAgg5
 z5:=Tryz.sizeOf5
 v5:=Tryz.zeroValue5
 t9:=Tryz.underlying9
 a9:=Tryz.isAgg9
 z9:=Tryz.sizeOf9
 v9:=Tryz.zeroValue9
 t22:=Tryz.underlying440
 a22:=Tryz.isAgg440
 z22:=Tryz.sizeOf440
 v22:=Tryz.zeroValue440
 t25:=Tryz.underlying460
 a25:=Tryz.isAgg460
 z25:=Tryz.sizeOf460
 v25:=Tryz.zeroValue460
 t39:=Tryz.underlying257
 a39:=Tryz.isAgg257
 z39:=Tryz.sizeOf257
 v39:=Tryz.zeroValue257
 t45:=Tryz.underlying293
 a45:=Tryz.isAgg293
 z45:=Tryz.sizeOf293
 v45:=Tryz.zeroValue293
 t46:=Tryz.underlying294
 a46:=Tryz.isAgg294
 z46:=Tryz.sizeOf294
 v46:=Tryz.zeroValue294
 t50:=Tryz.underlying187
 a50:=Tryz.isAgg187
 z50:=Tryz.sizeOf187
 v50:=Tryz.zeroValue187
 t53:=Tryz.underlying284
 a53:=Tryz.isAgg284
 z53:=Tryz.sizeOf284
 v53:=Tryz.zeroValue284
 t55:=Tryz.underlying301
 a55:=Tryz.isAgg301
 z55:=Tryz.sizeOf301
 v55:=Tryz.zeroValue301
 t66:=Tryz.underlying334
 a66:=Tryz.isAgg334
 z66:=Tryz.sizeOf334
 v66:=Tryz.zeroValue334
 t70:=Tryz.underlying132
 a70:=Tryz.isAgg132
 z70:=Tryz.sizeOf132
 v70:=Tryz.zeroValue132
 t76:=Tryz.underlying358
 a76:=Tryz.isAgg358
 z76:=Tryz.sizeOf358
 v76:=Tryz.zeroValue358
 t77:=Tryz.underlying106
 a77:=Tryz.isAgg106
 z77:=Tryz.sizeOf106
 v77:=Tryz.zeroValue106}
end Go.Proofs
namespace Go.Proofs
def Tryz.lays215_ren:Go.Shelf.Ren:=⟨fun|215=>186|n=>n,fun|3=>3|4=>4|n=>n,fun|n=>n⟩
def Tryz.lays122_ren:Go.Shelf.Ren:=⟨fun|122=>128|215=>186|n=>n,fun|3=>3|4=>4|n=>n,fun|n=>n⟩
theorem Tryz.lays122:Go.Proofs.Lays.n122 rC Tryz.lays122_ren:= {
 mixed:=by kernel_rfl
 f122:=Tryz.func128.trans (congrArg some (by kernel_rfl))
 f215:=Tryz.func186.trans (congrArg some (by kernel_rfl))
 t3:=Tryz.underlying3
 a3:=Tryz.isAgg3
 z3:=Tryz.sizeOf3
 v3:=Tryz.zeroValue3
 t4:=Tryz.underlying4
 a4:=Tryz.isAgg4
 z4:=Tryz.sizeOf4
 v4:=Tryz.zeroValue4}
open Go.RowKit in
theorem Tryz.cmp_Compare_int (x y:Int) (w:World):
  Calls rC 128 #[jI kQ x,jI kQ y] w fun e w'=>e=jR (jI kQ (rB x y))/\w'=w:=Any.cmp_Compare_int Tryz.lays122 x y w
end Go.Proofs
namespace Go.Proofs.YtmabhhngoklncaaGreatDoor
open Go.RowKit
theorem zNZ (x:ByteArray) (w:World):Calls rC 411 #[jT x] w fun e w'=>e=jR (jB false)/\w'=w:=by
 go_enter Tryz.func411,Tryz.ntmps411;go_wp2_with fail;go_ret;exact⟨rfl,rfl⟩
theorem zBH:∀a b:List UInt8,rE a b=if Op.bytesLess a b then -1 else if a==b then 0 else 1
 |[],[]=>rfl
 |[],_::_=>rfl
 |_::_,[]=>by simp[rE,Op.bytesLess]
 |a::l,b::m=>by
  have ih:=zBH l m;simp only[rE,Op.bytesLess];by_cases h1:a<b
  ·simp[h1]
  ·by_cases h2:b<a
   ·have hne:a≠b:=fun e=>by subst e;exact UInt8.lt_irrefl _ h2
    simp[h1,h2,hne]
   ·have he:a=b:=by
     apply UInt8.toNat_inj.1;have h1:¬a.toNat<b.toNat:=fun e=>h1 (UInt8.lt_iff_toNat_lt.2 e)
     have h2:¬b.toNat<a.toNat:=fun e=>h2 (UInt8.lt_iff_toNat_lt.2 e)
     omega
    subst he;simp[UInt8.lt_irrefl,ih]
theorem zPc (x y:ByteArray) (w:World):Calls rC 405 #[jT x,jT y] w fun e w'=>e=jR (jI kQ (rE x.data.toList y.data.toList))/\w'=w:=by
 have q:=zNZ;go_enter Tryz.func405,Tryz.ntmps405;go_wp2_with (first|(go_at_call 411;refine(q _ _).mono ?_;rintro e w' ⟨rfl,rfl⟩));all_goals go_ret
 all_goals refine⟨?_,rfl⟩
 all_goals rw[zBH,<-ByteArray.toList_eq,<-ByteArray.toList_eq]
 all_goals simp_all
def orF:List Int->Int
 |[]=>0
 |x::r=>if x=0 then orF r else x
theorem zOR {L:List Int} {k:Nat} (h:k<L.length):orF (L.drop k)=if L.getD k 0=0 then orF (L.drop (k+1)) else L.getD k 0:=by
 rw[List.drop_eq_getElem_cons h,orF];simp[h]
theorem zMN {a:Option Addr} {c:Nat} {L:List Int} {w:World} (h:Nums w (jS a L.length c) L) (hl:L.length<=9223372036854775807):Calls rC 127 #[jS a L.length c] w fun e w'=>e=jR (jI kQ (orF L))/\w'=w:=by
 have HN:=rA h;clear h;go_enter Tryz.func127,Tryz.ntmps127;go_wp2_with fail;go_loopw [8] (fun i wr=>∃k:Nat,k<=L.length/\i=jI kQ k/\wr=w/\Hid (orF L=orF (L.drop k))) (fun i _=>L.length - (intOf i).toNat)
 case atStart=>exact⟨0,rF _,rfl,rfl,rA rfl⟩
 case round=>
  obtain⟨k,hk,rfl,hwr,HO⟩:=hrel;rw[hwr];clear hwr;by_cases hlt:k<L.length
  ·have hd:=dT hlt
   obtain⟨b,o,rfl,c0⟩:=HN.out.at (j:=k) hlt;have hkl:(k:Int)<(L.length:Int):=by omega
   have HO2:=rA (HO.out.trans (zOR hlt));generalize L.getD k 0=x at*;by_cases hx:x=0
   ·subst hx
    go_wp2_with fail;go_roundw
    case rel=>exact⟨k+1,by omega,by go_num,trivial,rA (by rw[HO2.out,if_pos rfl])⟩
    case measure=>simp[intOf];omega
   ·have hne:(x==0)=false:=by simpa using hx
    have HO3:=rA (HO2.out.trans (if_neg hx));go_wp2_with fail;go_ret;exact⟨by rw[HO3.out];rfl,rfl⟩
  ·have hd:=dF hlt
   have HO3:Hid (orF L=0):=rA (by rw[HO.out,List.drop_of_length_le (by omega)];rfl);go_wp2_with fail;go_ret;exact⟨by rw[HO3.out];rfl,rfl⟩
end Go.Proofs.YtmabhhngoklncaaGreatDoor
namespace Go.Proofs.YtmabhhngoklncaaGreatDoor
variable {w:World}{x y:Fe}{f g r r':Fs}{a:Option Addr}{mb:Nat}{l:List Sg}
theorem FArgs.elem (h:FArgs w a f){k:Nat} (hk:k<f.len):∃(b o:Nat) (x:Fe),a=some ⟨b,o,none⟩/\b<w.heap.size/\f.drop k=.cons x.op x.nm x.v x.bd x.args (f.drop (k+1))/\x.ok w/\x.args.nodes<f.nodes/\
  w.cell? ⟨b,o+k*5,none⟩=some (jI kQ x.op)/\w.cell? ⟨b,o+k*5+1,none⟩=some (jT x.nm)/\w.cell? ⟨b,o+k*5+2,none⟩=some (jI kQ x.v)/\w.cell? ⟨b,o+k*5+3,none⟩=some (jI kQ x.bd)/\w.cell? ⟨b,o+k*5+4,none⟩=some (jS x.a x.args.len x.c):=by
 obtain⟨b,o,e,hb,hat⟩:=h (by omega);obtain⟨op,nm,v,bd,a',hd⟩:=Fs.drop_cons f k hk;have hat:=hat.drop k;rw[hd] at hat;obtain⟨c0,c1,c2,c3,c4,c5,⟨aa,cc,c6,c7,c8⟩,c9⟩:=hat;have hn:=Fs.drop_nodes f k;rw[hd] at hn;simp only[Fs.nodes] at hn;exact⟨b,o,⟨op,nm,v,bd,a',aa,cc⟩,e,hb,hd,⟨c8,c2,c5,c7⟩,by show a'.nodes<_;omega,c0,c1,c3,c4,c6⟩
theorem Fe.ok_keep {w':World} (h:x.ok w) (hB:Below w.heap.size w w'):x.ok w':=⟨h.1.keep hB,h.2⟩
def Gr (w w':World):Prop:=Below w.heap.size w w'/\w.drawn<=w'.drawn
theorem Gr.refl (w:World):Gr w w:=⟨Below.refl _ _,rI _⟩
theorem Gr.trans {w w' w'':World} (h:Gr w w') (k:Gr w' w''):Gr w w'':=⟨h.1.trans (k.1.mono h.1.size),Nat.le_trans h.2 k.2⟩
theorem Gr.alloc (w:World) (o:Obj):Gr w (w.alloc o):=⟨(Below.refl _ _).alloc (rI _) _,rI _⟩
theorem Gr.drawn (w:World) (n:Nat):Gr w (w.drewN n):=⟨yM (Below.refl _ _) n,Nat.le_add_right _ _⟩
def zDO (w:World) (c:Int) (e:Ending) (w':World):Prop:=e=jR (jI kQ c)/\Gr w w'
def zOd (n:Nat):Prop:=∀(x y:Fe) (w:World),x.args.nodes<n->x.ok w->y.ok w->Calls rC 393 #[jG x.enc.toArray,jG y.enc.toArray] w (zDO w (zAY x y))
def cfF:Fs->Fs->Int
 | .nil,.nil=>0
 | .nil,.cons ..=> -1
 | .cons ..,.nil=>1
 | .cons op nm v bd a r,.cons op' nm' v' bd' a' r'=>if zEv (.cons op nm v bd a .nil) (.cons op' nm' v' bd' a' .nil)=0 then cfF r r' else zEv (.cons op nm v bd a .nil) (.cons op' nm' v' bd' a' .nil)
theorem zNx:∀ {f g:Fs},f.len=g.len->cfF f g=zEv f g
 | .nil,.nil,_=>rfl
 | .nil,.cons ..,h=>by simp[Fs.len] at h
 | .cons ..,.nil,h=>by simp[Fs.len] at h
 | .cons op nm v bd a r,.cons op' nm' v' bd' a' r',h=>by
  have e:=zM5 (r:=r) (r':=r') (x:=⟨op,nm,v,bd,a,none,0⟩) (y:=⟨op',nm',v',bd',a',none,0⟩) rfl rfl;rw[e,cfF,zNx (f:=r) (by simpa[Fs.len] using h)];rfl
theorem zOI (hf:f=.cons x.op x.nm x.v x.bd x.args r) (hg:g=.cons y.op y.nm y.v y.bd y.args r'):cfF f g=if zAY x y=0 then cfF r r' else zAY x y:=by
 subst hf hg;rfl
theorem zCf {n:Nat} (IH:zOd n){a1 a2:Option Addr}{c1 c2:Nat}{l1 l2:Fs} (hn:l1.nodes<=n) (h1:FArgs w a1 l1) (h2:FArgs w a2 l2) (L1:l1.len<=9223372036854775807) (L2:l2.len<=9223372036854775807):
  Calls rC 406 #[jS a1 l1.len c1,jS a2 l2.len c2,.func (.func 393) #[] #[]] w (zDO w (cfF l1 l2)):=by
 have HI:=rA IH;have H1:=rA h1;have H2:=rA h2;clear IH h1 h2;go_enter Tryz.func406,Tryz.ntmps406;go_wp2_with fail;go_loopw [13] (fun i wr=>∃k:Nat,k<=l1.len/\i=jI kQ k/\Hid (Gr w wr/\cfF l1 l2=cfF (l1.drop k) (l2.drop k))) (fun i _=>l1.len - (intOf i).toNat)
 case atStart=>exact⟨0,rF _,rfl,rA ⟨Gr.refl _,by cases l1<;>cases l2<;>rfl⟩⟩
 case round=>
  obtain⟨k,hk,rfl,HG⟩:=hrel;by_cases hlt:k<l1.len
  ·have hd:=dT hlt
   obtain⟨b1,o1,x,rfl,hb1,hdx,hxo,hxn,c0,c1',c2',c3,c4⟩:=(H1.out.keep HG.out.1.1).elem hlt;have hkl:(k:Int)<(l1.len:Int):=by omega
   have HX:=rA hxo;have HDX:=rA hdx;have HXN:=rA (Nat.lt_of_lt_of_le hxn hn);clear hxo hdx hxn;by_cases h2:k<l2.len
   ·have hd2:decide (l2.len<=k)=false:=by simp;omega
    obtain⟨b2,o2,y,rfl,hb2,hdy,hyo,hyn,d0,d1,d2,d3,d4⟩:=(H2.out.keep HG.out.1.1).elem h2;have hkl2:(k:Int)<(l2.len:Int):=by omega
    have HY:=rA hyo;have HDY:=rA hdy;clear hyo hdy hyn;have HW:Hid (∀A B:Obj,Calls rC 393 #[jG x.enc.toArray,jG y.enc.toArray] ((wr.alloc A).alloc B) (zDO ((wr.alloc A).alloc B) (zAY x y))/\Gr wr ((wr.alloc A).alloc B)):=rA fun A B=>by
     have hg:=(Gr.alloc wr A).trans (Gr.alloc (wr.alloc A) B);exact⟨HI.out x y _ HXN.out (Fe.ok_keep HX.out hg.1) (Fe.ok_keep HY.out hg.1),hg⟩
    have HN:=rA (zOI HDX.out HDY.out);go_wp2_with fail;refine(HW.out _ _).1.mono ?_;rintro e w5 ⟨rfl,hg5⟩;have HG5:=rA (HG.out.1.trans ((HW.out _ _).2.trans hg5));have HE:=rA (HG.out.2.trans HN.out);clear hg5 HW HN HG;generalize zAY x y=c at*;by_cases hc:c=0
    ·subst hc
     go_wp2_with fail;go_roundw
     case rel=>exact⟨k+1,by omega,by go_num,rA ⟨HG5.out,by rw[HE.out];simp⟩⟩
     case measure=>simp[intOf];omega
    ·have hne:(c==0)=false:=by simpa using hc
     have HE2:=rA (HE.out.trans (if_neg hc));go_wp2_with fail;go_ret;exact⟨by rw[HE2.out];rfl,HG5.out⟩
   ·have hd2:decide (l2.len<=k)=true:=by simp;omega
    have HE:Hid (cfF l1 l2=1):=rA (by
     rw[HG.out.2,HDX.out,Fs.drop_end (f:=l2) (by omega)];rfl)
    go_wp2_with fail;go_ret;exact⟨by rw[HE.out];rfl,HG.out.1.trans (Gr.alloc _ _)⟩
  ·have hd:=dF hlt
   by_cases h2:l1.len<l2.len
   ·have hd2:=dT h2
    have HE:Hid (cfF l1 l2= -1):=rA (by
     obtain⟨_,_,_,_,_,e⟩:=Fs.drop_cons l2 k (by omega);rw[HG.out.2,Fs.drop_end (f:=l1) (by omega),e];rfl)
    go_wp2_with fail;go_ret;exact⟨by rw[HE.out];rfl,HG.out.1⟩
   ·have hd2:=dF h2
    have HE:Hid (cfF l1 l2=0):=rA (by
     rw[HG.out.2,Fs.drop_end (f:=l1) (by omega),Fs.drop_end (f:=l2) (by omega)];rfl)
    go_wp2_with fail;go_ret;exact⟨by rw[HE.out];rfl,HG.out.1⟩
section
variable {P:Program} {ops:Array Oper} {Q:Exit->Act->World->Prop} {md:Region.Mode} {S:World->Prop}
def z6 (P:Program) (ops:Array Oper) (S:World->Prop) (o:Oper) (v:Value) (a:Act):Prop:=
 Region.wanted o (yielded ops a.tmps)=true/\∃f args,∀w,S w->(execOp a.eval o).run P w=.ok (.enter f args) w/\Calls P f args w fun e w'=>e=jR v/\w'=w
theorem z6.step {i:Nat} {o:Oper} {v:Value} {a:Act} (hi:ops[i]? =some o) (hy:z6 P ops S o v a) {K:Act->World->Prop} {w:World} (hS:S w) (h:K (a.put o.dst v) w):wpOp P ops Q i K a w:=by
 obtain⟨hw,f,args,hc⟩:=hy;obtain⟨h1,h2⟩:=hc w hS;unfold wpOp;simp only[hi,hw,if_true,Oper.wp,h1,Oper.upon];refine .inl (h2.mono ?_);rintro e w' ⟨rfl,rfl⟩;exact h
theorem z6.ahead {j:Nat} {oi oj:Oper} {v:Value} (hj:ops[j]? =some oj) (hap:oi.apart ops oj=true) (hsi:∀cs b,oi.op≠.select cs b) (hsj:∀cs b,oj.op≠.select cs b)
  (hQ:∀c a w,Q (.panic c) (a.put oi.dst v) w->Q (.panic c) a w) {K:Act->World->Prop} {a:Act} {w:World} (hy:z6 P ops S oi v a) (h:wpOp P ops Q j K (a.put oi.dst v) w):
  wpOp P ops Q j (fun a' w'=>z6 P ops S oi v a'/\K (a'.put oi.dst v) w') a w:=by
 obtain⟨h1,h2,h3⟩:=Oper.apart_spec hap;have stays:∀b:Act,execOp b.eval oi=execOp a.eval oi->Region.wanted oi (yielded ops b.tmps)=Region.wanted oi (yielded ops a.tmps)->z6 P ops S oi v b:=fun b e1 e2=>by
  unfold z6;rw[e1,e2];exact hy
 have put:∀u,z6 P ops S oi v (a.put oj.dst u):=fun u=>stays _ (execOp_put oi hsi a oj.dst u h3) (wanted_put oi a oj.dst u h3)
 have go:∀ {u:Value} {w':World},K ((a.put oi.dst v).put oj.dst u) w'->z6 P ops S oi v (a.put oj.dst u)/\K ((a.put oj.dst u).put oi.dst v) w':=fun {u w'} hk=>⟨put u,by rw[<-Act.put_comm a v u h2];exact hk⟩
 unfold wpOp at*;simp only[hj] at*;rw[wanted_put oj a oi.dst v h1] at h;cases hw:Region.wanted oj (yielded ops a.tmps) with
 |false=>
  simp only[hw,Bool.false_eq_true,if_false] at h ⊢;exact go h
 |true=>
  simp only[hw,if_true] at h ⊢;have e:=execOp_put oj hsj a oi.dst v h1;rcases h with h|⟨ha,hl⟩
  ·left
   unfold Oper.wp at*;rw[e] at h;cases hr:(execOp a.eval oj).run P w with
   |halt x w'=>
    rw[hr] at h;cases x<;>first|exact hQ _ _ _ h|exact h
   |ok n w'=>
    rw[hr] at h;cases n with
    |value u=>exact go h
    |skip=>exact go h
    |defer d=>
     refine⟨stays _ ((execOp_put oi hsi _ oj.dst undef h3).trans rfl) ((wanted_put oi _ oj.dst undef h3).trans rfl),?_⟩;have h:K (({(a.put oi.dst v) with defers:=d::(a.put oi.dst v).defers}:Act).put oj.dst undef) w':=h;rw[<-Act.put_comm _ v undef h2,<-Act.put_defers];exact h
    |enter f args=>
     refine Calls.mono h fun e w'' he=>?_
     cases e with
     |returned u=>exact go he
     |panicked c=>exact hQ _ _ _ he
     |outgrown=>exact he
    |row r args=>exact Rows.mono h fun u w'' he=>go he
    |round|recover|spawn|comm|_=>exact(h:False).elim
  ·right
   refine⟨?_,hl⟩;unfold Oper.asks at*;rw[e] at ha;exact ha
theorem z6.first {i:Nat} {oi:Oper} {v:Value} (hi:ops[i]? =some oi) (hsel:∀(j:Nat) (o:Oper) cs b,ops[j]? =some o->o.op≠.select cs b) (hQ:∀c a w,Q (.panic c) (a.put oi.dst v) w->Q (.panic c) a w):
  ∀(fuel:Nat) (listed:Array Bool) (a:Act) (w:World),(∀j oj,ops[j]? =some oj->j≠i->listed.getD j true=false->(∀e∈oj.after,Region.binds md e=true->e.on≠i)->oi.apart ops oj=true)->
   i∈Region.ready md ops listed->z6 P ops S oi v a->S w->wpAnyH P md ops Q S fuel (listed.setIfInBounds i true) (a.put oi.dst v) w->wpAnyH P md ops Q S (fuel+1) listed a w
 |fuel,listed,a,w,hfree,hr,hy,hS,H=>by
  refine⟨fun h=>absurd hr (by rw[h];simp),fun j hj=>?_⟩;by_cases hji:j=i
  ·subst hji
   exact hy.step hi hS ⟨hS,H⟩
  ·cases fuel with
   |zero=>
    have:=ready_mono hj hji;rw[H.1] at this;cases this
   |succ fuel=>
    obtain⟨hun,oj,hoj,hall⟩:=mem_ready.1 hj;have hun_i:=(mem_ready.1 hr).1;have hnot:∀e∈oj.after,Region.binds md e=true->e.on≠i:=fun e he hb heq=>by
     have h1:=hall e he hb;rw[heq] at h1;rcases Nat.lt_or_ge i listed.size with h'|h'
     ·simp[h'] at hun_i h1
      rw[hun_i] at h1;cases h1
     ·simp[Array.getElem?_eq_none h'] at h1
    have h2:=z6.ahead hoj (hfree j oj hoj hji hun hnot) (fun cs b=>hsel i oi cs b hi) (fun cs b=>hsel j oj cs b hoj) hQ hy (H.2 j (ready_mono hj hji));refine wpOp_mono (fun a' w' h3=>?_) h2;obtain⟨hy',hS',h4⟩:=h3;refine⟨hS',z6.first hi hsel hQ fuel (listed.setIfInBounds j true) a' w' (fun k ok hk hki hu hno=>hfree k ok hk hki ?_ hno) (ready_mono hr (Ne.symm hji)) hy' hS' ?_⟩
    ·by_cases hjk:j=k
     ·subst hjk;exact hun
     ·rw[getD_set_ne true hjk] at hu;exact hu
    ·rw[Array.setIfInBounds_comm _ _ hji]
     exact h4
theorem z6.take {i:Nat} {oi:Oper} {v:Value} {fuel:Nat} {listed:Array Bool} {a:Act} {w:World} (hi:ops[i]? =some oi) (hs:Region.noSelect ops=true) (hf:Region.free md ops listed i=true) (hr:(Region.ready md ops listed).contains i=true)
  (hQ:∀c a w,Q (.panic c) (a.put oi.dst v) w->Q (.panic c) a w) (hy:z6 P ops S oi v a) (hS:S w) (h:wpAnyH P md ops Q S fuel (listed.setIfInBounds i true) (a.put oi.dst v) w):wpAnyH P md ops Q S (fuel+1) listed a w:=
 z6.first hi (Region.noSelect_spec hs) hQ fuel listed a w (Region.free_spec hi hf) (by simpa using hr) hy hS h
end
theorem zTR (w:World) (T:TypeId) (a b c d e f:Int) (n:Nat):Nums (w.alloc (.cells #[jI kQ a,jI kQ b,jI kQ c,jI kQ d,jI kQ e,jI kQ f] T)) (jS (some ⟨w.heap.size,0,none⟩) 6 n) [a,b,c,d,e,f]:=by
 refine⟨_,n,rfl,fun _=>⟨_,0,rfl,by simp,fun j hj=>?_⟩⟩;rw[Nat.zero_add,zI]
 match j,hj with
 |0,_=>rfl
 |1,_=>rfl
 |2,_=>rfl
 |3,_=>rfl
 |4,_=>rfl
 |5,_=>rfl
theorem or6 (w:World) (a b c d e f:Int):Calls rC 127 #[jS (some ⟨w.heap.size,0,none⟩) 6 6] (w.alloc (.cells #[jI kQ a,jI kQ b,jI kQ c,jI kQ d,jI kQ e,jI kQ f] 3)) (fun e' w'=>e'=jR (jI kQ (orF [a,b,c,d,e,f]))/\w'=w.alloc (.cells #[jI kQ a,jI kQ b,jI kQ c,jI kQ d,jI kQ e,jI kQ f] 3)):=
 zMN (L:=[a,b,c,d,e,f]) (zTR w 3 a b c d e f 6) (by simp)
theorem zP6 (x y:Fe):orF [rB x.op y.op,rE x.nm.data.toList y.nm.data.toList,rB x.v y.v,rB x.bd y.bd,rB x.args.len y.args.len,cfF x.args y.args]=zAY x y:=by
 rw[zPE];unfold zC8 Fe.ky;dsimp only;by_cases h0:x.op=y.op
 ·by_cases h1:x.nm=y.nm
  ·by_cases h2:x.v=y.v
   ·by_cases h3:x.bd=y.bd
    ·by_cases h4:x.args.len=y.args.len
     ·rw[<-zNx h4]
      simp[orF,h0,h1,h2,h3,h4,yH,v8.same];exact fun h=>h.symm
     ·have hne:rB (x.args.len:Int) (y.args.len:Int)≠0:=fun e=>h4 (by have:=yI e;omega)
      simp[orF,h0,h1,h2,h3,yH,v8.same,hne]
    ·have hne:rB x.bd y.bd≠0:=fun e=>h3 (yI e)
     simp[orF,h0,h1,h2,h3,yH,v8.same,hne]
   ·have hne:rB x.v y.v≠0:=fun e=>h2 (yI e)
    simp[orF,h0,h1,h2,yH,v8.same,hne]
  ·have hne:rE x.nm.data.toList y.nm.data.toList≠0:=fun e=>h1 (ByteArray.ext (Array.toList_inj.1 (zAX e)))
   simp[orF,h0,h1,yH,hne]
 ·have hne:rB x.op y.op≠0:=fun e=>h0 (yI e)
  simp[orF,h0,hne]
theorem zIE {n:Nat} (IH:zOd n) (x y:Fe) (w:World) (hn:x.args.nodes<=n) (hx:x.ok w) (hy:y.ok w):Calls rC 393 #[jG x.enc.toArray,jG y.enc.toArray] w (zDO w (zAY x y)):=by
 have HO:=rA (zP6 x y);have HC:Hid (∀W,Gr w W->Calls rC 406 #[jS x.a x.args.len x.c,jS y.a y.args.len y.c,.func (.func 393) #[] #[]] W (zDO W (cfF x.args y.args))):=rA fun W hg=>zCf IH hn (hx.1.keep hg.1) (hy.1.keep hg.1) hx.2.2.1 hy.2.2.1
 obtain⟨op,nm,v,bd,ar,a,c⟩:=x;obtain⟨op',nm',v',bd',ar',a',c'⟩:=y;dsimp only at HO HC;show Calls rC 393 #[jG #[jI kQ op,jT nm,jI kQ v,jI kQ bd,jS a ar.len c],jG #[jI kQ op',jT nm',jI kQ v',jI kQ bd',jS a' ar'.len c']] w _;have hL1:ar.len<=9223372036854775807:=hx.2.2.1;have hL2:ar'.len<=9223372036854775807:=hy.2.2.1;clear hx hy IH;generalize zAY _ _=cc at*;go_enter Tryz.func393,Tryz.ntmps393;go_upto_region 1 with fail;have HW:Hid (∀W,W=(w.alloc (.cells #[jI kQ op,jT nm,jI kQ v,jI kQ bd,jS a ar.len c] 33)).alloc (.cells #[jI kQ op',jT nm',jI kQ v',jI kQ bd',jS a' ar'.len c'] 33)->Gr w W/\∀W',Gr W W'->
   W'.cell? ⟨w.heap.size,0,none⟩=some (jI kQ op)/\W'.cell? ⟨w.heap.size,1,none⟩=some (jT nm)/\W'.cell? ⟨w.heap.size,2,none⟩=some (jI kQ v)/\W'.cell? ⟨w.heap.size,3,none⟩=some (jI kQ bd)/\W'.cell? ⟨w.heap.size,4,none⟩=some (jS a ar.len c)/\
   W'.cell? ⟨w.heap.size+1,0,none⟩=some (jI kQ op')/\W'.cell? ⟨w.heap.size+1,1,none⟩=some (jT nm')/\W'.cell? ⟨w.heap.size+1,2,none⟩=some (jI kQ v')/\W'.cell? ⟨w.heap.size+1,3,none⟩=some (jI kQ bd')/\W'.cell? ⟨w.heap.size+1,4,none⟩=some (jS a' ar'.len c')):=rA fun W e=>by
  subst e;refine⟨(Gr.alloc _ _).trans (Gr.alloc _ _),fun W' hg=>?_⟩;have b0:=(hg.1.block w.heap.size (by simp;omega)).trans ((heap_alloc_old _ _ (by simp)).trans (heap_alloc_new w _));have s1:(w.alloc (.cells #[jI kQ op,jT nm,jI kQ v,jI kQ bd,jS a ar.len c] 33)).heap.size=w.heap.size+1:=by simp
  have b1:=hg.1.block (w.heap.size+1) (by simp);rw[<-s1,heap_alloc_new,s1] at b1;simp[World.cell?,b0,b1]
 obtain⟨hg0,hcs⟩:=HW.out _ rfl;have HG:=rA hg0;have HS:=rA hcs;clear HW hg0 hcs;generalize (w.alloc (.cells #[jI kQ op,jT nm,jI kQ v,jI kQ bd,jS a ar.len c] 33)).alloc _=W0 at*;obtain⟨s0,s1,s2,s3,s4,t0,t1,t2,t3,t4⟩:=HS.out _ (Gr.refl W0);have q128:=rA Tryz.cmp_Compare_int;have q405:=rA zPc;have HG1:=rA (HG.out.trans (Gr.drawn W0 1));generalize hB:w.heap.size=B at*;refine wp_region_held_drew (S:=fun W=>W.cell? ⟨B,0,none⟩=some (jI kQ op)/\W.cell? ⟨B,1,none⟩=some (jT nm)/\W.cell? ⟨B,2,none⟩=some (jI kQ v)/\W.cell? ⟨B,3,none⟩=some (jI kQ bd)/\W.cell? ⟨B,4,none⟩=some (jS a ar.len c)/\
   W.cell? ⟨B+1,0,none⟩=some (jI kQ op')/\W.cell? ⟨B+1,1,none⟩=some (jT nm')/\W.cell? ⟨B+1,2,none⟩=some (jI kQ v')/\W.cell? ⟨B+1,3,none⟩=some (jI kQ bd')/\W.cell? ⟨B+1,4,none⟩=some (jS a' ar'.len c')) (by kernel_rfl) ⟨s0,s1,s2,s3,s4,t0,t1,t2,t3,t4⟩ (fun hS=>?_)
 clear s0 s1 s2 s3 s4 t0 t1 t2 t3 t4;refine tK 0 (jP (some ⟨B,0,none⟩)) ?_;refine tK 1 (jI kQ op) ?_;refine tK 2 (jP (some ⟨B+1,0,none⟩)) ?_;refine tK 3 (jI kQ op') ?_;refine z6.take (i:=4) (v:=jI kQ (rB op op')) rfl (by kernel_rfl) (by kernel_rfl) (by kernel_rfl) (fun _ _ _ h=>h) ⟨by rfl,128,#[jI kQ op,jI kQ op'],fun W hW=>⟨?_,q128.out _ _ _⟩⟩ hS ?_
 ·go_simp
 try simp only[sA]
 refine tK 5 (jP (some ⟨B,1,none⟩)) ?_;refine tK 6 (jT nm) ?_;refine tK 7 (jP (some ⟨B+1,1,none⟩)) ?_;refine tK 8 (jT nm') ?_;refine z6.take (i:=9) (v:=jI kQ (rE nm.data.toList nm'.data.toList)) rfl (by kernel_rfl) (by kernel_rfl) (by kernel_rfl) (fun _ _ _ h=>h) ⟨by rfl,405,#[jT nm,jT nm'],fun W hW=>⟨?_,q405.out _ _ _⟩⟩ hS ?_
 ·go_simp
 try simp only[sA]
 refine tK 10 (jP (some ⟨B,2,none⟩)) ?_;refine tK 11 (jI kQ v) ?_;refine tK 12 (jP (some ⟨B+1,2,none⟩)) ?_;refine tK 13 (jI kQ v') ?_;refine z6.take (i:=14) (v:=jI kQ (rB v v')) rfl (by kernel_rfl) (by kernel_rfl) (by kernel_rfl) (fun _ _ _ h=>h) ⟨by rfl,128,#[jI kQ v,jI kQ v'],fun W hW=>⟨?_,q128.out _ _ _⟩⟩ hS ?_
 ·go_simp
 try simp only[sA]
 refine tK 15 (jP (some ⟨B,3,none⟩)) ?_;refine tK 16 (jI kQ bd) ?_;refine tK 17 (jP (some ⟨B+1,3,none⟩)) ?_;refine tK 18 (jI kQ bd') ?_;refine z6.take (i:=19) (v:=jI kQ (rB bd bd')) rfl (by kernel_rfl) (by kernel_rfl) (by kernel_rfl) (fun _ _ _ h=>h) ⟨by rfl,128,#[jI kQ bd,jI kQ bd'],fun W hW=>⟨?_,q128.out _ _ _⟩⟩ hS ?_
 ·go_simp
 try simp only[sA]
 refine tK 20 (jP (some ⟨B,4,none⟩)) ?_;refine tK 21 (jS a ar.len c) ?_;refine tK 22 (jI kQ ar.len) ?_;refine tK 23 (jP (some ⟨B+1,4,none⟩)) ?_;refine tK 24 (jS a' ar'.len c') ?_;refine tK 25 (jI kQ ar'.len) ?_;refine z6.take (i:=26) (v:=jI kQ (rB ar.len ar'.len)) rfl (by kernel_rfl) (by kernel_rfl) (by kernel_rfl) (fun _ _ _ h=>h) ⟨by rfl,128,#[jI kQ ar.len,jI kQ ar'.len],fun W hW=>⟨?_,q128.out _ _ _⟩⟩ hS ?_
 ·go_simp
 try simp only[sA]
 refine tK 27 (jP (some ⟨B,4,none⟩)) ?_;refine tK 28 (jS a ar.len c) ?_;refine tK 29 (jP (some ⟨B+1,4,none⟩)) ?_;refine tK 30 (jS a' ar'.len c') ?_;refine ty 31 rfl (fun K hK=>?_);go_simp;refine(HC.out _ HG1.out).mono ?_;rintro e' w5 ⟨rfl,hg5⟩;have HG5:=rA (HG1.out.trans hg5);obtain⟨u0,u1,u2,u3,u4,v0,v1,v2,v3,v4⟩:=HS.out _ ((Gr.drawn W0 1).trans hg5);refine hK.out _ _ ⟨u0,u1,u2,u3,u4,v0,v1,v2,v3,v4⟩ (fun hS5=>?_);clear hS hK hg5;refine ty 32 rfl (fun K hK=>?_);go_simp;refine hK.out _ _ ⟨(rD _ _ _ (by rw[u0];rfl)).trans u0,(rD _ _ _ (by rw[u1];rfl)).trans u1,(rD _ _ _ (by rw[u2];rfl)).trans u2,(rD _ _ _ (by rw[u3];rfl)).trans u3,(rD _ _ _ (by rw[u4];rfl)).trans u4,
  (rD _ _ _ (by rw[v0];rfl)).trans v0,(rD _ _ _ (by rw[v1];rfl)).trans v1,(rD _ _ _ (by rw[v2];rfl)).trans v2,(rD _ _ _ (by rw[v3];rfl)).trans v3,(rD _ _ _ (by rw[v4];rfl)).trans v4⟩ (fun hS6=>?_)
 clear hK hS5 u0 u1 u2 u3 u4 v0 v1 v2 v3 v4;refine ty 33 rfl (fun K hK=>?_);go_simp;refine(or6 w5 _ _ _ _ _ _).mono ?_;rintro e' w6 ⟨rfl,rfl⟩;refine hK.out _ _ hS6 (fun hS7=>?_);clear hK hS6;rw[HO.out];try simp only[sA]
 refine tK 34 (jI kQ cc) ?_;change wpAnyH _ _ _ _ _ _ _ (Act.put _ (some 4) _) _;try simp only[sA]
 refine wpAnyH_done (by kernel_rfl) ?_ _;clear hS7;go_wp2_with fail;go_ret;exact⟨rfl,HG5.out.trans (Gr.alloc _ _)⟩
theorem zNV:∀n,zOd n
 |0=>fun _ _ _ h=>absurd h (rH _)
 |n+1=>fun x y w h hx hy=>zIE (zNV n) x y w (Nat.lt_succ_iff.1 h) hx hy
theorem zBl (hx:x.ok w) (hy:y.ok w):Calls rC 393 #[jG x.enc.toArray,jG y.enc.toArray] w (zDO w (zAY x y)):=zNV _ x y w (rG _) hx hy
def zEN (op:Int):Bool:=op==15||op==16||op==17
theorem vT (op:Int) (w:World):Calls rC 379 #[jI kQ op] w fun e w'=>e=jR (jB (zEN op))/\w'=w:=by
 by_cases h1:op=15
 ·subst h1
  go_enter Tryz.func379,Tryz.ntmps379;go_wp2_with fail;go_ret;exact⟨rfl,rfl⟩
 ·have d1:(op==(15:Int))=false:=by simpa using h1
  by_cases h2:op=16
  ·subst h2
   go_enter Tryz.func379,Tryz.ntmps379;go_wp2_with fail;go_ret;exact⟨rfl,rfl⟩
  ·have d2:(op==(16:Int))=false:=by simpa using h2
   have e:zEN op=(op==17):=by simp[zEN,d1,d2]
   rw[e];go_enter Tryz.func379,Tryz.ntmps379;go_wp2_with fail;go_ret;exact⟨rfl,rfl⟩
def zCC:Fs->Bool
 | .nil=>true
 | .cons op _ _ _ a r=>!(op==8||op==9||op==10)&&zCC a&&zCC r
def Fe.past (x:Fe):Bool:=!(x.op==8||x.op==9||x.op==10)&&zCC x.args
theorem zBQ (w:World) (x:Fe):(w.alloc (.cells x.enc.toArray 33)).cell? ⟨w.heap.size,0,none⟩=some (jI kQ x.op)/\(w.alloc (.cells x.enc.toArray 33)).cell? ⟨w.heap.size,1,none⟩=some (jT x.nm)/\(w.alloc (.cells x.enc.toArray 33)).cell? ⟨w.heap.size,2,none⟩=some (jI kQ x.v)/\
  (w.alloc (.cells x.enc.toArray 33)).cell? ⟨w.heap.size,3,none⟩=some (jI kQ x.bd)/\(w.alloc (.cells x.enc.toArray 33)).cell? ⟨w.heap.size,4,none⟩=some (jS x.a x.args.len x.c):=⟨zI _ _ _ 0,zI _ _ _ 1,zI _ _ _ 2,zI _ _ _ 3,zI _ _ _ 4⟩
def zFP (w:World) (b:Bool) (e:Ending) (w':World):Prop:=e=jR (jB b)/\Gr w w'
def zNz (n:Nat):Prop:=∀(x:Fe) (w:World),x.args.nodes<n->x.ok w->Calls rC 386 #[jG x.enc.toArray] w (zFP w x.past)
theorem zNK {n:Nat} (IH:zNz n) (x:Fe) (w:World) (hn:x.args.nodes<=n) (hx:x.ok w):Calls rC 386 #[jG x.enc.toArray] w (zFP w x.past):=by
 obtain⟨s0,s1,s2,s3,s4⟩:=zBQ w x;have hg:=Gr.alloc w (.cells x.enc.toArray 33);have HI:=rA IH;have HA:=rA (hx.1.keep hg.1);have hL:=hx.2.2.1;have HG:=rA hg;obtain⟨b,hb⟩:∃b,x.past=b:=⟨_,rfl⟩;have HB:=rA (show(!(x.op==8||x.op==9||x.op==10)&&zCC x.args)=b from hb);rw[hb];clear IH hx hg s1 s2 s3 hb;obtain⟨op,nm,v,bd,ar,a,c⟩:=x;dsimp only[Fe.enc] at*;go_enter Tryz.func386,Tryz.ntmps386;go_upto_region 1 with fail;generalize w.alloc _=w1 at*;have hfalse:(op=8∨op=9∨op=10)->b=false:=fun h=>by
  rw[<-HB.out];rcases h with rfl|rfl|rfl<;>rfl
 by_cases h8:op=8
 ·have HF:=rA (hfalse (.inl h8))
  subst h8;clear hfalse;go_wp2_with fail;go_ret;exact⟨by rw[HF.out];rfl,HG.out⟩
 by_cases h9:op=9
 ·have HF:=rA (hfalse (.inr (.inl h9)))
  subst h9;clear hfalse;go_wp2_with fail;go_ret;exact⟨by rw[HF.out];rfl,HG.out⟩
 by_cases h10:op=10
 ·have HF:=rA (hfalse (.inr (.inr h10)))
  subst h10;clear hfalse;go_wp2_with fail;go_ret;exact⟨by rw[HF.out];rfl,HG.out⟩
 have d8:(op==(8:Int))=false:=by simpa using h8
 have d9:(op==(9:Int))=false:=by simpa using h9
 have d10:(op==(10:Int))=false:=by simpa using h10
 have HP:Hid (zCC ar=b):=rA (by have:=HB.out;rw[d8,d9,d10] at this;simpa using this);clear hfalse HB h8 h9 h10;go_wp2_with fail;go_loopw [21] (fun i wr=>∃k:Nat,k<=ar.len/\i=jI kQ k/\Hid (Gr w wr/\Gr w1 wr/\zCC (ar.drop k)=b)) (fun i _=>ar.len - (intOf i).toNat)
 case atStart=>exact⟨0,rF _,rfl,rA ⟨HG.out,Gr.refl _,by cases ar<;>exact HP.out⟩⟩
 case round=>
  obtain⟨k,hk,rfl,HR⟩:=hrel;clear s0 s4;by_cases hlt:k<ar.len;rotate_left
  ·have hd:=dF hlt
   have HF:Hid (b=true):=rA (by rw[<-HR.out.2.2,Fs.drop_end (by omega)];rfl);go_wp2_with fail;go_ret;exact⟨by rw[HF.out];rfl,HR.out.1⟩
  have hd:=dT hlt
  obtain⟨b1,o1,y,rfl,hb1,hdy,hyo,hyn,c0,c1,c2,c3,c4⟩:=(HA.out.keep HR.out.2.1.1).elem hlt;have hkl:(k:Int)<(ar.len:Int):=by omega
  have HW:Hid (∀A:Obj,Calls rC 386 #[jG y.enc.toArray] (wr.alloc A) (zFP (wr.alloc A) y.past)):=rA fun A=>HI.out y _ (by have:ar.nodes<=n:=hn;omega) (Fe.ok_keep hyo (Gr.alloc wr A).1)
  have HD:Hid ((y.past&&zCC (ar.drop (k+1)))=b):=rA (by
   have:=HR.out.2.2;rw[hdy] at this;exact this)
  have HRG:=rA HR.out.1;have HRG1:=rA HR.out.2.1;clear hyo hdy hyn HR;go_wp2_with fail;refine(HW.out _).mono ?_;rintro e w5 ⟨rfl,hg5⟩;have HG5:=rA (And.intro (HRG.out.trans ((Gr.alloc _ _).trans hg5)) (HRG1.out.trans ((Gr.alloc _ _).trans hg5)));clear hg5 HW;cases hyp:y.past with
  |false=>
   have HF:Hid (b=false):=rA (by rw[<-HD.out,hyp];rfl);go_wp2_with fail;go_ret;exact⟨by rw[HF.out];rfl,HG5.out.1⟩
  |true=>
   have HF:Hid (zCC (ar.drop (k+1))=b):=rA (by rw[<-HD.out,hyp];simp);go_wp2_with fail;go_roundw
   case rel=>exact⟨k+1,by omega,by go_num,rA ⟨HG5.out.1,HG5.out.2,HF.out⟩⟩
   case measure=>simp[intOf];omega
theorem zOW:∀n,zNz n
 |0=>fun _ _ h=>absurd h (rH _)
 |n+1=>fun x w h hx=>zNK (zOW n) x w (Nat.lt_succ_iff.1 h) hx
theorem zAb (hx:x.ok w):Calls rC 386 #[jG x.enc.toArray] w (zFP w x.past):=zOW _ x w (rG _) hx
def zU:Fs->Nat->Nat
 |_,0=>0
 | .nil,_=>0
 | .cons _ _ _ _ a r,k+1=>a.nodes+1+zU r k
theorem zX:∀ {f:Fs} {k:Nat} {y:Fe},f.drop k=.cons y.op y.nm y.v y.bd y.args (f.drop (k+1))->zU f (k+1)=zU f k+(y.args.nodes+1)
 | .nil,k,y,h=>by cases k<;>simp[Fs.drop] at h
 | .cons _ _ _ _ a r,0,y,h=>by
  simp only[Fs.drop,Fs.cons.injEq] at h;simp[zU,h.2.2.2.2.1]
 | .cons _ _ _ _ a r,k+1,y,h=>by
  have:=zX (f:=r) (k:=k) (y:=y) h;simp only[zU,this];omega
theorem vR:∀ {f:Fs} {k:Nat},f.len<=k->zU f k=f.nodes
 | .nil,0,_=>rfl
 | .nil,_+1,_=>rfl
 | .cons ..,0,h=>by simp[Fs.len] at h
 | .cons _ _ _ _ a r,k+1,h=>by
  have:=vR (f:=r) (k:=k) (by simpa[Fs.len] using h);simp only[zU,this,Fs.nodes];omega
theorem yE:∀(f:Fs) (k:Nat),zU f k<=f.nodes
 |f,0=>by cases f<;>simp[zU]
 | .nil,_+1=>rI _
 | .cons _ _ _ _ a r,k+1=>by
  have:=yE r k;simp only[zU,Fs.nodes];omega
def zOJ (n:Nat):Prop:=∀(x:Fe) (w:World),x.args.nodes<n->x.args.nodes<=1000000000->x.ok w->Calls rC 374 #[jG x.enc.toArray] w (zDO w ((x.args.nodes+1:Nat):Int))
theorem zMj {n:Nat} (IH:zOJ n) (x:Fe) (w:World) (hn:x.args.nodes<=n) (hm:x.args.nodes<=1000000000) (hx:x.ok w):Calls rC 374 #[jG x.enc.toArray] w (zDO w ((x.args.nodes+1:Nat):Int)):=by
 obtain⟨s0,s1,s2,s3,s4⟩:=zBQ w x;have hg:=Gr.alloc w (.cells x.enc.toArray 33);have HI:=rA IH;have HA:=rA (hx.1.keep hg.1);have hL:=hx.2.2.1;have HG:=rA hg;clear IH hx hg s1 s2 s3 s0;obtain⟨op,nm,v,bd,ar,a,c⟩:=x;dsimp only[Fe.enc] at*;have HT:=rA (fun k=>yE ar k);have HN:=rA hn;go_enter Tryz.func374,Tryz.ntmps374;go_upto_region 1 with fail;generalize w.alloc _=w1 at*;go_wp2_with fail;go_loopw [3,9] (fun t i wr=>∃k s:Nat,k<=ar.len/\i=jI kQ k/\t=jI kQ ((s:Int)+1)/\s<=1000000000/\Hid (Gr w wr/\Gr w1 wr/\s=zU ar k)) (fun _ i _=>ar.len - (intOf i).toNat)
 case atStart=>exact⟨0,0,rF _,rfl,rfl,by omega,rA ⟨HG.out,Gr.refl _,by cases ar<;>rfl⟩⟩
 case round=>
  obtain⟨k,s,hk,rfl,rfl,hs,HR⟩:=hrel;clear s4;by_cases hlt:k<ar.len;rotate_left
  ·have hd:=dF hlt
   have HF:Hid (s=ar.nodes):=rA (by rw[HR.out.2.2,vR (by omega)]);go_wp2_with fail;go_ret;exact⟨by rw[HF.out];rfl,HR.out.1⟩
  have hd:=dT hlt
  obtain⟨b1,o1,y,rfl,hb1,hdy,hyo,hyn,c0,c1,c2,c3,c4⟩:=(HA.out.keep HR.out.2.1.1).elem hlt;have hkl:(k:Int)<(ar.len:Int):=by omega
  have HW:Hid (∀A:Obj,Calls rC 374 #[jG y.enc.toArray] (wr.alloc A) (zDO (wr.alloc A) ((y.args.nodes+1:Nat):Int))):=rA fun A=>HI.out y _ (by have:=HN.out;omega) (by omega) (Fe.ok_keep hyo (Gr.alloc wr A).1)
  have HD:=rA (zX hdy);have hT:=HT.out (k+1);have hD:=HD.out;have hS:=HR.out.2.2;have hs2:s+(y.args.nodes+1)<=1000000000:=by omega
  have HRG:=rA HR.out.1;have HRG1:=rA HR.out.2.1;have HSS:=rA hS;clear hyo hdy hyn HR hT hD hS;go_wp2_with fail;refine(HW.out _).mono ?_;rintro e w5 ⟨rfl,hg5⟩;have HG5:=rA (And.intro (HRG.out.trans ((Gr.alloc _ _).trans hg5)) (HRG1.out.trans ((Gr.alloc _ _).trans hg5)));clear hg5 HW;generalize y.args.nodes=m at*;go_wp2_with fail;go_roundw
  case rel=>exact⟨k+1,s+(m+1),by omega,by go_num,by go_num,hs2,rA ⟨HG5.out.1,HG5.out.2,by rw[HSS.out,HD.out]⟩⟩
  case measure=>simp[intOf];omega
theorem zOQ:∀n,zOJ n
 |0=>fun _ _ h=>absurd h (rH _)
 |n+1=>fun x w h hm hx=>zMj (zOQ n) x w (Nat.lt_succ_iff.1 h) hm hx
theorem zPt (hm:x.args.nodes<=1000000000) (hx:x.ok w):Calls rC 374 #[jG x.enc.toArray] w (zDO w ((x.args.nodes+1:Nat):Int)):=zOQ _ x w (rG _) hm hx
def zB9 (w:World) (e:Ending) (w':World):Prop:=∃d:Int,e=jR (jI kQ d)/\Gr w w'
def zMK (n:Nat):Prop:=∀(x:Fe) (w:World),x.args.nodes<n->x.ok w->Calls rC 375 #[jG x.enc.toArray] w (zB9 w)
theorem zKs {n:Nat} (IH:zMK n) (x:Fe) (w:World) (hn:x.args.nodes<=n) (hx:x.ok w):Calls rC 375 #[jG x.enc.toArray] w (zB9 w):=by
 obtain⟨s0,s1,s2,s3,s4⟩:=zBQ w x;have hg:=Gr.alloc w (.cells x.enc.toArray 33);have HI:=rA IH;have HA:=rA (hx.1.keep hg.1);have hL:=hx.2.2.1;have HG:=rA hg;clear IH hx hg s1 s2 s3 s0;obtain⟨op,nm,v,bd,ar,a,c⟩:=x;dsimp only[Fe.enc] at*;have HN:=rA hn;go_enter Tryz.func375,Tryz.ntmps375;go_upto_region 1 with fail;generalize w.alloc _=w1 at*;go_wp2_with fail;go_loopw [3,9] (fun t i wr=>∃(k:Nat) (s:Int),k<=ar.len/\i=jI kQ k/\t=jI kQ s/\Hid (Gr w wr/\Gr w1 wr)) (fun _ i _=>ar.len - (intOf i).toNat)
 case atStart=>exact⟨0,0,rF _,rfl,rfl,rA ⟨HG.out,Gr.refl _⟩⟩
 case round=>
  obtain⟨k,s,hk,rfl,rfl,HR⟩:=hrel;clear s4;by_cases hlt:k<ar.len;rotate_left
  ·have hd:=dF hlt
   go_wp2_with fail;go_ret;exact⟨_,rfl,HR.out.1⟩
  have hd:=dT hlt
  obtain⟨b1,o1,y,rfl,hb1,hdy,hyo,hyn,c0,c1,c2,c3,c4⟩:=(HA.out.keep HR.out.2.1).elem hlt;have hkl:(k:Int)<(ar.len:Int):=by omega
  have HW:Hid (∀A:Obj,Calls rC 375 #[jG y.enc.toArray] (wr.alloc A) (zB9 (wr.alloc A))):=rA fun A=>HI.out y _ (by have:=HN.out;omega) (Fe.ok_keep hyo (Gr.alloc wr A).1)
  have HRG:=rA HR.out.1;have HRG1:=rA HR.out.2;clear hyo hdy hyn HR;go_wp2_with fail;refine(HW.out _).mono ?_;rintro e w5 ⟨d,rfl,hg5⟩;have HG5:=rA (And.intro (HRG.out.trans ((Gr.alloc _ _).trans hg5)) (HRG1.out.trans ((Gr.alloc _ _).trans hg5)));clear hg5 HW;by_cases hsd:s<d
  ·have hdd:=dT hsd
   go_wp2_with fail;go_roundw
   case rel=>exact⟨k+1,_,by omega,by go_num,rfl,HG5⟩
   case measure=>simp[intOf];omega
  ·have hdd:=dF hsd
   go_wp2_with fail;go_roundw
   case rel=>exact⟨k+1,_,by omega,by go_num,rfl,HG5⟩
   case measure=>simp[intOf];omega
theorem zLt:∀n,zMK n
 |0=>fun _ _ h=>absurd h (rH _)
 |n+1=>fun x w h hx=>zKs (zLt n) x w (Nat.lt_succ_iff.1 h) hx
theorem zNQ (hx:x.ok w):Calls rC 375 #[jG x.enc.toArray] w (zB9 w):=zLt _ x w (rG _) hx
def zQ9 (w:World) (e:Ending) (w':World):Prop:=∃b:Bool,e=jR (jB b)/\w'=w
theorem zLM (s:ByteArray) (w:World):Calls rC 385 #[jT s] w (zQ9 w):=by
 go_enter Tryz.func385,Tryz.ntmps385;go_wp2_with fail;all_goals go_ret
 all_goals exact⟨_,rfl,rfl⟩
theorem zH7 {s:ByteArray} (hs:s.size<=9223372036854775807) (w:World):Calls rC 373 #[jT s] w (zQ9 w):=by
 by_cases h0:s.size<1
 ·have hd:decide ((s.size:Int)<1)=true:=by rw[decide_eq_true_iff];omega
  have hd':decide (s.size<1)=true:=by rw[decide_eq_true_iff];omega
  go_enter Tryz.func373,Tryz.ntmps373;go_wp2_with fail;go_ret;exact⟨_,rfl,rfl⟩
 ·have hd:decide ((s.size:Int)<1)=false:=by rw[decide_eq_false_iff_not];omega
  have hd':decide (s.size<1)=false:=by rw[decide_eq_false_iff_not];omega
  by_cases h1:12<s.size
  ·have hd2:decide ((12:Int)<(s.size:Int))=true:=by rw[decide_eq_true_iff];omega
   have hd2':decide (12<s.size)=true:=by rw[decide_eq_true_iff];omega
   go_enter Tryz.func373,Tryz.ntmps373;go_wp2_with fail;go_ret;exact⟨_,rfl,rfl⟩
  ·have hd2:decide ((12:Int)<(s.size:Int))=false:=by rw[decide_eq_false_iff_not];omega
   have hd2':decide (12<s.size)=false:=by rw[decide_eq_false_iff_not];omega
   have hlt:(0:Int)<(s.size:Int):=by omega
   go_enter Tryz.func373,Tryz.ntmps373;go_wp2_with fail;all_goals first|(go_ret;exact⟨_,rfl,rfl⟩)|skip
   refine(zLM _ _).mono ?_;rintro e w' ⟨b,rfl,rfl⟩;cases b with
   |true=>
    go_wp2_with fail;go_ret;exact⟨_,rfl,rfl⟩
   |false=>
    go_wp2_with fail;go_loopw [29] (fun i wr=>∃k:Nat,k<=s.size/\i=jI kQ k/\wr=w') (fun i _=>s.size - (intOf i).toNat)
    case atStart=>exact⟨0,rF _,rfl,rfl⟩
    case round=>
     obtain⟨k,hk,rfl,hwr⟩:=hrel;rw[hwr];clear hwr;by_cases hlk:k<s.size
     ·have hdk:=dT hlk
      have hks:(k:Int)<(s.size:Int):=by omega
      go_wp2_with fail;all_goals first|(go_ret;exact⟨_,rfl,rfl⟩)|skip
      all_goals go_roundw
      all_goals first|(case rel=>exact⟨k+1,by omega,by go_num,trivial⟩)|(case rel=>exact⟨k+1,by omega,by go_num,rfl⟩)|skip
      all_goals (simp[intOf];omega)
     ·have hdk:=dF hlk
      go_wp2_with fail;go_ret;exact⟨_,rfl,rfl⟩
def vH (op:Int) (n:Nat):Prop:=(op=4∨op=8∨op=15->n=1)/\(op=9∨op=10∨op=16∨op=17->n=2)
def ArL:Fs->Prop
 | .nil=>True
 | .cons op _ _ _ a r=>vH op a.len/\ArL a/\ArL r
def Fe.ar (x:Fe):Prop:=vH x.op x.args.len/\ArL x.args
theorem ArL.drop:∀ {f:Fs} (k:Nat),ArL f->ArL (f.drop k)
 |f,0,h=>by cases f<;>exact h
 | .nil,k+1,h=>h
 | .cons _ _ _ _ a r,k+1,h=>h.2.2.drop k
def zCT (w:World) (P:Prop) (e:Ending) (w':World):Prop:=∃b:Bool,e=jR (jB b)/\(b=true->P)/\Gr w w'
def zQR (n:Nat):Prop:=∀(x:Fe) (w:World),x.args.nodes<n->x.ok w->Calls rC 376 #[jG x.enc.toArray] w (zCT w x.ar)
theorem zPL {n:Nat} (IH:zQR n) (x:Fe) (w:World) (hn:x.args.nodes<=n) (hx:x.ok w):Calls rC 376 #[jG x.enc.toArray] w (zCT w x.ar):=by
 have hs:=zBQ w x;have hg:=Gr.alloc w (.cells x.enc.toArray 33);have HI:=rA IH;have HA:=rA (hx.1.keep hg.1);have hL:=hx.2.2.1;have HNM:=rA hx.2.1;have HG:=rA hg;have HN:=rA hn;clear IH hx hg;unfold Fe.ar;obtain⟨op,nm,v,bd,ar,a,c⟩:=x;dsimp only[Fe.enc] at*;have hsz:w.heap.size<(w.alloc (.cells #[jI kQ op,jT nm,jI kQ v,jI kQ bd,jS a ar.len c] 33)).heap.size:=by simp
 obtain⟨s0,s1,s2,s3,s4⟩:=hs;have HS:Hid (∀W,Gr (w.alloc (.cells #[jI kQ op,jT nm,jI kQ v,jI kQ bd,jS a ar.len c] 33)) W->W.cell? ⟨w.heap.size,0,none⟩=some (jI kQ op)):=rA fun W hW=>(hW.1.cell (p:=⟨w.heap.size,0,none⟩) hsz).trans s0
 clear hsz;go_enter Tryz.func376,Tryz.ntmps376;go_upto_region 1 with fail;generalize w.alloc _=w1 at*;have HF:Hid (zCT w (vH op ar.len/\ArL ar) (jR (jB false)) w1):=rA ⟨false,rfl,(fun h=>by cases h),HG.out⟩;by_cases hbd:bd=0;rotate_left
 ·have hne:(bd !=(0:Int))=true:=by simpa using hbd
  go_wp2_with fail;go_ret;exact HF.out
 subst hbd;generalize hB:w.heap.size=B at*;go_upto_region 3 with fail
 ·go_ret
  exact HF.out
 go_upto_block 0 with fail
 go_cut [3,4] from 19 to 43 (fun m z wx=>∃mi ai:Int,m=jI kQ mi/\z=jI kQ ai/\wx=w1/\Hid (ai=ar.len->vH op ar.len))
 case first=>
  by_cases h1:op=1
  ·subst h1
   go_wp2_with fail;all_goals go_meet
   all_goals refine⟨_,_,rfl,rfl,rfl,rA ?_⟩
   all_goals (intro h;unfold vH;omega)
  have d1:(op==(1:Int))=false:=by simpa using h1
  by_cases h2:op=2
  ·subst h2
   go_wp2_with fail;all_goals go_meet
   all_goals refine⟨_,_,rfl,rfl,rfl,rA ?_⟩
   all_goals (intro h;unfold vH;omega)
  have d2:(op==(2:Int))=false:=by simpa using h2
  by_cases h3:op=3
  ·subst h3
   go_wp2_with fail;all_goals go_meet
   all_goals refine⟨_,_,rfl,rfl,rfl,rA ?_⟩
   all_goals (intro h;unfold vH;omega)
  have d3:(op==(3:Int))=false:=by simpa using h3
  by_cases h4:op=4
  ·subst h4
   go_wp2_with fail;all_goals go_meet
   all_goals refine⟨_,_,rfl,rfl,rfl,rA ?_⟩
   all_goals (intro h;unfold vH;omega)
  have d4:(op==(4:Int))=false:=by simpa using h4
  by_cases h8:op=8
  ·subst h8
   go_wp2_with fail;all_goals go_meet
   all_goals refine⟨_,_,rfl,rfl,rfl,rA ?_⟩
   all_goals (intro h;unfold vH;omega)
  have d8:(op==(8:Int))=false:=by simpa using h8
  by_cases h5:op=5
  ·subst h5
   go_wp2_with fail;all_goals go_meet
   all_goals refine⟨_,_,rfl,rfl,rfl,rA ?_⟩
   all_goals (intro h;unfold vH;omega)
  have d5:(op==(5:Int))=false:=by simpa using h5
  by_cases h6:op=6
  ·subst h6
   go_wp2_with fail;all_goals go_meet
   all_goals refine⟨_,_,rfl,rfl,rfl,rA ?_⟩
   all_goals (intro h;unfold vH;omega)
  have d6:(op==(6:Int))=false:=by simpa using h6
  by_cases h9:op=9
  ·subst h9
   go_wp2_with fail;all_goals go_meet
   all_goals refine⟨_,_,rfl,rfl,rfl,rA ?_⟩
   all_goals (intro h;unfold vH;omega)
  have d9:(op==(9:Int))=false:=by simpa using h9
  by_cases h10:op=10
  ·subst h10
   go_wp2_with fail;all_goals go_meet
   all_goals refine⟨_,_,rfl,rfl,rfl,rA ?_⟩
   all_goals (intro h;unfold vH;omega)
  have d10:(op==(10:Int))=false:=by simpa using h10
  by_cases h15:op=15
  ·subst h15
   go_wp2_with fail;all_goals go_meet
   all_goals refine⟨_,_,rfl,rfl,rfl,rA ?_⟩
   all_goals (intro h;unfold vH;omega)
  have d15:(op==(15:Int))=false:=by simpa using h15
  by_cases h16:op=16
  ·subst h16
   go_wp2_with fail;all_goals go_meet
   all_goals refine⟨_,_,rfl,rfl,rfl,rA ?_⟩
   all_goals (intro h;unfold vH;omega)
  have d16:(op==(16:Int))=false:=by simpa using h16
  by_cases h17:op=17
  ·subst h17
   go_wp2_with fail;all_goals go_meet
   all_goals refine⟨_,_,rfl,rfl,rfl,rA ?_⟩
   all_goals (intro h;unfold vH;omega)
  have d17:(op==(17:Int))=false:=by simpa using h17
  go_wp2_with fail;go_ret;exact HF.out
 case rest=>
  obtain⟨mi,ai,rfl,rfl,hwx,HNA⟩:=hcut;rw[hwx];clear hwx;by_cases hv0:v<0
  ·have hd:=dT hv0
   go_wp2_with fail;go_ret;exact HF.out
  have hd:=dF hv0
  by_cases hvm:mi<v
  ·have hdm:=dT hvm
   go_wp2_with fail;go_ret;exact HF.out
  have hdm:=dF hvm
  by_cases hla:(ar.len:Int)=ai;rotate_left
  ·have hdl:((ar.len:Int) !=ai)=true:=by rw[bne_iff_ne];exact hla
   go_wp2_with fail;go_ret;exact HF.out
  have hdl:((ar.len:Int) !=ai)=false:=by rw[bne_eq_false_iff_eq];exact hla
  have HNR:=rA (HNA.out hla.symm);clear hla;by_cases ho3:op=3
  ·subst ho3
   have HQ:=rA (fun W=>zH7 HNM.out W);go_wp2_with fail;refine(HQ.out _).mono ?_;rintro e w' ⟨b,rfl,hw'⟩;rw[hw'];clear hw';cases b with
   |false=>
    go_wp2_with fail;go_ret;exact HF.out
   |true=>
    go_wp2_with fail;go_loopw [74] (fun i wr=>∃k:Nat,k<=ar.len/\i=jI kQ k/\Hid (Gr w wr/\Gr w1 wr/\(ArL (ar.drop k)->ArL ar))) (fun i _=>ar.len - (intOf i).toNat)
    case atStart=>exact⟨0,rF _,rfl,rA ⟨HG.out,Gr.refl _,fun h=>by cases ar<;>exact h⟩⟩
    case round=>
     obtain⟨k,hk,rfl,HR⟩:=hrel;have z0:=HS.out _ HR.out.2.1;clear s0 s1 s2 s3 s4;by_cases hlt:k<ar.len;rotate_left
     ·have hd:=dF hlt
      have HT:Hid (ArL ar):=rA (HR.out.2.2 (by rw[Fs.drop_end (by omega)];trivial));go_wp2_with fail;go_ret;exact⟨true,rfl,fun _=>⟨HNR.out,HT.out⟩,HR.out.1⟩
     have hd:=dT hlt
     obtain⟨b1,o1,y,rfl,hb1,hdy,hyo,hyn,c0,c1,c2,c3,c4⟩:=(HA.out.keep HR.out.2.1.1).elem hlt;have hkl:(k:Int)<(ar.len:Int):=by omega
     have HYO:=rA hyo;have HDY:=rA hdy;have HB2:Hid (∀W,Gr (wr.alloc (.cells y 33)) W->Gr w W/\Gr w1 W/\Gr wr W/\W.cell? ⟨wr.heap.size,0,none⟩=some (jI kQ y.op)/\W.cell? ⟨wr.heap.size,1,none⟩=some (jT y.nm)/\W.cell? ⟨wr.heap.size,2,none⟩=some (jI kQ y.v)/\W.cell? ⟨wr.heap.size,3,none⟩=some (jI kQ y.bd)/\W.cell? ⟨wr.heap.size,4,none⟩=some (jS y.a y.args.len y.c)):=rA fun W hW=>by
      obtain⟨q0,q1,q2,q3,q4⟩:=zBQ wr y;have hl:wr.heap.size<(wr.alloc (.cells y.enc.toArray 33)).heap.size:=by simp
      have hg:=(Gr.alloc wr (.cells y.enc.toArray 33)).trans hW;exact⟨HR.out.1.trans hg,HR.out.2.1.trans hg,hg,(hW.1.cell (p:=⟨wr.heap.size,0,none⟩) hl).trans q0,(hW.1.cell (p:=⟨wr.heap.size,1,none⟩) hl).trans q1,(hW.1.cell (p:=⟨wr.heap.size,2,none⟩) hl).trans q2,(hW.1.cell (p:=⟨wr.heap.size,3,none⟩) hl).trans q3,(hW.1.cell (p:=⟨wr.heap.size,4,none⟩) hl).trans q4⟩
     have HW:Hid (∀A:Obj,Calls rC 376 #[jG y.enc.toArray] (wr.alloc A) (zCT (wr.alloc A) y.ar)):=rA fun A=>HI.out y _ (by have:=HN.out;omega) (Fe.ok_keep hyo (Gr.alloc wr A).1)
     clear hyo hdy hyn;go_wp2_with fail;refine(HW.out _).mono ?_;rintro e w5 ⟨b,rfl,hb,hg5⟩;obtain⟨g5,g51,g5r,q0,q1,q2,q3,q4⟩:=HB2.out _ hg5;have z5:=HS.out _ g51;have HG5:=rA (And.intro g5 (And.intro g51 g5r));have HFB:Hid (∀W,Gr w W->zCT w (vH 3 ar.len/\ArL ar) (jR (jB false)) W):=rA fun W h=>⟨false,rfl,(fun h=>by cases h),h⟩
     clear hg5 g5 g51 g5r HW z0 c0 c1 c2 c3 c4;cases b with
     |false=>
      go_wp2_with fail;go_ret;exact HFB.out _ HG5.out.1
     |true=>
      have HYA:=rA (hb rfl);clear hb;have HNX:Hid (ArL (ar.drop (k+1))->ArL ar):=rA fun h=>HR.out.2.2 (by rw[HDY.out];exact⟨HYA.out.1,HYA.out.2,h⟩)
      clear HR;obtain⟨rb,hrb⟩:∃rb,zEN 3=rb:=⟨_,rfl⟩;have q379:=rA (vT 3);rw[hrb] at q379;clear hrb;go_wp2_with fail;refine(q379.out _).mono ?_;rintro e w6 ⟨rfl,rfl⟩;cases rb with
      |false=>
       go_wp2_with fail;go_roundw
       case rel=>exact⟨k+1,by omega,by go_num,rA ⟨HG5.out.1,HG5.out.2.1,HNX.out⟩⟩
       case measure=>simp[intOf];omega
      |true=>
       have HP:=rA (zAb (Fe.ok_keep HYO.out HG5.out.2.2.1));go_wp2_with fail;refine HP.out.mono ?_;rintro e w7 ⟨rfl,hg7⟩;have HG7:=rA (And.intro (HG5.out.1.trans hg7) (HG5.out.2.1.trans hg7));clear hg7 HP q0 q1 q2 q3 q4 z5;cases y.past with
       |true=>
        go_wp2_with fail;go_roundw
        case rel=>exact⟨k+1,by omega,by go_num,rA ⟨HG7.out.1,HG7.out.2,HNX.out⟩⟩
        case measure=>simp[intOf];omega
       |false=>
        go_wp2_with fail;go_ret;exact HFB.out _ HG7.out.1
  ·have hd3:(op==(3:Int))=false:=by simpa using ho3
   go_wp2_with fail;go_loopw [74] (fun i wr=>∃k:Nat,k<=ar.len/\i=jI kQ k/\Hid (Gr w wr/\Gr w1 wr/\(ArL (ar.drop k)->ArL ar))) (fun i _=>ar.len - (intOf i).toNat)
   case atStart=>exact⟨0,rF _,rfl,rA ⟨HG.out,Gr.refl _,fun h=>by cases ar<;>exact h⟩⟩
   case round=>
    obtain⟨k,hk,rfl,HR⟩:=hrel;have z0:=HS.out _ HR.out.2.1;clear s0 s1 s2 s3 s4;by_cases hlt:k<ar.len;rotate_left
    ·have hd:=dF hlt
     have HT:Hid (ArL ar):=rA (HR.out.2.2 (by rw[Fs.drop_end (by omega)];trivial));go_wp2_with fail;go_ret;exact⟨true,rfl,fun _=>⟨HNR.out,HT.out⟩,HR.out.1⟩
    have hd:=dT hlt
    obtain⟨b1,o1,y,rfl,hb1,hdy,hyo,hyn,c0,c1,c2,c3,c4⟩:=(HA.out.keep HR.out.2.1.1).elem hlt;have hkl:(k:Int)<(ar.len:Int):=by omega
    have HYO:=rA hyo;have HDY:=rA hdy;have HB2:Hid (∀W,Gr (wr.alloc (.cells y 33)) W->Gr w W/\Gr w1 W/\Gr wr W/\W.cell? ⟨wr.heap.size,0,none⟩=some (jI kQ y.op)/\W.cell? ⟨wr.heap.size,1,none⟩=some (jT y.nm)/\W.cell? ⟨wr.heap.size,2,none⟩=some (jI kQ y.v)/\W.cell? ⟨wr.heap.size,3,none⟩=some (jI kQ y.bd)/\W.cell? ⟨wr.heap.size,4,none⟩=some (jS y.a y.args.len y.c)):=rA fun W hW=>by
     obtain⟨q0,q1,q2,q3,q4⟩:=zBQ wr y;have hl:wr.heap.size<(wr.alloc (.cells y.enc.toArray 33)).heap.size:=by simp
     have hg:=(Gr.alloc wr (.cells y.enc.toArray 33)).trans hW;exact⟨HR.out.1.trans hg,HR.out.2.1.trans hg,hg,(hW.1.cell (p:=⟨wr.heap.size,0,none⟩) hl).trans q0,(hW.1.cell (p:=⟨wr.heap.size,1,none⟩) hl).trans q1,(hW.1.cell (p:=⟨wr.heap.size,2,none⟩) hl).trans q2,(hW.1.cell (p:=⟨wr.heap.size,3,none⟩) hl).trans q3,(hW.1.cell (p:=⟨wr.heap.size,4,none⟩) hl).trans q4⟩
    have HW:Hid (∀A:Obj,Calls rC 376 #[jG y.enc.toArray] (wr.alloc A) (zCT (wr.alloc A) y.ar)):=rA fun A=>HI.out y _ (by have:=HN.out;omega) (Fe.ok_keep hyo (Gr.alloc wr A).1)
    clear hyo hdy hyn;go_wp2_with fail;refine(HW.out _).mono ?_;rintro e w5 ⟨b,rfl,hb,hg5⟩;obtain⟨g5,g51,g5r,q0,q1,q2,q3,q4⟩:=HB2.out _ hg5;have z5:=HS.out _ g51;have HG5:=rA (And.intro g5 (And.intro g51 g5r));have HFB:Hid (∀W,Gr w W->zCT w (vH op ar.len/\ArL ar) (jR (jB false)) W):=rA fun W h=>⟨false,rfl,(fun h=>by cases h),h⟩
    clear hg5 g5 g51 g5r HW z0 c0 c1 c2 c3 c4;cases b with
    |false=>
     go_wp2_with fail;go_ret;exact HFB.out _ HG5.out.1
    |true=>
     have HYA:=rA (hb rfl);clear hb;have HNX:Hid (ArL (ar.drop (k+1))->ArL ar):=rA fun h=>HR.out.2.2 (by rw[HDY.out];exact⟨HYA.out.1,HYA.out.2,h⟩)
     clear HR;by_cases ho4:op=4
     ·subst ho4
      by_cases hy3:y.op=3
      ·have hdy3:(y.op !=(3:Int))=false:=by rw[bne_eq_false_iff_eq];exact hy3
       clear hy3;obtain⟨rb,hrb⟩:∃rb,zEN 4=rb:=⟨_,rfl⟩;have q379:=rA (vT 4);rw[hrb] at q379;clear hrb;go_wp2_with fail;refine(q379.out _).mono ?_;rintro e w6 ⟨rfl,rfl⟩;cases rb with
       |false=>
        go_wp2_with fail;go_roundw
        case rel=>exact⟨k+1,by omega,by go_num,rA ⟨HG5.out.1,HG5.out.2.1,HNX.out⟩⟩
        case measure=>simp[intOf];omega
       |true=>
        have HP:=rA (zAb (Fe.ok_keep HYO.out HG5.out.2.2.1));go_wp2_with fail;refine HP.out.mono ?_;rintro e w7 ⟨rfl,hg7⟩;have HG7:=rA (And.intro (HG5.out.1.trans hg7) (HG5.out.2.1.trans hg7));clear hg7 HP q0 q1 q2 q3 q4 z5;cases y.past with
        |true=>
         go_wp2_with fail;go_roundw
         case rel=>exact⟨k+1,by omega,by go_num,rA ⟨HG7.out.1,HG7.out.2,HNX.out⟩⟩
         case measure=>simp[intOf];omega
        |false=>
         go_wp2_with fail;go_ret;exact HFB.out _ HG7.out.1
      ·have hdy3:(y.op !=(3:Int))=true:=by rw[bne_iff_ne];exact hy3
       clear hy3;go_wp2_with fail;go_ret;exact HFB.out _ HG5.out.1
     ·have hd4:(op==(4:Int))=false:=by simpa using ho4
      obtain⟨rb,hrb⟩:∃rb,zEN op=rb:=⟨_,rfl⟩;have q379:=rA (vT op);rw[hrb] at q379;clear hrb;go_wp2_with fail;refine(q379.out _).mono ?_;rintro e w6 ⟨rfl,rfl⟩;cases rb with
      |false=>
       go_wp2_with fail;go_roundw
       case rel=>exact⟨k+1,by omega,by go_num,rA ⟨HG5.out.1,HG5.out.2.1,HNX.out⟩⟩
       case measure=>simp[intOf];omega
      |true=>
       have HP:=rA (zAb (Fe.ok_keep HYO.out HG5.out.2.2.1));go_wp2_with fail;refine HP.out.mono ?_;rintro e w7 ⟨rfl,hg7⟩;have HG7:=rA (And.intro (HG5.out.1.trans hg7) (HG5.out.2.1.trans hg7));clear hg7 HP q0 q1 q2 q3 q4 z5;cases y.past with
       |true=>
        go_wp2_with fail;go_roundw
        case rel=>exact⟨k+1,by omega,by go_num,rA ⟨HG7.out.1,HG7.out.2,HNX.out⟩⟩
        case measure=>simp[intOf];omega
       |false=>
        go_wp2_with fail;go_ret;exact HFB.out _ HG7.out.1
theorem zQh:∀n,zQR n
 |0=>fun _ _ h=>absurd h (rH _)
 |n+1=>fun x w h hx=>zPL (zQh n) x w (Nat.lt_succ_iff.1 h) hx
theorem zK7 (hx:x.ok w):Calls rC 376 #[jG x.enc.toArray] w (zCT w x.ar):=zQh _ x w (rG _) hx
theorem zEJ (hm:x.args.nodes<=1000000000) (hx:x.ok w):Calls rC 364 #[jG x.enc.toArray] w (zCT w (x.ar/\x.args.nodes+1<=400)):=by
 have hg:=Gr.alloc w (.cells x.enc.toArray 33);have HX:=rA hx;have HB:Hid (∀W,Gr (w.alloc (.cells x.enc.toArray 33)) W->Gr w W/\x.ok W/\W.cell? ⟨w.heap.size,0,none⟩=some (jI kQ x.op)/\W.cell? ⟨w.heap.size,1,none⟩=some (jT x.nm)/\W.cell? ⟨w.heap.size,2,none⟩=some (jI kQ x.v)/\W.cell? ⟨w.heap.size,3,none⟩=some (jI kQ x.bd)/\W.cell? ⟨w.heap.size,4,none⟩=some (jS x.a x.args.len x.c)):=rA fun W hW=>by
  obtain⟨q0,q1,q2,q3,q4⟩:=zBQ w x;have hl:w.heap.size<(w.alloc (.cells x.enc.toArray 33)).heap.size:=by simp
  have hg:=(Gr.alloc w (.cells x.enc.toArray 33)).trans hW;exact⟨hg,Fe.ok_keep HX.out hg.1,(hW.1.cell (p:=⟨w.heap.size,0,none⟩) hl).trans q0,(hW.1.cell (p:=⟨w.heap.size,1,none⟩) hl).trans q1,(hW.1.cell (p:=⟨w.heap.size,2,none⟩) hl).trans q2,(hW.1.cell (p:=⟨w.heap.size,3,none⟩) hl).trans q3,(hW.1.cell (p:=⟨w.heap.size,4,none⟩) hl).trans q4⟩
 clear hg hx;show Calls rC 364 #[jG x] w _;go_enter Tryz.func364,Tryz.ntmps364;go_upto_region 1 with fail;have HB':Hid (∀W,Gr (w.alloc (.cells x 33)) W->Gr w W/\x.ok W/\W.cell? ⟨w.heap.size,0,none⟩=some (jI kQ x.op)/\W.cell? ⟨w.heap.size,1,none⟩=some (jT x.nm)/\W.cell? ⟨w.heap.size,2,none⟩=some (jI kQ x.v)/\W.cell? ⟨w.heap.size,3,none⟩=some (jI kQ x.bd)/\W.cell? ⟨w.heap.size,4,none⟩=some (jS x.a x.args.len x.c)):=HB;clear HB;generalize w.alloc _=w1 at*;have HF:Hid (∀W,Gr w W->zCT w (x.ar/\x.args.nodes+1<=400) (jR (jB false)) W):=rA fun W h=>⟨false,rfl,(fun h=>by cases h),h⟩
 obtain⟨g1,k1,q0,q1,q2,q3,q4⟩:=HB'.out _ (Gr.refl _);have HC:=rA (zPt hm k1);clear g1 k1;go_wp2_with fail;refine HC.out.mono ?_;rintro e w2 ⟨rfl,h2⟩;clear HC q0 q1 q2 q3 q4;have H2:=rA h2;obtain⟨g2,k2,q0,q1,q2,q3,q4⟩:=HB'.out _ h2;have HG2:=rA g2;have HC:=rA (zNQ k2);clear g2 k2 h2;by_cases hs:x.args.nodes+1<=400;rotate_left
 ·have hd:decide (((x.args.nodes+1:Nat):Int)<=400)=false:=by rw[decide_eq_false_iff_not];omega
  have hd':decide ((x.args.nodes:Int)+1<=400)=false:=by rw[decide_eq_false_iff_not];omega
  go_wp2_with fail;go_ret;exact HF.out _ HG2.out
 have hd:decide (((x.args.nodes+1:Nat):Int)<=400)=true:=by rw[decide_eq_true_iff];omega
 have hd':decide ((x.args.nodes:Int)+1<=400)=true:=by rw[decide_eq_true_iff];omega
 have HS:=rA hs;clear hs;go_wp2_with fail;refine HC.out.mono ?_;rintro e w3 ⟨d,rfl,h3⟩;clear HC q0 q1 q2 q3 q4;obtain⟨g3,k3,q0,q1,q2,q3,q4⟩:=HB'.out _ (H2.out.trans h3);have HG3:=rA g3;have HC:=rA (zK7 k3);clear g3 k3 h3;by_cases hdd:d<=60;rotate_left
 ·have hd6:=dF hdd
  go_wp2_with fail;go_ret;exact HF.out _ HG3.out
 have hd6:=dT hdd
 go_wp2_with fail;refine HC.out.mono ?_;rintro e w4 ⟨b,rfl,hb,h4⟩;have HB4:=rA hb;have HG4:=rA (HG3.out.trans h4);clear hb h4 HC q0 q1 q2 q3 q4;go_wp2_with fail;go_ret;exact⟨b,rfl,fun h=>⟨HB4.out h,HS.out⟩,HG4.out⟩
def KBool (a:Value):Prop:=∃b,a=jB b
theorem Gr.turned {w W W':World} {mb:Nat} (h:Gr w W) (ht:W.mapTurned W' mb) (hm:w.heap.size<=mb):Gr w W':=by
 have hF:=(Fr.of_below (p:=fun _=>false) h.1).turned ht (.inr hm);refine⟨⟨hF.os,hF.tape,hF.output,hF.size,fun k hk=>hF.block k hk rfl⟩,?_⟩;obtain⟨_,_,_,_,_,rfl⟩:=ht;exact h.2
theorem AMap.gr {W:World}{K V:Value->Prop} (h:AMap w mb K V) (hg:Gr w W):AMap W mb K V:=h.of_block (hg.1.block _ h.lt)
def SgW (l:List Sg):Prop:=1<=l.length/\l.length<=6/\∀j (h:j<l.length),2<=l[j].size/\l[j].size<=4
theorem SgV.at {w:World} {a:Option Addr} {c:Nat} {l:List Sg} (h:SgV w (jS a l.length c) l) {j:Nat} (hj:j<l.length):∃b o,a=some ⟨b,o,none⟩/\w.cell? ⟨b,o+j*3,none⟩=some (jT l[j].name)/\w.cell? ⟨b,o+j*3+1,none⟩=some (jB l[j].input)/\w.cell? ⟨b,o+j*3+2,none⟩=some (jI kQ l[j].size)/\l[j].name.size<=9223372036854775807:=by
 obtain⟨a',c',e,_,h⟩:=h;simp only[Value.slice.injEq,true_and] at e;obtain⟨rfl,rfl⟩:=e;obtain⟨b,o,e,_,hc⟩:=h (fun e=>by rw[e] at hj;simp at hj);exact⟨b,o,e,hc j hj⟩
theorem SgV.len {v:Value} (h:SgV w v l):l.length<=9223372036854775807:=by
 obtain⟨_,_,_,h,_⟩:=h;exact h
theorem zSS (w:World):(zeroValue 4).run rC w=.ok (jB false) w:=Tryz.zeroValue4 w
theorem AMap.look429 (h:AMap w mb KStr KBool) (x:ByteArray):∃y:Bool,∀n:Nat,(Instr.lookup 429 (.map (some mb)) (jT x) false).run rC (w.drewN n)=.ok (jB y) (w.drewN n):=by
 obtain⟨v,b,h1,h2⟩:=h.look zQP Tryz.underlying429 zSS (show KStr (jT x) from⟨x,rfl⟩);obtain⟨y,rfl⟩:∃y,v=jB y:=by
  rcases h2 with⟨_,y,rfl⟩|⟨_,rfl⟩
  ·exact⟨y,rfl⟩
  ·exact⟨false,rfl⟩
 exact⟨y,fun n=>h1 false n⟩
theorem zCG {c:Nat} (h:SgV w (jS a l.length c) l):Calls rC 363 #[jS a l.length c] w (zCT w (SgW l)):=by
 have hlen:=h.len;have H:=rA h;have HF:Hid (∀W,Gr w W->zCT w (SgW l) (jR (jB false)) W):=rA fun W h=>⟨false,rfl,(fun h=>by cases h),h⟩
 clear h;by_cases h1:l.length<1
 ·have hd:decide ((l.length:Int)<1)=true:=by rw[decide_eq_true_iff];omega
  have hd':decide (l.length<1)=true:=by rw[decide_eq_true_iff];omega
  go_enter Tryz.func363,Tryz.ntmps363;go_wp2_with fail;go_ret;exact HF.out _ (Gr.refl _)
 have hd:decide ((l.length:Int)<1)=false:=by rw[decide_eq_false_iff_not];omega
 have hd':decide (l.length<1)=false:=by rw[decide_eq_false_iff_not];omega
 by_cases h6:6<l.length
 ·have hd6:decide ((6:Int)<(l.length:Int))=true:=by rw[decide_eq_true_iff];omega
  have hd6':decide (6<l.length)=true:=by rw[decide_eq_true_iff];omega
  go_enter Tryz.func363,Tryz.ntmps363;go_wp2_with fail;go_ret;exact HF.out _ (Gr.refl _)
 have hd6:decide ((6:Int)<(l.length:Int))=false:=by rw[decide_eq_false_iff_not];omega
 have hd6':decide (6<l.length)=false:=by rw[decide_eq_false_iff_not];omega
 have hmm:=xK 429;go_enter Tryz.func363,Tryz.ntmps363;go_upto_region 5 with fail;clear hmm;have HM:Hid (AMap (w.alloc (.map #[] 0)) w.heap.size KStr KBool):=rA (AMap.made _ _ _);have HG:=rA (Gr.alloc w (.map #[] 0));generalize w.alloc (.map #[] 0)=w1 at*;go_wp2_with fail;go_loopw [3,18] (fun t i wr=>∃(k:Nat) (p:Int),k<=l.length/\i=jI kQ k/\t=jI kQ p/\Hid (Gr w wr/\AMap wr w.heap.size KStr KBool/\∀j (h:j<l.length),j<k->2<=l[j].size/\l[j].size<=4)) (fun _ i _=>l.length - (intOf i).toNat)
 case atStart=>exact⟨0,1,rF _,rfl,rfl,rA ⟨HG.out,HM.out,fun j _ hj=>by omega⟩⟩
 case round=>
  obtain⟨k,p,hk,rfl,rfl,HR⟩:=hrel;by_cases hlt:k<l.length;rotate_left
  ·have hdk:=dF hlt
   have HT:Hid (SgW l):=rA ⟨by omega,by omega,fun j hj=>HR.out.2.2 j hj (by omega)⟩;go_wp2_with fail;go_ret;exact⟨_,rfl,fun _=>HT.out,HR.out.1⟩
  have hdk:=dT hlt
  obtain⟨b,o,rfl,c0,c1,c2,hns⟩:=(H.out.keep HR.out.1.1).at hlt;have hkl:(k:Int)<(l.length:Int):=by omega
  have HQ:=rA (fun W=>zH7 hns W);have HNX:Hid (2<=l[k].size->l[k].size<=4->∀j (h:j<l.length),j<k+1->2<=l[j].size/\l[j].size<=4):=rA fun h1 h2 j h hj=>by
   by_cases e:j=k
   ·subst e;exact⟨h1,h2⟩
   ·exact HR.out.2.2 j h (by omega)
  have HG1:=rA HR.out.1;have HM1:=rA HR.out.2.1;clear HR;generalize l[k]=s at*;obtain⟨nm,inp,sz⟩:=s;dsimp only at*;have HA:Hid (∀o:Obj,AMap (wr.alloc o) w.heap.size KStr KBool/\Gr w (wr.alloc o)):=rA fun o=>⟨HM1.out.gr (Gr.alloc _ _),HG1.out.trans (Gr.alloc _ _)⟩
  obtain⟨y,hy⟩:=(HA.out (.cells #[jT nm,jB inp,jI kQ sz] 68)).1.look429 nm;have hlk:=hy 0;simp only[show∀W:World,W.drewN 0=W from fun _=>rfl] at hlk;clear hns hy;go_wp2_with fail;refine(HQ.out _).mono ?_;rintro e w' ⟨q,rfl,hw'⟩;rw[hw'];clear hw';cases q with
  |false=>
   go_wp2_with fail;go_ret;exact HF.out _ (HA.out _).2
  |true=>
   cases y with
   |true=>
    go_wp2_with fail;go_ret;exact HF.out _ (HA.out _).2
   |false=>
    by_cases hs2:sz<2
    ·have hds:=dT hs2
     go_wp2_with fail;go_ret;exact HF.out _ (HA.out _).2
    have hds:=dF hs2
    by_cases hs4:4<sz
    ·have hds4:=dT hs4
     go_wp2_with fail;go_ret;exact HF.out _ (HA.out _).2
    have hds4:=dF hs4
    have HNY:=rA (HNX.out (by omega) (by omega));clear hs2 hs4;go_wp2_with (first|(refine zDV (HA.out _).1 zQP Tryz.underlying429 (show KStr (jT nm) from⟨_,rfl⟩) (show KBool (jB true) from⟨_,rfl⟩) rfl (.tmp 42) (.tmp 44) (.const (jB true)) rfl rfl rfl rfl ?_));intro w5 hA5 ht5;have HG5:=rA (And.intro ((HA.out _).2.turned ht5 (rI _)) hA5);have s2:w5.cell? ⟨wr.heap.size,2,none⟩=some (jI kQ sz):=(World.cell?_of_block (zT ht5 (by show wr.heap.size≠w.heap.size;have:=HM1.out.lt;omega))).trans (zI wr #[jT nm,jB inp,jI kQ sz] 68 2);clear hA5 ht5 hlk;go_wp2_with fail;go_roundw
    case rel=>exact⟨k+1,_,by omega,by go_num,rfl,rA ⟨HG5.out.1,HG5.out.2,HNY.out⟩⟩
    case measure=>simp[intOf];omega
