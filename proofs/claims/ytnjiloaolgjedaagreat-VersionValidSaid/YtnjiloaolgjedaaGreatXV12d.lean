/- The law VersionValid holds for every input: a part of its proof (what the code does, plain models, and what they return). No condition. -/
import Derived.Test.YtnjiloaolgjedaaGreatXV12c
import Derived.Test.YtnjiloaolgjedaaGreatXV12b
import Derived.Test.YtnjiloaolgjedaaGreatXV12a
import Derived.RangeFuncGives
import Derived.RangeFuncIn
import Derived.RangeFuncLeaves
import Derived.Maps.RangeRun
import Derived.TacticsIn
import Derived.OwnWalkIn
import Derived.DeepKeys4
import Derived.Shelf.SlGeneric
import Derived.Shelf.SlLaysF0
import Derived.Ground.SlsfProg
import Derived.Test.YtnjiloaolgjedaaGreatProg
set_option linter.unusedVariables false
set_option linter.unusedSimpArgs false
namespace Go.EL
open Go.IntKind (i8 i16 i32 i64 u8 u16 u32 u64)
open Go Go.RowKit
theorem ZmE{s:Za}(h:Good s){e:Zc}(hp:PolOk e.p)(hk:e.kind=5):(Zaa s e).Ret (if checkF s e=0 then (addE s e,0) else (zeroS,checkF s e)):=by
 have hv:=h.vars
 have he:=h.eqs.len
 have hn:=h.neqs.len
 refine⟨_,ZaQ h hp,?_⟩
 by_cases hc:checkF s e=0
 .obtain⟨k1,k2,k3,k4,k5,k6,k7⟩:=check5 hk hc
  have hb:numE s e<1000000/\0<=numE s e:=by
   have:=h.next
   unfold numE
   split
   .rename_i hz; have:=k6 hz; omega
   omega
  rw[if_pos hc,Cq.Zd,if_neg (fun hh=>hh hc)]
  refine⟨by simp[small]; omega,?_⟩
  rw[Cq.Zd,if_neg (by omega),Cq.Zd,if_neg (by omega),Cq.Zd,if_neg (by omega),Cq.Zd,if_neg (by omega)]
  refine⟨addE s e,?_,rfl⟩
  refine⟨_,ZaJ (by omega) _,_,ZaJ (by omega) _,?_⟩
  rw[Cq.Zd,if_pos hk]
  have hk1:(ZaE s e (Zb.mk (numE s e) e.p)).wp fun a=>a=addE s e:=by
   unfold ZaE
   rw[Cq.Zd]
   cases hq:e.neq with
   | true=>
    rw[if_pos rfl]
    refine⟨_,Zej (by omega) h.neqs.inc _,?_⟩
    show _=_
    unfold addE
    rw[hq,wrap64 (x:=numE s e+1) (by omega)]
    rfl
   | false=>
    rw[if_neg (by decide)]
    refine⟨_,Zej (by omega) h.eqs.inc _,?_⟩
    show _=_
    unfold addE
    rw[hq,wrap64 (x:=numE s e+1) (by omega)]
    rfl
  rw[Cq.Zd]
  unfold numE at hk1
  by_cases hz:e.id=0
  .rw[if_pos hz]; rw[if_pos hz] at hk1; exact hk1
  rw[if_neg hz]; rw[if_neg hz] at hk1; exact hk1
 rw[if_neg hc,Cq.Zd,if_pos hc]
 rfl
theorem ZmF{s:Za}(h:Good s){e:Zc}(hp:PolOk e.p)(hk:e.kind=6):(Zaa s e).Ret (if checkF s e=0 then (dropE s e.id,0) else (zeroS,checkF s e)):=by
 have hv:=h.vars
 have he:=h.eqs.len
 have hn:=h.neqs.len
 refine⟨_,ZaQ h hp,?_⟩
 by_cases hc:checkF s e=0
 .rw[if_pos hc,Cq.Zd,if_neg (fun hh=>hh hc)]
  refine⟨by simp[small]; omega,?_⟩
  rw[Cq.Zd,if_neg (by omega),Cq.Zd,if_neg (by omega),Cq.Zd,if_neg (by omega),Cq.Zd,if_neg (by omega)]
  refine⟨dropE s e.id,?_,rfl⟩
  refine⟨_,ZaJ (by omega) _,_,ZaJ (by omega) _,?_⟩
  rw[Cq.Zd,if_neg (by omega),Cq.Zd,if_pos hk]
  exact⟨_,Zgl (by omega) _,_,Zgl (by omega) _,rfl⟩
 rw[if_neg hc,Cq.Zd,if_pos hc]
 rfl
theorem ZhC{id:Int}{p:List Ze}{l:List Zb}(h:∀ q ∈ l,q.id≠id):setL id p l=l:=by
 unfold setL
 refine (List.map_congr_left (g:=fun q=>q) fun q hq=>?_).trans (List.map_id' l)
 rw[if_neg (h q hq)]
theorem ZiK{x:Zb}:∀ {l:List Zb},(l.Pairwise fun a b=>a.id<b.id)->(∃ q ∈ l,q.id=x.id)->putL l x=setL x.id x.p l
 | [],_,⟨q,hq,_⟩=>by cases hq
 | y::l,hi,⟨q,hq,e⟩=>by
  obtain⟨h1,h2⟩:=List.pairwise_cons.1 hi
  by_cases hy:y.id=x.id
  .have hn:∀ z ∈ l,z.id≠x.id:=fun z hz=>by have:=h1 z hz; omega
   have hs:setL x.id x.p (y::l)=x::setL x.id x.p l:=by
    show (if y.id=x.id then (⟨y.id,x.p⟩:Zb) else y)::_=_
    rw[if_pos hy,hy]; rfl
   rw[hs,ZhC hn]
   unfold putL
   rw[filter_none (l:=y::l) (p:=fun q=>decide (q.id<x.id)) (fun z hz=>decide_eq_false (by
    rcases List.mem_cons.1 hz with rfl|hz
    .omega
    have:=h1 z hz; omega)),List.nil_append,List.filter_cons_of_neg (by simp; omega),filter_all (l:=l) (fun z hz=>decide_eq_true (by have:=h1 z hz; omega))]
  have hq2:q ∈ l:=by
   rcases List.mem_cons.1 hq with rfl|hq
   .exact absurd e hy
   exact hq
  have hlt:y.id<x.id:=by have:=h1 q hq2; omega
  have ih:=ZiK h2 ⟨q,hq2,e⟩
  have hs:setL x.id x.p (y::l)=y::setL x.id x.p l:=by
   show (if y.id=x.id then (⟨y.id,x.p⟩:Zb) else y)::_=_
   rw[if_neg hy]; rfl
  rw[hs,<- ih]
  unfold putL
  rw[List.filter_cons_of_pos (by simpa using hlt),List.filter_cons_of_neg (by simp; omega)]
  rfl
theorem Zaq{l:List Zb}{id:Int}(h:∀ q ∈ l,q.id≠id):dropL l id=l:=filter_all fun q hq=>decide_eq_true (h q hq)
theorem ZjI{s:Za}(h:Good s){id:Int}(h1:0<=findI s.eqs id):∃ j q,findQ s.eqs id=some q/\findI s.eqs id=((j:Nat):Int)/\s.eqs[j]? = some q/\q ∈ s.eqs/\q.id=id/\findQ s.neqs id=none/\∀ z ∈ s.neqs,z.id≠id:=by
 rcases ZaV s.eqs id with ⟨_,h2⟩|⟨j,q,h2,h3,h4⟩
 .omega
 obtain⟨h5,h6⟩:=Zab h2
 have hno:∀ z ∈ s.neqs,z.id≠id:=fun z hz e=>h.apart q h5 z hz (by omega)
 refine⟨j,q,h2,h3,h4,h5,h6,?_,hno⟩
 cases hb:findQ s.neqs id with
 | none=>rfl
 | some z=>exact absurd (Zab hb).2 (hno z (Zab hb).1)
theorem ZiF{s:Za}{id:Int}(h0:hasB s id=true)(h1:¬ 0<=findI s.eqs id):findQ s.eqs id=none/\findI s.eqs id = -1/\(∀ z ∈ s.eqs,z.id≠id)/\∃ j q,findQ s.neqs id=some q/\findI s.neqs id=((j:Nat):Int)/\s.neqs[j]? = some q/\q ∈ s.neqs/\q.id=id:=by
 rcases ZaV s.eqs id with ⟨h2,h3⟩|⟨j,q,h2,h3,h4⟩
 .refine⟨h2,h3,Zeb h2,?_⟩
  rcases ZaV s.neqs id with ⟨h4,h5⟩|⟨j,q,h4,h5,h6⟩
  .unfold hasB at h0
   rw[h3,h5] at h0
   exact absurd h0 (by decide)
  exact⟨j,q,h4,h5,h6,(Zab h4).1,(Zab h4).2⟩
 omega
theorem check78{s:Za}{e:Zc}(hk:e.kind=6\/e.kind=7\/e.kind=8)(hc:checkF s e=0):hasB s e.id=true:=by
 rw[check678 hk] at hc
 unfold idC at hc
 cases hb:hasB s e.id with
 | true=>rfl
 | false=>rw[hb,if_pos rfl] at hc; exact absurd hc (by decide)
theorem ZmG{s:Za}(h:Good s){e:Zc}(hp:PolOk e.p)(hk:e.kind=7):(Zaa s e).Ret (if checkF s e=0 then (setE s e,0) else (zeroS,checkF s e)):=by
 have hv:=h.vars
 have he:=h.eqs.len
 have hn:=h.neqs.len
 refine⟨_,ZaQ h hp,?_⟩
 by_cases hc:checkF s e=0
 .rw[if_pos hc,Cq.Zd,if_neg (fun hh=>hh hc)]
  refine⟨by simp[small]; omega,?_⟩
  rw[Cq.Zd,if_neg (by omega),Cq.Zd,if_neg (by omega),Cq.Zd,if_neg (by omega),Cq.Zd,if_neg (by omega)]
  refine⟨setE s e,?_,rfl⟩
  refine⟨_,ZaJ (by omega) _,_,ZaJ (by omega) _,?_⟩
  rw[Cq.Zd,if_neg (by omega),Cq.Zd,if_neg (by omega),Cq.Zd,if_pos hk,Cq.Zd]
  have hb:=check78 (.inr (.inl hk)) hc
  by_cases hf:0<=findI s.eqs e.id
  .obtain⟨j,q,_,_,_,h5,h6,_,h8⟩:=ZjI h hf
   rw[if_pos hf]
   refine⟨_,Zej (by omega) h.eqs.inc _,?_⟩
   show _=_
   unfold setE
   rw[ZiK h.eqs.inc ⟨q,h5,h6⟩,ZhC h8]
  obtain⟨_,_,h3,j,q,_,_,_,h5,h6⟩:=ZiF hb hf
  rw[if_neg hf]
  refine⟨_,Zej (by omega) h.neqs.inc _,?_⟩
  show _=_
  unfold setE
  rw[ZiK h.neqs.inc ⟨q,h5,h6⟩,ZhC h3]
 rw[if_neg hc,Cq.Zd,if_pos hc]
 rfl
theorem ZmH{s:Za}(h:Good s){e:Zc}(hp:PolOk e.p)(hk:e.kind=8):(Zaa s e).Ret (if checkF s e=0 then (flipE s e.id,0) else (zeroS,checkF s e)):=by
 have hv:=h.vars
 have he:=h.eqs.len
 have hn:=h.neqs.len
 refine⟨_,ZaQ h hp,?_⟩
 by_cases hc:checkF s e=0
 .rw[if_pos hc,Cq.Zd,if_neg (fun hh=>hh hc)]
  refine⟨by simp[small]; omega,?_⟩
  rw[Cq.Zd,if_neg (by omega),Cq.Zd,if_neg (by omega),Cq.Zd,if_neg (by omega),Cq.Zd,if_neg (by omega)]
  refine⟨flipE s e.id,?_,rfl⟩
  refine⟨_,ZaJ (by omega) _,_,ZaJ (by omega) _,?_⟩
  rw[Cq.Zd,if_neg (by omega),Cq.Zd,if_neg (by omega),Cq.Zd,if_neg (by omega),Cq.Zd,if_pos hk]
  refine⟨_,Zgl (by omega) _,_,Zgl (by omega) _,?_⟩
  rw[Cq.Zd]
  have hb:=check78 (.inr (.inr hk)) hc
  by_cases hf:0<=findI s.eqs e.id
  .obtain⟨j,q,h1,h2,h3,h5,h6,h7,h8⟩:=ZjI h hf
   rw[if_pos hf,h2]
   refine⟨q,⟨by omega,h3⟩,_,Zej (by omega) h.neqs.inc _,?_⟩
   show _=_
   unfold flipE findE
   rw[h1]
   unfold insS dropE
   rw[if_pos (by rfl)]
   simp only
   rw[Zaq h8]
  obtain⟨h1,h2,h3,j,q,h4,h7,h8,h5,h6⟩:=ZiF hb hf
  rw[if_neg hf,h7]
  refine⟨q,⟨by omega,h8⟩,_,Zej (by omega) h.eqs.inc _,?_⟩
  show _=_
  unfold flipE findE
  rw[h1,h4]
  unfold insS dropE
  rw[if_neg (show ¬ (!true)=true by decide)]
  simp only
  rw[Zgj h2]
 rw[if_neg hc,Cq.Zd,if_pos hc]
 rfl
end Go.EL

namespace Go.EL
open Go.IntKind (i8 i16 i32 i64 u8 u16 u32 u64)
open Go Go.RowKit
def doF(s:Za)(e:Zc):Za:=
 if e.kind=1 then addV s e else if e.kind=2 then dropV s e else if e.kind=3 then renV s e else if e.kind=4 then swpV s e
 else if e.kind=5 then addE s e else if e.kind=6 then dropE s e.id else if e.kind=7 then setE s e else flipE s e.id
def applyF(s:Za)(e:Zc):Za×Int:=if checkF s e=0 then (doF s e,0) else (zeroS,checkF s e)
theorem doF1{s:Za}{e:Zc}(h:e.kind=1):doF s e=addV s e:=if_pos h
theorem doF2{s:Za}{e:Zc}(h:e.kind=2):doF s e=dropV s e:=by unfold doF; rw[if_neg (by omega),if_pos h]
theorem doF3{s:Za}{e:Zc}(h:e.kind=3):doF s e=renV s e:=by unfold doF; rw[if_neg (by omega),if_neg (by omega),if_pos h]
theorem doF4{s:Za}{e:Zc}(h:e.kind=4):doF s e=swpV s e:=by unfold doF; rw[if_neg (by omega),if_neg (by omega),if_neg (by omega),if_pos h]
theorem doF5{s:Za}{e:Zc}(h:e.kind=5):doF s e=addE s e:=by unfold doF; rw[if_neg (by omega),if_neg (by omega),if_neg (by omega),if_neg (by omega),if_pos h]
theorem doF6{s:Za}{e:Zc}(h:e.kind=6):doF s e=dropE s e.id:=by unfold doF; rw[if_neg (by omega),if_neg (by omega),if_neg (by omega),if_neg (by omega),if_neg (by omega),if_pos h]
theorem doF7{s:Za}{e:Zc}(h:e.kind=7):doF s e=setE s e:=by unfold doF; rw[if_neg (by omega),if_neg (by omega),if_neg (by omega),if_neg (by omega),if_neg (by omega),if_neg (by omega),if_pos h]
theorem doF8{s:Za}{e:Zc}(h:e.kind=8):doF s e=flipE s e.id:=by unfold doF; rw[if_neg (by omega),if_neg (by omega),if_neg (by omega),if_neg (by omega),if_neg (by omega),if_neg (by omega),if_neg (by omega)]
theorem Zec{s:Za}{e:Zc}:(e.kind=1\/e.kind=2\/e.kind=3\/e.kind=4\/e.kind=5\/e.kind=6\/e.kind=7\/e.kind=8)\/(¬ (1<=e.kind/\e.kind<=8)/\checkF s e=1):=by
 by_cases h:1<=e.kind/\e.kind<=8
 .exact .inl (by omega)
 refine .inr ⟨h,?_⟩
 unfold checkF
 rw[if_neg (by omega),if_neg (by omega),if_neg (by omega),if_neg (by omega),if_neg (by omega),if_neg (by omega)]
theorem Zbu{s:Za}(h:Good s){e:Zc}(hp:PolOk e.p):(Zaa s e).Ret (applyF s e):=by
 unfold applyF
 rcases Zec (s:=s) (e:=e) with (k|k|k|k|k|k|k|k)|⟨k,hc⟩
 .rw[doF1 k]; exact ZmA h hp k
 .rw[doF2 k]; exact ZmB h hp k
 .rw[doF3 k]; exact ZmC h hp k
 .rw[doF4 k]; exact ZmD h hp k
 .rw[doF5 k]; exact ZmE h hp k
 .rw[doF6 k]; exact ZmF h hp k
 .rw[doF7 k]; exact ZmG h hp k
 .rw[doF8 k]; exact ZmH h hp k
 rw[if_neg (show ¬ checkF s e=0 by omega)]
 refine⟨_,ZaQ h hp,?_⟩
 rw[Cq.Zd,if_pos (by omega)]
 rfl
theorem ZaU{α β:Type}{c:Cq (α×β)}{r:α×β}(h:c.Ret r):(Cq.bind c fun y=>Cq.ret (y.1,y.2)).Ret r:=⟨r,h,rfl⟩
def KindOk(e:Zc):Prop:=-1000<=e.kind/\e.kind<=1000
theorem ZmZ{k:Int}(h:¬ (1<=k/\k<=8)):mget Zu k=none:=by
 unfold Zu
 simp only[mget]
 rw[if_neg (by omega),if_neg (by omega),if_neg (by omega),if_neg (by omega),if_neg (by omega),if_neg (by omega),if_neg (by omega),if_neg (by omega)]
theorem ZaW{k:Int}(h:1<=k/\k<=8):(mget Zu k).isSome=true:=by
 have:k=1\/k=2\/k=3\/k=4\/k=5\/k=6\/k=7\/k=8:=by omega
 rcases this with rfl|rfl|rfl|rfl|rfl|rfl|rfl|rfl <;> rfl
theorem ZgO{s:Za}(h:Good s){e:Zc}(hp:PolOk e.p)(hk:KindOk e):(ZcN s e).Ret (applyF s e):=by
 refine⟨by
  simp only[Lit.wf,Bool.and_eq_true,decide_eq_true_eq]
  exact⟨Int.le_trans (by decide) hk.1,Int.le_trans hk.2 (by decide)⟩,?_⟩
 unfold applyF
 rcases Zec (s:=s) (e:=e) with (k|k|k|k|k|k|k|k)|⟨k,hc⟩
 .rw[Cq.Zd,if_neg (by rw[ZaW (by omega)]; decide),Cq.Zd,if_pos (by omega),doF1 k]
  exact ZaU (ZmR h k)
 .rw[Cq.Zd,if_neg (by rw[ZaW (by omega)]; decide),Cq.Zd,if_neg (by omega),Cq.Zd,if_pos (by omega),doF2 k]
  exact ZaU (Zl4 h k)
 .rw[Cq.Zd,if_neg (by rw[ZaW (by omega)]; decide),Cq.Zd,if_neg (by omega),Cq.Zd,if_neg (by omega),Cq.Zd,if_pos (by omega),doF3 k]
  exact ZaU (Zna h k)
 .rw[Cq.Zd,if_neg (by rw[ZaW (by omega)]; decide),Cq.Zd,if_neg (by omega),Cq.Zd,if_neg (by omega),Cq.Zd,if_neg (by omega),Cq.Zd,if_pos (by omega),doF4 k]
  exact ZaU (ZoS h k)
 .rw[Cq.Zd,if_neg (by rw[ZaW (by omega)]; decide),Cq.Zd,if_neg (by omega),Cq.Zd,if_neg (by omega),Cq.Zd,if_neg (by omega),Cq.Zd,if_neg (by omega),Cq.Zd,if_pos (by omega),doF5 k]
  exact ZaU (Zpa h hp k)
 .rw[Cq.Zd,if_neg (by rw[ZaW (by omega)]; decide),Cq.Zd,if_neg (by omega),Cq.Zd,if_neg (by omega),Cq.Zd,if_neg (by omega),Cq.Zd,if_neg (by omega),Cq.Zd,if_neg (by omega),Cq.Zd,if_pos (by omega),doF6 k]
  exact ZaU (ZkC h k)
 .rw[Cq.Zd,if_neg (by rw[ZaW (by omega)]; decide),Cq.Zd,if_neg (by omega),Cq.Zd,if_neg (by omega),Cq.Zd,if_neg (by omega),Cq.Zd,if_neg (by omega),Cq.Zd,if_neg (by omega),Cq.Zd,if_neg (by omega),Cq.Zd,if_pos (by omega),doF7 k]
  exact ZaU (ZlA h hp k)
 .rw[Cq.Zd,if_neg (by rw[ZaW (by omega)]; decide),Cq.Zd,if_neg (by omega),Cq.Zd,if_neg (by omega),Cq.Zd,if_neg (by omega),Cq.Zd,if_neg (by omega),Cq.Zd,if_neg (by omega),Cq.Zd,if_neg (by omega),Cq.Zd,if_neg (by omega),Cq.Zd,if_pos (by omega),doF8 k]
  exact ZaU (ZoB h k)
 rw[Cq.Zd,if_pos (by rw[ZmZ k]; rfl),if_neg (show ¬ checkF s e=0 by omega),hc]
 rfl
end Go.EL

namespace Go.EL
open Go.IntKind (i8 i16 i32 i64 u8 u16 u32 u64)
open Go Go.RowKit
theorem ZeE(v:ByteArray):∀ (l:List ByteArray) (k:Nat),(v ∉ l/\idxFrom v l k = -1)\/∃ j,idxFrom v l k=((k+j:Nat):Int)/\l[j]? = some v
 | [],_=>.inl ⟨by simp,rfl⟩
 | x::xs,k=>by
  unfold idxFrom
  by_cases h:x=v
  .rw[if_pos h]
   exact .inr ⟨0,by simp,by simp[h]⟩
  rw[if_neg h]
  rcases ZeE v xs (k+1) with ⟨h1,h2⟩|⟨j,h1,h2⟩
  .exact .inl ⟨fun hm=>by
    rcases List.mem_cons.1 hm with e|hm
    .exact h e.symm
    exact h1 hm,h2⟩
  exact .inr ⟨j+1,by rw[h1]; omega,by simpa using h2⟩
theorem ZnL{l:List ByteArray}{v:ByteArray}(h:idxI l v<0):v ∉ l:=by
 rcases ZeE v l 0 with ⟨h1,_⟩|⟨j,h1,_⟩
 .exact h1
 unfold idxI at h; omega
theorem Zp5{l:List ByteArray}{v:ByteArray}{k:Nat}(h:idxI l v=(k:Int)):l[k]? = some v:=by
 rcases ZeE v l 0 with ⟨_,h1⟩|⟨j,h1,h2⟩
 .unfold idxI at h; omega
 unfold idxI at h
 rw[h] at h1
 rw[show k=j by omega]; exact h2
theorem ZiD{π:M}(h:IsPerm π){p:List Ze}(hp:PolOk p){n n':Nat}(hn:n<=8)(hn':n'<=8)(hf:fitB p (n:Int)=true)(hv:∀ i:Fin 8,n'<=i.val->∃ j:Fin 8,(i.val:Int)=π j/\(n<=j.val\/Occurs j p=false)):fitB (permP π p) (n':Int)=true:=by
 obtain⟨h1,h2⟩:=(Zgo hn).1 hf
 refine (Zgo hn').2 ⟨fun t ht i hi=>?_,fun t ht=>?_⟩
 .obtain⟨y,hy,rfl⟩:=List.mem_map.1 ((Zbn h hp.ord).1.mem_iff.1 ht)
  obtain⟨j,hj,hj2⟩:=hv i hi
  show ¬ 0<permM π y.m i
  rw[Zdr h y.m j i hj]
  rcases hj2 with hj2|hj2
  .exact h1 y hy j hj2
  intro hpos
  unfold Occurs at hj2
  have:=List.any_eq_false.1 hj2 y hy
  simp only[decide_eq_true_eq] at this
  exact this hpos
 obtain⟨y,hy,rfl⟩:=List.mem_map.1 ((Zbn h hp.ord).1.mem_iff.1 ht)
 show degM (permM π y.m)<=12
 rw[ZnD h]
 exact h2 y hy
theorem Zhs(π:M)(l:List Zb){q:Zb}(h:q ∈ movedL π l):∃ y ∈ l,y.id=q.id:=by
 obtain⟨y,hy,rfl⟩:=List.mem_map.1 h
 exact⟨y,hy,rfl⟩
theorem Zdp{π:M}(h:IsPerm π){n n':Nat}{next:Int}{l:List Zb}(hl:EqsOk n next l)(hf:∀ q ∈ l,fitB (permP π q.p) (n':Int)=true):EqsOk n' next (movedL π l) where
 len:=by unfold movedL; rw[List.length_map]; exact hl.len
 ids q hq:=by
  obtain⟨y,hy,e⟩:=Zhs π l hq
  have:=hl.ids y hy; omega
 inc:=by
  unfold movedL
  exact List.pairwise_map.2 hl.inc
 pol q hq:=by
  obtain⟨y,hy,rfl⟩:=List.mem_map.1 hq
  exact⟨Zlm h (hl.pol y hy).1,hf y hy⟩
theorem ZfG{π:M}{a b:List Zb}(h:∀ x ∈ a,∀ y ∈ b,x.id≠y.id):∀ x ∈ movedL π a,∀ y ∈ movedL π b,x.id≠y.id:=fun x hx y hy=>by
 obtain⟨x',hx',e1⟩:=Zhs π a hx
 obtain⟨y',hy',e2⟩:=Zhs π b hy
 have:=h x' hx' y' hy'; omega
theorem Good.add1{s:Za}(h:Good s){e:Zc}(hk:e.kind=1)(hc:checkF s e=0):Good (addV s e):=by
 obtain⟨h1,h2,h3,h4,h5⟩:=check1 hk hc
 obtain⟨a,ha⟩:=Int.eq_ofNat_of_zero_le h2
 have ha2:a<=s.vars.length:=by omega
 have hπ:=Za4 (a:=s.vars.length) (b:=a) (by omega) (by omega)
 have hno:=ZnL h5
 have hlen:(s.vars.take a++[e.name]++s.vars.drop a).length=s.vars.length+1:=by simp; omega
 have hperm:(s.vars.take a++[e.name]++s.vars.drop a).Perm (e.name::s.vars):=by
  have h0:(s.vars.take a++([e.name]++s.vars.drop a)).Perm ([e.name]++(s.vars.take a++s.vars.drop a)):=List.perm_append_comm_assoc _ _ _
  rw[List.take_append_drop] at h0
  rw[List.append_assoc]; exact h0
 have hfit:∀ l,EqsOk s.vars.length s.next l->∀ q ∈ l,fitB (permP (rotF s.vars.length a) q.p) ((s.vars.length+1:Nat):Int)=true:=fun l hl q hq=>
  ZiD hπ (hl.pol q hq).1 (n:=s.vars.length) (by omega) (by omega) (hl.pol q hq).2 fun i hi=>⟨i,by unfold rotF; rw[if_neg (by omega),if_neg (by omega),if_neg (by omega)],.inl (by omega)⟩
 unfold addV
 rw[ha,Int.toNat_natCast]
 constructor
 .show (s.vars.take a++[e.name]++s.vars.drop a).length<=4
  omega
 .intro v hv
  rcases List.mem_cons.1 (hperm.mem_iff.1 hv) with rfl|hv
  .exact h4
  exact h.name v hv
 .exact (hperm.pairwise_iff (fun hab e=>hab e.symm)).2 (List.pairwise_cons.2 ⟨fun b hb e=>hno (by rw[e]; exact hb),h.diff⟩)
 .exact h.next
 .show EqsOk (s.vars.take a++[e.name]++s.vars.drop a).length _ _
  rw[hlen]; exact Zdp hπ h.eqs (hfit _ h.eqs)
 .show EqsOk (s.vars.take a++[e.name]++s.vars.drop a).length _ _
  rw[hlen]; exact Zdp hπ h.neqs (hfit _ h.neqs)
 exact ZfG h.apart
theorem Zof{i:Fin 8}{l:List Zb}(h:usedL i l=false):∀ q ∈ l,Occurs i q.p=false:=fun q hq=>by
 unfold usedL at h
 have:=List.any_eq_false.1 h q hq
 simpa using this
theorem Good.drop2{s:Za}(h:Good s){e:Zc}(hk:e.kind=2)(hc:checkF s e=0):Good (dropV s e):=by
 obtain⟨h1,h2⟩:=check2 hk hc
 have hv:=h.vars
 obtain⟨j,hj,hu⟩:=Zfg h.vars h1
 have h1':=of_decide_eq_true h1
 rw[hu] at h2
 have hj2:j.val<s.vars.length:=by omega
 have hπ:=Za4 (a:=j.val) (b:=s.vars.length-1) (by omega) (by omega)
 have hlen:(s.vars.take j.val++s.vars.drop (j.val+1)).length=s.vars.length-1:=by simp; omega
 have hsub:(s.vars.take j.val++s.vars.drop (j.val+1)).Sublist s.vars:=by
  rw[<- List.eraseIdx_eq_take_drop_succ]; exact List.eraseIdx_sublist ..
 have hno:usedL j s.eqs=false/\usedL j s.neqs=false:=by
  unfold usedS at h2
  exact Bool.or_eq_false_iff.1 h2
 have hfit:∀ l,EqsOk s.vars.length s.next l->usedL j l=false->∀ q ∈ l,fitB (permP (rotF j.val (s.vars.length-1)) q.p) ((s.vars.length-1:Nat):Int)=true:=fun l hl hul q hq=>
  ZiD hπ (hl.pol q hq).1 (n:=s.vars.length) (by omega) (by omega) (hl.pol q hq).2 fun i hi=>by
   by_cases hi2:i.val=s.vars.length-1
   .refine⟨j,?_,.inr (Zof hul q hq)⟩
    unfold rotF
    rw[if_pos rfl]; omega
   refine⟨i,?_,.inl (by omega)⟩
   unfold rotF
   rw[if_neg (by omega),if_neg (by omega),if_neg (by omega)]
 unfold dropV
 rw[hj,Int.toNat_natCast]
 constructor
 .show (s.vars.take j.val++s.vars.drop (j.val+1)).length<=4
  omega
 .exact fun v hv=>h.name v (hsub.subset hv)
 .exact h.diff.sublist hsub
 .exact h.next
 .show EqsOk (s.vars.take j.val++s.vars.drop (j.val+1)).length _ _
  rw[hlen]; exact Zdp hπ h.eqs (hfit _ h.eqs hno.1)
 .show EqsOk (s.vars.take j.val++s.vars.drop (j.val+1)).length _ _
  rw[hlen]; exact Zdp hπ h.neqs (hfit _ h.neqs hno.2)
 exact ZfG h.apart
theorem Good.ren3{s:Za}(h:Good s){e:Zc}(hk:e.kind=3)(hc:checkF s e=0):Good (renV s e):=by
 obtain⟨h1,h2,h3⟩:=check3 hk hc
 have h1':=of_decide_eq_true h1
 obtain⟨a,ha⟩:=Int.eq_ofNat_of_zero_le h1'.1
 have ha2:a<s.vars.length:=by omega
 unfold renV
 rw[ha,Int.toNat_natCast]
 have hlen:(s.vars.set a e.name).length=s.vars.length:=List.length_set
 constructor
 .show (s.vars.set a e.name).length<=4
  rw[hlen]; exact h.vars
 .intro v hv
  rcases List.mem_or_eq_of_mem_set hv with hv|rfl
  .exact h.name v hv
  exact h2
 .show (s.vars.set a e.name).Pairwise fun a b=>a≠b
  rcases h3 with h3|h3
  .have hno:=ZnL h3
   refine List.pairwise_iff_getElem.2 fun i j hi hj hij=>?_
   rw[List.getElem_set,List.getElem_set]
   rw[hlen] at hi hj
   by_cases e1:a=i
   .rw[if_pos e1,if_neg (by omega)]
    exact fun e=>hno (by rw[e]; exact List.getElem_mem hj)
   rw[if_neg e1]
   by_cases e2:a=j
   .rw[if_pos e2]
    exact fun e=>hno (by rw[<- e]; exact List.getElem_mem hi)
   rw[if_neg e2]
   exact List.pairwise_iff_getElem.1 h.diff i j hi hj hij
  have hx:=Zp5 (k:=a) (by rw[h3,ha])
  rw[List.getElem?_eq_getElem ha2] at hx
  rw[<- Option.some.inj hx,List.set_getElem_self]
  exact h.diff
 .exact h.next
 .show EqsOk (s.vars.set a e.name).length _ _
  rw[hlen]; exact h.eqs
 .show EqsOk (s.vars.set a e.name).length _ _
  rw[hlen]; exact h.neqs
 exact h.apart
def swapL(l:List ByteArray)(a b:Nat):List ByteArray:=(l.set a (l.getD b ByteArray.empty)).set b (l.getD a ByteArray.empty)
theorem Zat(l:List ByteArray)(a b:Nat):(swapL l a b).length=l.length:=by unfold swapL; rw[List.length_set,List.length_set]
theorem ZbP{l:List ByteArray}{a b:Nat}(ha:a<l.length)(hb:b<l.length){i:Nat}(hi:i<(swapL l a b).length):(swapL l a b)[i]=if b=i then l[a] else if a=i then l[b] else l[i]'(by rw[Zat] at hi; exact hi):=by
 have hi':i<((l.set a (l.getD b ByteArray.empty)).set b (l.getD a ByteArray.empty)).length:=hi
 show ((l.set a (l.getD b ByteArray.empty)).set b (l.getD a ByteArray.empty))[i]'hi'=_
 rw[List.getElem_set,List.getElem_set]
 simp[List.getD_eq_getElem?_getD,List.getElem?_eq_getElem ha,List.getElem?_eq_getElem hb]
theorem Zn5{l:List ByteArray}{a b:Nat}(ha:a<l.length)(hb:b<l.length){v:ByteArray}(hv:v ∈ swapL l a b):v ∈ l:=by
 obtain⟨i,hi,rfl⟩:=List.mem_iff_getElem.1 hv
 rw[ZbP ha hb hi]
 split
 .exact List.getElem_mem _
 split <;> exact List.getElem_mem _
theorem Zct{l:List ByteArray}(h:l.Pairwise fun a b=>a≠b){i j:Nat}(hi:i<l.length)(hj:j<l.length)(hij:i≠j):l[i]≠l[j]:=by
 rcases Nat.lt_or_gt_of_ne hij with h1|h1
 .exact List.pairwise_iff_getElem.1 h i j hi hj h1
 exact fun e=>List.pairwise_iff_getElem.1 h j i hj hi h1 e.symm
theorem Zng{l:List ByteArray}{a b:Nat}(ha:a<l.length)(hb:b<l.length)(h:l.Pairwise fun a b=>a≠b):(swapL l a b).Pairwise fun a b=>a≠b:=by
 refine List.pairwise_iff_getElem.2 fun i j hi hj hij=>?_
 rw[ZbP ha hb hi,ZbP ha hb hj]
 rw[Zat] at hi hj
 by_cases e1:b=i
 .rw[if_pos e1,if_neg (by omega)]
  by_cases e2:a=j
  .rw[if_pos e2]; exact Zct h ha hb (by omega)
  rw[if_neg e2]; exact Zct h ha hj (by omega)
 rw[if_neg e1]
 by_cases e2:b=j
 .rw[if_pos e2]
  by_cases e3:a=i
  .rw[if_pos e3]; exact Zct h hb ha (by omega)
  rw[if_neg e3]; exact Zct h hi ha (by omega)
 rw[if_neg e2]
 by_cases e3:a=i
 .rw[if_pos e3,if_neg (by omega)]; exact Zct h hb hj (by omega)
 rw[if_neg e3]
 by_cases e4:a=j
 .rw[if_pos e4]; exact Zct h hi hb (by omega)
 rw[if_neg e4]; exact Zct h hi hj (by omega)
theorem Zn4{a b:Nat}{i:Fin 8}(ha:a≠i.val)(hb:b≠i.val):swapF a b i=(i.val:Int):=by
 unfold swapF setF
 rw[if_neg (by omega),if_neg (by omega)]
 rfl
theorem Good.swap4{s:Za}(h:Good s){e:Zc}(hk:e.kind=4)(hc:checkF s e=0):Good (swpV s e):=by
 obtain⟨h1,h2⟩:=check4 hk hc
 have hv:=h.vars
 have h1':=of_decide_eq_true h1
 have h2':=of_decide_eq_true h2
 obtain⟨a,ha⟩:=Int.eq_ofNat_of_zero_le h1'.1
 obtain⟨b,hb⟩:=Int.eq_ofNat_of_zero_le h2'.1
 have ha2:a<s.vars.length:=by omega
 have hb2:b<s.vars.length:=by omega
 have hπ:=swap_perm (a:=a) (b:=b) (by omega) (by omega)
 have hfit:∀ l,EqsOk s.vars.length s.next l->∀ q ∈ l,fitB (permP (swapF a b) q.p) (s.vars.length:Int)=true:=fun l hl q hq=>
  ZiD hπ (hl.pol q hq).1 (n:=s.vars.length) (by omega) (by omega) (hl.pol q hq).2 fun i hi=>⟨i,(Zn4 (by omega) (by omega)).symm,.inl hi⟩
 unfold swpV
 rw[ha,hb,Int.toNat_natCast,Int.toNat_natCast]
 show Good ⟨swapL s.vars a b,_,_,_⟩
 constructor
 .show (swapL s.vars a b).length<=4
  rw[Zat]; exact h.vars
 .exact fun v hv=>h.name v (Zn5 ha2 hb2 hv)
 .exact Zng ha2 hb2 h.diff
 .exact h.next
 .show EqsOk (swapL s.vars a b).length _ _
  rw[Zat]; exact Zdp hπ h.eqs (hfit _ h.eqs)
 .show EqsOk (swapL s.vars a b).length _ _
  rw[Zat]; exact Zdp hπ h.neqs (hfit _ h.neqs)
 exact ZfG h.apart
theorem ZoN(l:List Zb)(x:Zb):(putL l x).length<=l.length+1:=by
 have h:∀ l:List Zb,(l.filter fun q=>decide (q.id<x.id)).length+(l.filter fun q=>decide (x.id<q.id)).length<=l.length:=fun l=>by
  induction l with
  | nil=>simp
  | cons y l ih=>
   by_cases h1:y.id<x.id
   .rw[List.filter_cons_of_pos (by simpa using h1),List.filter_cons_of_neg (by simp; omega)]
    simp only[List.length_cons]; omega
   rw[List.filter_cons_of_neg (by simp; omega)]
   by_cases h2:x.id<y.id
   .rw[List.filter_cons_of_pos (by simpa using h2)]; simp only[List.length_cons]; omega
   rw[List.filter_cons_of_neg (by simp; omega)]; simp only[List.length_cons]; omega
 have:=h l
 unfold putL
 rw[List.length_append,List.length_cons]
 omega
theorem Zcm{l:List Zb}{x q:Zb}(h:q ∈ putL l x):q=x\/(q ∈ l/\q.id≠x.id):=by
 unfold putL at h
 rcases List.mem_append.1 h with h|h
 .obtain⟨h1,h2⟩:=List.mem_filter.1 h
  have:=of_decide_eq_true h2
  exact .inr ⟨h1,by omega⟩
 rcases List.mem_cons.1 h with h|h
 .exact .inl h
 obtain⟨h1,h2⟩:=List.mem_filter.1 h
 have:=of_decide_eq_true h2
 exact .inr ⟨h1,by omega⟩
theorem ZiJ{l:List Zb}(h:l.Pairwise fun a b=>a.id<b.id)(x:Zb):(putL l x).Pairwise fun a b=>a.id<b.id:=by
 unfold putL
 refine List.pairwise_append.2 ⟨h.filter _,List.pairwise_cons.2 ⟨fun b hb=>?_,h.filter _⟩,fun a ha b hb=>?_⟩
 .exact of_decide_eq_true (List.mem_filter.1 hb).2
 have h1:a.id<x.id:=of_decide_eq_true (List.mem_filter.1 ha).2
 rcases List.mem_cons.1 hb with rfl|hb
 .exact h1
 have h2:x.id<b.id:=of_decide_eq_true (List.mem_filter.1 hb).2
 omega
theorem Zjf{n:Nat}{next next':Int}{l:List Zb}(h:EqsOk n next l)(hl:l.length<12){x:Zb}(hx:PolOk x.p/\fitB x.p (n:Int)=true)(h1:1<=x.id/\x.id<next')(h2:next<=next'):EqsOk n next' (putL l x) where
 len:=by have:=ZoN l x; omega
 ids q hq:=by
  rcases Zcm hq with rfl|⟨hq,_⟩
  .exact h1
  have:=h.ids q hq; omega
 inc:=ZiJ h.inc x
 pol q hq:=by
  rcases Zcm hq with rfl|⟨hq,_⟩
  .exact hx
  exact h.pol q hq
theorem EqsOk.up{n:Nat}{next next':Int}{l:List Zb}(h:EqsOk n next l)(h2:next<=next'):EqsOk n next' l where
 len:=h.len
 ids q hq:=by have:=h.ids q hq; omega
 inc:=h.inc
 pol:=h.pol
theorem ZhO{n:Nat}{next:Int}{l:List Zb}(h:EqsOk n next l)(id:Int):EqsOk n next (dropL l id) where
 len:=by have:=Zhc l id; have:=h.len; omega
 ids q hq:=h.ids q (List.mem_filter.1 hq).1
 inc:=Zcu h.inc id
 pol q hq:=h.pol q (List.mem_filter.1 hq).1
theorem ZhR{id:Int}{p:List Ze}{l:List Zb}{q:Zb}(h:q ∈ setL id p l):∃ y ∈ l,y.id=q.id/\(q.p=y.p\/q.p=p):=by
 obtain⟨y,hy,rfl⟩:=List.mem_map.1 h
 refine⟨y,hy,?_⟩
 split
 .exact⟨rfl,.inr rfl⟩
 exact⟨rfl,.inl rfl⟩
theorem Zn0{n:Nat}{next:Int}{l:List Zb}(h:EqsOk n next l)(id:Int){p:List Ze}(hp:PolOk p/\fitB p (n:Int)=true):EqsOk n next (setL id p l) where
 len:=by unfold setL; rw[List.length_map]; exact h.len
 ids q hq:=by
  obtain⟨y,hy,e,_⟩:=ZhR hq
  have:=h.ids y hy; omega
 inc:=by
  unfold setL
  refine List.pairwise_map.2 (h.inc.imp fun {a b} hab=>?_)
  have e1:∀ z:Zb,(if z.id=id then (⟨z.id,p⟩:Zb) else z).id=z.id:=fun z=>by split <;> rfl
  rw[e1,e1]; exact hab
 pol q hq:=by
  obtain⟨y,hy,_,e|e⟩:=ZhR hq
  .rw[e]; exact h.pol y hy
  rw[e]; exact hp
theorem Zp9{s:Za}(h:Good s){e:Zc}(hk:e.kind=5)(hc:checkF s e=0):1<=numE s e/\numE s e<1000000:=by
 obtain⟨k1,k2,k3,k4,k5,k6,k7⟩:=check5 hk hc
 have:=h.next
 unfold numE
 split
 .rename_i hz; have:=k6 hz; omega
 omega
theorem Good.add5{s:Za}(h:Good s){e:Zc}(hp:PolOk e.p)(hk:e.kind=5)(hc:checkF s e=0):Good (addE s e):=by
 obtain⟨k1,k2,k3,k4,k5,k6,k7⟩:=check5 hk hc
 have hnew:=ZjM h k1 k3
 have hb:=Zp9 h hk hc
 have hnx:=h.next
 have hno:(∀ q ∈ s.eqs,q.id≠numE s e)/\∀ q ∈ s.neqs,q.id≠numE s e:=⟨fun q hq e'=>absurd ((Za9 s _).2 (.inl ⟨q,hq,e'⟩)) (by rw[hnew]; decide),fun q hq e'=>absurd ((Za9 s _).2 (.inr ⟨q,hq,e'⟩)) (by rw[hnew]; decide)⟩
 have hnext:(if s.next<numE s e+1 then numE s e+1 else s.next)<=1000000/\s.next<=(if s.next<numE s e+1 then numE s e+1 else s.next)/\numE s e<(if s.next<numE s e+1 then numE s e+1 else s.next):=by split <;> omega
 unfold addE
 generalize (if s.next<numE s e+1 then numE s e+1 else s.next)=nx at hnext
 cases hq:e.neq with
 | false=>
  rw[if_neg (by decide),if_neg (by decide)]
  exact⟨h.vars,h.name,h.diff,⟨by show 1<=nx; omega,hnext.1⟩,Zjf h.eqs (k4 hq) ⟨hp,k7⟩ ⟨hb.1,hnext.2.2⟩ hnext.2.1,h.neqs.up hnext.2.1,fun a ha b hb=>by
   rcases Zcm ha with rfl|⟨ha,_⟩
   .exact fun e=>hno.2 b hb e.symm
   exact h.apart a ha b hb⟩
 | true=>
  rw[if_pos rfl,if_pos rfl]
  exact⟨h.vars,h.name,h.diff,⟨by show 1<=nx; omega,hnext.1⟩,h.eqs.up hnext.2.1,Zjf h.neqs (k5 hq) ⟨hp,k7⟩ ⟨hb.1,hnext.2.2⟩ hnext.2.1,fun a ha b hb=>by
   rcases Zcm hb with rfl|⟨hb,_⟩
   .exact hno.1 a ha
   exact h.apart a ha b hb⟩
theorem Good.drop6{s:Za}(h:Good s)(id:Int):Good (dropE s id):=
 ⟨h.vars,h.name,h.diff,h.next,ZhO h.eqs id,ZhO h.neqs id,fun a ha b hb=>h.apart a (List.mem_filter.1 ha).1 b (List.mem_filter.1 hb).1⟩
theorem check7{s:Za}{e:Zc}(hk:e.kind=7)(hc:checkF s e=0):fitB e.p (s.vars.length:Int)=true:=by
 have hb:=check78 (.inr (.inl hk)) hc
 rw[check678 (.inr (.inl hk))] at hc
 unfold idC at hc
 rw[hb,if_neg (by decide)] at hc
 cases hf:fitB e.p (s.vars.length:Int) with
 | true=>rfl
 | false=>rw[if_pos ⟨hk,hf⟩] at hc; exact absurd hc (by decide)
theorem check8{s:Za}{e:Zc}(hk:e.kind=8)(hc:checkF s e=0):(0<=findI s.eqs e.id->s.neqs.length<12)/\(¬ 0<=findI s.eqs e.id->s.eqs.length<12):=by
 have hb:=check78 (.inr (.inr hk)) hc
 rw[check678 (.inr (.inr hk))] at hc
 unfold idC at hc
 rw[hb,if_neg (by decide),if_neg (fun k=>by omega)] at hc
 by_cases c:e.kind=8/\((0<=findI s.eqs e.id/\12<=s.neqs.length)\/(¬ 0<=findI s.eqs e.id/\12<=s.eqs.length))
 .rw[if_pos c] at hc; exact absurd hc (by decide)
 exact⟨fun h1=>Nat.not_le.1 fun h2=>c ⟨hk,.inl ⟨h1,h2⟩⟩,fun h1=>Nat.not_le.1 fun h2=>c ⟨hk,.inr ⟨h1,h2⟩⟩⟩
theorem Good.set7{s:Za}(h:Good s){e:Zc}(hp:PolOk e.p)(hk:e.kind=7)(hc:checkF s e=0):Good (setE s e):=
 ⟨h.vars,h.name,h.diff,h.next,Zn0 h.eqs e.id ⟨hp,check7 hk hc⟩,Zn0 h.neqs e.id ⟨hp,check7 hk hc⟩,fun a ha b hb=>by
  obtain⟨a',ha',e1,_⟩:=ZhR ha
  obtain⟨b',hb',e2,_⟩:=ZhR hb
  have:=h.apart a' ha' b' hb'
  omega⟩
theorem ZbV{s:Za}(h:Good s){id:Int}(hb:hasB s id=true):
  (0<=findI s.eqs id/\∃ q ∈ s.eqs,q.id=id/\findE s id=(q,false,true)/\(∀ z ∈ s.neqs,z.id≠id)/\flipE s id=⟨s.vars,dropL s.eqs id,putL s.neqs q,s.next⟩)
  \/(¬ 0<=findI s.eqs id/\∃ q ∈ s.neqs,q.id=id/\findE s id=(q,true,true)/\(∀ z ∈ s.eqs,z.id≠id)/\flipE s id=⟨s.vars,putL s.eqs q,dropL s.neqs id,s.next⟩):=by
 by_cases hf:0<=findI s.eqs id
 .obtain⟨j,q,h1,h2,h3,h5,h6,h7,h8⟩:=ZjI h hf
  have he:findE s id=(q,false,true):=by unfold findE; rw[h1]
  refine .inl ⟨hf,q,h5,h6,he,h8,?_⟩
  unfold flipE
  rw[he]
  unfold insS dropE
  rw[if_pos (by rfl)]
  simp only
  rw[Zaq h8]
 obtain⟨h1,h2,h3,j,q,h4,h7,h8,h5,h6⟩:=ZiF hb hf
 have he:findE s id=(q,true,true):=by unfold findE; rw[h1,h4]
 refine .inr ⟨hf,q,h5,h6,he,h3,?_⟩
 unfold flipE
 rw[he]
 unfold insS dropE
 rw[if_neg (show ¬ (!true)=true by decide)]
 simp only
 rw[Zgj h2]
theorem Good.flip8{s:Za}(h:Good s){e:Zc}(hk:e.kind=8)(hc:checkF s e=0):Good (flipE s e.id):=by
 obtain⟨c1,c2⟩:=check8 hk hc
 rcases ZbV h (check78 (.inr (.inr hk)) hc) with ⟨hf,q,hq,e1,_,hno,e2⟩|⟨hf,q,hq,e1,_,hno,e2⟩
 .rw[e2]
  exact⟨h.vars,h.name,h.diff,h.next,ZhO h.eqs _,Zjf h.neqs (c1 hf) (h.eqs.pol q hq) (h.eqs.ids q hq) (Int.le_refl _),fun a ha b hb=>by
   obtain⟨ha1,ha2⟩:=List.mem_filter.1 ha
   rcases Zcm hb with rfl|⟨hb,_⟩
   .rw[e1]; exact of_decide_eq_true ha2
   exact h.apart a ha1 b hb⟩
 rw[e2]
 exact⟨h.vars,h.name,h.diff,h.next,Zjf h.eqs (c2 hf) (h.neqs.pol q hq) (h.neqs.ids q hq) (Int.le_refl _),ZhO h.neqs _,fun a ha b hb=>by
  obtain⟨hb1,hb2⟩:=List.mem_filter.1 hb
  rcases Zcm ha with rfl|⟨ha,_⟩
  .rw[e1]; exact fun k=>of_decide_eq_true hb2 k.symm
  exact h.apart a ha b hb1⟩
theorem Good.edit{s:Za}(h:Good s){e:Zc}(hp:PolOk e.p)(hc:checkF s e=0):Good (doF s e):=by
 rcases Zec (s:=s) (e:=e) with (k|k|k|k|k|k|k|k)|⟨_,k⟩
 .rw[doF1 k]; exact h.add1 k hc
 .rw[doF2 k]; exact h.drop2 k hc
 .rw[doF3 k]; exact h.ren3 k hc
 .rw[doF4 k]; exact h.swap4 k hc
 .rw[doF5 k]; exact h.add5 hp k hc
 .rw[doF6 k]; exact h.drop6 e.id
 .rw[doF7 k]; exact h.set7 hp k hc
 .rw[doF8 k]; exact h.flip8 k hc
 omega
theorem ZmX(s:Za)(id:Int):(flipE s id).next=s.next/\(flipE s id).vars=s.vars:=by
 unfold flipE insS dropE
 split <;> exact⟨rfl,rfl⟩
theorem Zkg(s:Za)(e:Zc):s.next<=(doF s e).next/\((doF s e).next=s.next\/(doF s e).next=numE s e+1):=by
 unfold doF
 repeat' split
 .exact⟨Int.le_refl _,.inl rfl⟩
 .exact⟨Int.le_refl _,.inl rfl⟩
 .exact⟨Int.le_refl _,.inl rfl⟩
 .exact⟨Int.le_refl _,.inl rfl⟩
 .show s.next<=(if s.next<numE s e+1 then numE s e+1 else s.next)/\((if s.next<numE s e+1 then numE s e+1 else s.next)=s.next\/_=_)
  split
  .rename_i hlt
   exact⟨by omega,.inr (if_pos hlt)⟩
  exact⟨by omega,.inl rfl⟩
 .exact⟨Int.le_refl _,.inl rfl⟩
 .exact⟨Int.le_refl _,.inl rfl⟩
 rw[(ZmX s e.id).1]; exact⟨Int.le_refl _,.inl rfl⟩
end Go.EL

namespace Go.EL
open Go.IntKind (i8 i16 i32 i64 u8 u16 u32 u64)
open Go Go.RowKit
def zeroEd:Zc:=⟨0,ByteArray.empty,0,0,0,[],false⟩
def backF(s:Za)(e:Zc):Zc:=
 if e.kind=1 then ⟨2,ByteArray.empty,e.at',0,0,[],false⟩
 else if e.kind=2 then ⟨1,s.vars.getD e.at'.toNat ByteArray.empty,e.at',0,0,[],false⟩
 else if e.kind=3 then ⟨3,s.vars.getD e.at'.toNat ByteArray.empty,e.at',0,0,[],false⟩
 else if e.kind=4 then ⟨4,ByteArray.empty,e.at',e.to',0,[],false⟩
 else if e.kind=5 then ⟨6,ByteArray.empty,0,0,numE s e,[],false⟩
 else if e.kind=6 then ⟨5,ByteArray.empty,0,0,e.id,(findE s e.id).1.p,(findE s e.id).2.1⟩
 else if e.kind=7 then ⟨7,ByteArray.empty,0,0,e.id,(findE s e.id).1.p,false⟩
 else ⟨8,ByteArray.empty,0,0,e.id,[],false⟩
def invF(s:Za)(e:Zc):Zc×Int:=if checkF s e=0 then (backF s e,0) else (zeroEd,checkF s e)
theorem Zml{l:List ByteArray}{i:Int}(h:0<=i/\i<(l.length:Int)):0<=i/\l[i.toNat]? = some (l.getD i.toNat ByteArray.empty):=by
 have hi:i.toNat<l.length:=by omega
 refine⟨h.1,?_⟩
 rw[List.getD_eq_getElem?_getD,List.getElem?_eq_getElem hi]; rfl
theorem kinds0{s:Za}{e:Zc}(hc:checkF s e=0):e.kind=1\/e.kind=2\/e.kind=3\/e.kind=4\/e.kind=5\/e.kind=6\/e.kind=7\/e.kind=8:=by
 rcases Zec (s:=s) (e:=e) with k|⟨_,k⟩
 .exact k
 omega
theorem ZlI{s:Za}(h:Good s){e:Zc}(hp:PolOk e.p)(hk:KindOk e):(ZeA s e).Ret (invF s e):=by
 refine⟨_,ZgO h hp hk,?_⟩
 unfold applyF invF
 by_cases hc:checkF s e=0
 .rw[if_pos hc,if_pos hc,Cq.Zd,if_neg (fun hh=>hh rfl)]
  unfold backF
  by_cases k1:e.kind=1
  .rw[Cq.Zd,if_pos k1,if_pos k1]; rfl
  rw[Cq.Zd,if_neg k1,if_neg k1]
  by_cases k2:e.kind=2
  .rw[Cq.Zd,if_pos k2,if_pos k2]
   exact⟨_,Zml (of_decide_eq_true (check2 k2 hc).1),rfl⟩
  rw[Cq.Zd,if_neg k2,if_neg k2]
  by_cases k3:e.kind=3
  .rw[Cq.Zd,if_pos k3,if_pos k3]
   exact⟨_,Zml (of_decide_eq_true (check3 k3 hc).1),rfl⟩
  rw[Cq.Zd,if_neg k3,if_neg k3]
  by_cases k4:e.kind=4
  .rw[Cq.Zd,if_pos k4,if_pos k4]; rfl
  rw[Cq.Zd,if_neg k4,if_neg k4]
  by_cases k5:e.kind=5
  .rw[Cq.Zd,if_pos k5,if_pos k5]
   refine⟨numE s e,?_,rfl⟩
   unfold Zb5 numE
   by_cases hz:e.id=0
   .rw[if_pos hz,if_pos hz]; rfl
   rw[if_neg hz,if_neg hz]; rfl
  rw[Cq.Zd,if_neg k5,if_neg k5]
  by_cases k8:e.kind=8
  .rw[Cq.Zd,if_pos k8,if_neg (show ¬ e.kind=6 by omega),if_neg (show ¬ e.kind=7 by omega)]; rfl
  rw[Cq.Zd,if_neg k8]
  refine⟨_,Zil h e.id,?_⟩
  by_cases k6:e.kind=6
  .rw[Cq.Zd,if_pos k6,if_pos k6]; rfl
  have k7:e.kind=7:=by have:=kinds0 hc; omega
  rw[Cq.Zd,if_neg k6,if_neg k6,if_pos k7]; rfl
 rw[if_neg hc,if_neg hc,Cq.Zd,if_pos hc]
 rfl
structure SysPol (s:Za):Prop where
 v:s.vars.length<=100
 e:s.eqs.length<=100/\∀ q ∈ s.eqs,PolOk q.p
 n:s.neqs.length<=100/\∀ q ∈ s.neqs,PolOk q.p
theorem Good.sys{s:Za}(h:Good s):SysPol s:=
 ⟨by have:=h.vars; omega,⟨by have:=h.eqs.len; omega,fun q hq=>(h.eqs.pol q hq).1⟩,⟨by have:=h.neqs.len; omega,fun q hq=>(h.neqs.pol q hq).1⟩⟩
theorem Zo2:SysPol zeroS:=⟨by decide,⟨by decide,fun q hq=>absurd hq List.not_mem_nil⟩,⟨by decide,fun q hq=>absurd hq List.not_mem_nil⟩⟩
def AlikeS(a b:Za):Prop:=a.vars=b.vars/\a.eqs=b.eqs/\a.neqs=b.neqs
theorem Zb7:PolOk []:=⟨List.Pairwise.nil,fun t ht=>absurd ht List.not_mem_nil,by decide⟩
theorem Zj7{s:Za}(h:Good s)(id:Int):PolOk (findE s id).1.p:=by
 unfold findE
 cases h1:findQ s.eqs id with
 | some q=>exact (h.eqs.pol q (Zab h1).1).1
 | none=>
  cases h2:findQ s.neqs id with
  | some q=>exact (h.neqs.pol q (Zab h2).1).1
  | none=>exact Zb7
theorem Zot{s:Za}(h:Good s)(e:Zc):PolOk (backF s e).p:=by
 unfold backF
 repeat' split
 .exact Zb7
 .exact Zb7
 .exact Zb7
 .exact Zb7
 .exact Zb7
 .exact Zj7 h e.id
 .exact Zj7 h e.id
 exact Zb7
theorem Znv(s:Za)(e:Zc):KindOk (backF s e):=by
 unfold backF
 repeat' split
 all_goals (constructor <;> simp only <;> omega)
end Go.EL

namespace Go.EL
open Go.IntKind (i8 i16 i32 i64 u8 u16 u32 u64)
open Go Go.RowKit
def allF:Za->List Zc->Nat->Zx
 | s,[],k=>⟨s,(k:Int),0⟩
 | s,e::l,k=>if checkF s e=0 then allF (doF s e) l (k+1) else ⟨zeroS,(k:Int),checkF s e⟩
theorem Zmc{s:Za}{l:List Zc}{k:Nat}(hk:k<l.length):allF s (l.drop k) k=if checkF s l[k]=0 then allF (doF s l[k]) (l.drop (k+1)) (k+1) else ⟨zeroS,(k:Int),checkF s l[k]⟩:=by
 rw[List.drop_eq_getElem_cons hk]; rfl
theorem ZkK{l:List Zc}(hl:l.length<=1000)(hp:∀ e ∈ l,PolOk e.p){s:Za}(h:Good s):(Zi0 s l).Ret (allF s l 0):=by
 show (Cq.next _ _).wp _
 refine Cq.Zk l.length (fun k st=>∃ t,st=((k:Int),t,Zx.mk zeroS 0 0)/\Good t/\allF s l 0=allF t (l.drop k) k) (fun k st hk hs=>?_) (fun st hs=>?_) ⟨s,rfl,h,rfl⟩
 .obtain⟨t,rfl,hg,he⟩:=hs
  have hpk:=hp l[k] (List.getElem_mem hk)
  rw[Zmc hk] at he
  refine Cq.wp.yes (p:=(k:Int)<(l.length:Int)) (by omega) ?_
  refine⟨l[k],idxN hk,_,Zbu hg hpk,?_⟩
  rw[Cq.Zd]
  unfold applyF
  by_cases hc:checkF t l[k]=0
  .rw[if_pos hc] at he
   rw[if_pos hc,if_neg (fun hh=>hh rfl)]
   refine⟨doF t l[k],?_,hg.edit hpk hc,he⟩
   show _=_
   rw[wrapN (by omega)]
  rw[if_neg hc] at he
  rw[if_neg hc,if_pos hc]
  show _=_
  rw[he]; rfl
 obtain⟨t,rfl,hg,he⟩:=hs
 rw[List.drop_length] at he
 refine Cq.wp.no (p:=((l.length:Nat):Int)<(l.length:Int)) (by omega) ?_
 show _=_
 rw[he]; rfl
theorem ZhH{l:List Zc}(hl:l.length<=1000)(hp:∀ e ∈ l,PolOk e.p/\KindOk e){s:Za}(h:Good s):(Zez s l).Ret ((allF s l 0).s,(allF s l 0).n,(allF s l 0).e):=by
 show (Cq.next _ _).wp _
 refine Cq.Zk l.length (fun k st=>∃ t,st=((k:Int),t,zeroS)/\Good t/\allF s l 0=allF t (l.drop k) k) (fun k st hk hs=>?_) (fun st hs=>?_) ⟨s,rfl,h,rfl⟩
 .obtain⟨t,rfl,hg,he⟩:=hs
  have hpk:=hp l[k] (List.getElem_mem hk)
  rw[Zmc hk] at he
  refine Cq.wp.yes (p:=(k:Int)<(l.length:Int)) (by omega) ?_
  refine⟨l[k],idxN hk,_,ZgO hg hpk.1 hpk.2,?_⟩
  rw[Cq.Zd]
  unfold applyF
  by_cases hc:checkF t l[k]=0
  .rw[if_pos hc] at he
   rw[if_pos hc,if_neg (fun hh=>hh rfl)]
   refine⟨doF t l[k],?_,hg.edit hpk.1 hc,he⟩
   show _=_
   rw[wrapN (by omega)]
  rw[if_neg hc] at he
  rw[if_neg hc,if_pos hc]
  show _=_
  rw[he]; rfl
 obtain⟨t,rfl,hg,he⟩:=hs
 rw[List.drop_length] at he
 refine Cq.wp.no (p:=((l.length:Nat):Int)<(l.length:Int)) (by omega) ?_
 show _=_
 rw[he]; rfl
theorem ZhM:∀ {l:List Zc},(∀ e ∈ l,PolOk e.p)->∀ {s:Za},Good s->∀ k,SysPol (allF s l k).s/\((allF s l k).e=0->Good (allF s l k).s)
 | [],_,_,h,_=>⟨h.sys,fun _=>h⟩
 | e::l,hp,s,h,k=>by
  unfold allF
  by_cases hc:checkF s e=0
  .rw[if_pos hc]
   exact ZhM (fun x hx=>hp x (List.mem_cons_of_mem _ hx)) (h.edit (hp e List.mem_cons_self) hc) (k+1)
  rw[if_neg hc]
  exact⟨Zo2,fun h0=>absurd h0 hc⟩
structure DescOk (x:Zw):Prop where
 kind:0<=x.kind/\x.kind<=255
 a:0<=x.a/\x.a<=255
 b:0<=x.b/\x.b<=255
 n:0<=x.n/\x.n<=255
 p:RawOk x.p
def SmallP(p:List Ze):Prop:=p.length<=3/\∀ t ∈ p,(∃ c:Int,t.c=ratI c/\-9<=c/\c<=9)/\degM t.m<=2
structure EditOk (s:Za) (e:Zc):Prop where
 kind:1<=e.kind/\e.kind<=8
 p:PolOk e.p
 small:SmallP e.p
 id:0<=e.id/\e.id<=s.next
theorem EditOk.k{s:Za}{e:Zc}(h:EditOk s e):KindOk e:=by have:=h.kind; exact⟨by omega,by omega⟩
structure Fit (s:Za):Prop where
 vars:s.vars.length<=4
 next:0<=s.next/\s.next<=1000000
theorem Good.fit{s:Za}(h:Good s):Fit s:=⟨h.vars,by have:=h.next; omega,h.next.2⟩
theorem Zjt{s:Za}(h:Fit s){x:Zw}(hx:DescOk x)(b:Zc):∃ e,(Zb3 s x b).Ret e/\e.kind=b.kind/\e.id=b.id/\PolOk e.p/\SmallP e.p:=by
 have hv:=h.vars
 have e1:(if 3<(s.vars.length:Int) then 3 else (s.vars.length:Int))=((min s.vars.length 3:Nat):Int):=by split <;> omega
 refine⟨⟨b.kind,b.name,b.at',b.to',b.id,madeP x.p (min s.vars.length 3) 2 3,b.neq⟩,⟨_,by rw[e1]; exact Zon hx.p (by omega) (by decide) (by decide) (by decide),rfl⟩,rfl,rfl,?_⟩
 have hm:=ZoI hx.p (n:=min s.vars.length 3) (by omega) (d:=2) (by decide) 3
 refine⟨hm.pol (by decide) (by decide) (by decide),hm.len,fun t ht=>⟨?_,(hm.mon t ht).2.2⟩⟩
 obtain⟨c,k1,_,k3,k4⟩:=hm.cof t ht
 exact⟨c,k1,by omega,by omega⟩
theorem Zo4{s:Za}(h:Fit s){x:Zw}(hx:DescOk x)(b:Zc)(hb:0<=b.id/\b.id<=s.next):∃ e,(Za1 s x b).Ret e/\e.kind=b.kind/\(0<=e.id/\e.id<=s.next)/\PolOk e.p/\SmallP e.p:=by
 have hn:=h.next
 unfold Za1
 by_cases c1:b.kind=5
 .rw[if_pos c1]
  by_cases c2:0<Int.tmod x.n 4
  .rw[if_pos c2]
   obtain⟨e,h1,h2,h3,h4⟩:=Zjt h hx (Zc.mk b.kind b.name b.at' b.to' 0 b.p b.neq)
   have h3':e.id=0:=h3
   exact⟨e,h1,h2,by omega,h4⟩
  rw[if_neg c2]
  obtain⟨e,h1,h2,h3,h4⟩:=Zjt h hx b
  exact⟨e,h1,h2,by omega,h4⟩
 rw[if_neg c1]
 obtain⟨e,h1,h2,h3,h4⟩:=Zjt h hx b
 exact⟨e,h1,h2,by omega,h4⟩
theorem Zl9{s:Za}(h:Fit s){x:Zw}(hx:DescOk x):∃ e,(Zdh s x).Ret e/\EditOk s e:=by
 have hv:=h.vars
 have hn:=h.next
 obtain⟨k1,k2⟩:=hx.kind
 have ka:=hx.a
 have kn:=hx.n
 have w1:i64.wrap ((s.vars.length:Int)+1)=(s.vars.length:Int)+1:=wrap64 (by omega)
 have w2:i64.wrap (s.next+1)=s.next+1:=wrap64 (by omega)
 have w3:i64.wrap x.n=x.n:=wrap64 (by omega)
 have t6:=ZaC (a:=x.n) (b:=6) (by omega) (by omega)
 have t16:=ZaC (a:=x.kind) (b:=16) (by omega) (by omega)
 have t4:=ZaC (a:=x.a) (b:=4) (by omega) (by omega)
 have tn:=ZaC (a:=x.n) (b:=s.next+1) (by omega) (by omega)
 have hname:∃ v,0<=Int.tmod x.n 6/\([Zr,ZJ,Zas,Zai,Z6,Z1]:List ByteArray)[(Int.tmod x.n 6).toNat]? = some v:=⟨_,t6.1,List.getElem?_eq_getElem (show (Int.tmod x.n 6).toNat<6 by omega)⟩
 obtain⟨v,hv2⟩:=hname
 have key:∀ b:Zc,1<=b.kind/\b.kind<=8->b.id=Int.tmod (i64.wrap x.n) (i64.wrap (s.next+1))->∃ e,(Za1 s x b).Ret e/\EditOk s e:=fun b hb hid=>by
  rw[w2,w3] at hid
  obtain⟨e,h1,h2,h3,h4⟩:=Zo4 h hx b (by omega)
  exact⟨e,h1,⟨by omega,h4.1,h4.2,h3⟩⟩
 have wrap:∀ {e:Zc}{c:Cq Zc},(c).Ret e->(Cq.chk ((i64.wrap ((s.vars.length:Int)+1))≠0) (Cq.chk ((i64.wrap ((s.vars.length:Int)+1))≠0) (Cq.chk ((i64.wrap (s.next+1))≠0) c))).Ret e:=fun {e c} hc=>⟨by rw[w1]; omega,by rw[w1]; omega,by rw[w2]; omega,hc⟩
 unfold Zdh
 by_cases c1:8<=Int.tmod x.kind 16
 .by_cases c2:Int.tmod x.a 8<5
  .obtain⟨e,h1,h2⟩:=key (Zc.mk 5 v (Int.tmod (i64.wrap x.a) (i64.wrap ((s.vars.length:Int)+1))) (Int.tmod (i64.wrap x.b) (i64.wrap ((s.vars.length:Int)+1))) (Int.tmod (i64.wrap x.n) (i64.wrap (s.next+1))) [] (decide ((Int.tmod x.b 4)=3))) (by show 1<=(5:Int)/\(5:Int)<=8; decide) rfl
   refine⟨e,wrap ⟨_,rfl,v,hv2,?_⟩,h2⟩
   rw[Cq.Zd,if_pos c1,Cq.Zd,if_pos c2]; exact h1
  have w4:i64.wrap (5+(i64.wrap (Int.tmod x.a 4)))=5+Int.tmod x.a 4:=by rw[wrap64 (x:=Int.tmod x.a 4) (by omega),wrap64 (by omega)]
  obtain⟨e,h1,h2⟩:=key (Zc.mk (i64.wrap (5+(i64.wrap (Int.tmod x.a 4)))) v (Int.tmod (i64.wrap x.a) (i64.wrap ((s.vars.length:Int)+1))) (Int.tmod (i64.wrap x.b) (i64.wrap ((s.vars.length:Int)+1))) (Int.tmod (i64.wrap x.n) (i64.wrap (s.next+1))) [] (decide ((Int.tmod x.b 4)=3))) (by show 1<=i64.wrap (5+(i64.wrap (Int.tmod x.a 4)))/\i64.wrap (5+(i64.wrap (Int.tmod x.a 4)))<=8; rw[w4]; omega) rfl
  refine⟨e,wrap ⟨_,rfl,v,hv2,?_⟩,h2⟩
  rw[Cq.Zd,if_pos c1,Cq.Zd,if_neg c2]; exact h1
 have w4:i64.wrap (1+(i64.wrap (Int.tmod x.kind 16)))=1+Int.tmod x.kind 16:=by rw[wrap64 (x:=Int.tmod x.kind 16) (by omega),wrap64 (by omega)]
 obtain⟨e,h1,h2⟩:=key (Zc.mk (i64.wrap (1+(i64.wrap (Int.tmod x.kind 16)))) v (Int.tmod (i64.wrap x.a) (i64.wrap ((s.vars.length:Int)+1))) (Int.tmod (i64.wrap x.b) (i64.wrap ((s.vars.length:Int)+1))) (Int.tmod (i64.wrap x.n) (i64.wrap (s.next+1))) [] (decide ((Int.tmod x.b 4)=3))) (by show 1<=i64.wrap (1+(i64.wrap (Int.tmod x.kind 16)))/\i64.wrap (1+(i64.wrap (Int.tmod x.kind 16)))<=8; rw[w4]; omega) rfl
 refine⟨e,wrap ⟨_,rfl,v,hv2,?_⟩,h2⟩
 rw[Cq.Zd,if_neg c1]; exact h1
def oneS:Za:=⟨[],[],[],1⟩
theorem ZeM:Good oneS:=⟨by decide,fun v hv=>absurd hv List.not_mem_nil,List.Pairwise.nil,by decide,⟨by decide,fun q hq=>absurd hq List.not_mem_nil,List.Pairwise.nil,fun q hq=>absurd hq List.not_mem_nil⟩,⟨by decide,fun q hq=>absurd hq List.not_mem_nil,List.Pairwise.nil,fun q hq=>absurd hq List.not_mem_nil⟩,fun a ha=>absurd ha List.not_mem_nil⟩
theorem ZnS{s:Za}{e:Zc}(he:EditOk s e):(doF s e).next<=s.next+1:=by
 have h1:=Zkg s e
 have h2:=he.id
 unfold numE at h1
 split at h1 <;> omega
theorem ZgQ{l:List Zw}(hx:∀ x ∈ l,DescOk x){m:Nat}(hm:m<=12):∀ (d k:Nat) (s:Za),k+d=min l.length m->Good s->s.next<=(k:Int)+1->∃ r,(Zh3 l (m:Int) ((k:Int),s)).Ret r/\Good r/\r.next<=13
 | 0,k,s,hk,hg,hn=>by
  refine⟨s,Cq.ZW ?_,hg,by omega⟩
  show (if (k:Int)<(l.length:Int) then _ else _:Cq _).wp _
  rw[Cq.Zd]
  by_cases c:(k:Int)<(l.length:Int)
  .rw[if_pos c,Cq.Zd,if_neg (by omega)]; rfl
  rw[if_neg c]; rfl
 | d+1,k,s,hk,hg,hn=>by
  have hkl:k<l.length:=by omega
  obtain⟨e,h1,h2⟩:=Zl9 hg.fit (hx l[k] (List.getElem_mem hkl))
  by_cases hc:checkF s e=0
  .have hns:=ZnS h2
   obtain⟨r,h3,h4⟩:=ZgQ hx hm d (k+1) (doF s e) (by omega) (hg.edit h2.p hc) (by omega)
   refine⟨r,Cq.ZW ?_,h4⟩
   show (if (k:Int)<(l.length:Int) then _ else _:Cq _).wp _
   rw[Cq.Zd,if_pos (by omega),Cq.Zd,if_pos (by omega)]
   refine⟨l[k],idxN hkl,e,h1,_,Zbu hg h2.p,?_⟩
   unfold applyF
   rw[Cq.Zd,if_pos hc,if_pos rfl]
   show (Cq.loop _ _).wp _
   rw[wrapN (by omega)]
   exact h3
  obtain⟨r,h3,h4⟩:=ZgQ hx hm d (k+1) s (by omega) hg (by omega)
  refine⟨r,Cq.ZW ?_,h4⟩
  show (if (k:Int)<(l.length:Int) then _ else _:Cq _).wp _
  rw[Cq.Zd,if_pos (by omega),Cq.Zd,if_pos (by omega)]
  refine⟨l[k],idxN hkl,e,h1,_,Zbu hg h2.p,?_⟩
  unfold applyF
  rw[Cq.Zd,if_neg hc,if_neg hc]
  show (Cq.loop _ _).wp _
  rw[wrapN (by omega)]
  exact h3
theorem Zo5{l:List Zw}(hx:∀ x ∈ l,DescOk x){m:Nat}(hm:m<=12):∃ r,(Ziq l (m:Int)).Ret r/\Good r/\r.next<=13:=by
 obtain⟨r,h1,h2⟩:=ZgQ hx hm (min l.length m) 0 oneS (by omega) ZeM (by decide)
 refine⟨r,?_,h2⟩
 show (Cq.next _ _).wp _
 exact h1
def RunOk:Za->List Zc->Prop
 | _,[]=>True
 | s,e::l=>EditOk s e/\checkF s e=0/\RunOk (doF s e) l
theorem Zf2{l:List Zw}(hx:∀ x ∈ l,DescOk x){m:Nat}(hm:m<=12):∀ (d k:Nat) (s:Za) (out:List Zc),k+d=min l.length m->out.length<=k->Good s->∃ r,(ZgZ l (m:Int) (out,(k:Int),s)).Ret (out++r)/\r.length<=d/\RunOk s r
 | 0,k,s,out,hk,ho,hg=>by
  refine⟨[],Cq.ZW ?_,by simp,trivial⟩
  show (if (k:Int)<(l.length:Int) then _ else _:Cq _).wp _
  rw[Cq.Zd,List.append_nil]
  by_cases c:(k:Int)<(l.length:Int)
  .rw[if_pos c,Cq.Zd,if_neg (by omega)]; rfl
  rw[if_neg c]; rfl
 | d+1,k,s,out,hk,ho,hg=>by
  have hkl:k<l.length:=by omega
  obtain⟨e,h1,h2⟩:=Zl9 hg.fit (hx l[k] (List.getElem_mem hkl))
  by_cases hc:checkF s e=0
  .obtain⟨r,h3,h4,h5⟩:=Zf2 hx hm d (k+1) (doF s e) (out++[e]) (by omega) (by simp; omega) (hg.edit h2.p hc)
   refine⟨e::r,Cq.ZW ?_,by simp; omega,h2,hc,h5⟩
   show (if (k:Int)<(l.length:Int) then _ else _:Cq _).wp _
   rw[Cq.Zd,if_pos (by omega),Cq.Zd,if_pos (by omega)]
   refine⟨l[k],idxN hkl,e,h1,_,Zbu hg h2.p,?_⟩
   unfold applyF
   rw[Cq.Zd,if_pos hc,if_pos rfl]
   refine⟨by simp[small]; omega,?_⟩
   show (Cq.loop _ _).wp _
   rw[wrapN (by omega)]
   rw[List.append_assoc] at h3
   exact h3
  obtain⟨r,h3,h4,h5⟩:=Zf2 hx hm d (k+1) s out (by omega) (by omega) hg
  refine⟨r,Cq.ZW ?_,by omega,h5⟩
  show (if (k:Int)<(l.length:Int) then _ else _:Cq _).wp _
  rw[Cq.Zd,if_pos (by omega),Cq.Zd,if_pos (by omega)]
  refine⟨l[k],idxN hkl,e,h1,_,Zbu hg h2.p,?_⟩
  unfold applyF
  rw[Cq.Zd,if_neg hc,if_neg hc]
  show (Cq.loop _ _).wp _
  rw[wrapN (by omega)]
  exact h3
theorem Zom{l:List Zw}(hx:∀ x ∈ l,DescOk x){m:Nat}(hm:m<=12){s:Za}(hg:Good s):∃ r,(ZgY s l (m:Int)).Ret r/\r.length<=m/\RunOk s r:=by
 obtain⟨r,h1,h2,h3⟩:=Zf2 hx hm (min l.length m) 0 s [] (by omega) (by simp) hg
 refine⟨r,?_,by omega,h3⟩
 show (Cq.next _ _).wp _
 exact h1
theorem Zms:∀ {l:List Zc}{s:Za},RunOk s l->∀ e ∈ l,PolOk e.p/\KindOk e
 | [],_,_,_,he=>by cases he
 | x::l,s,⟨h1,_,h3⟩,e,he=>by
  rcases List.mem_cons.1 he with rfl|he
  .exact⟨h1.p,h1.k⟩
  exact Zms h3 e he
end Go.EL

namespace Go.EL
open Go.IntKind (i8 i16 i32 i64 u8 u16 u32 u64)
open Go Go.RowKit
theorem Zm6{π ρ:M}(hπ:IsPerm π)(hρ:IsPerm ρ)(hb:∀ i j:Fin 8,(j.val:Int)=π i->ρ j=(i.val:Int))(m:M):permM ρ (permM π m)=m:=by
 funext i
 have r:=hπ.rng i
 have hj:(((⟨(π i).toNat,by omega⟩:Fin 8).val:Nat):Int)=π i:=by simp; omega
 rw[Zdr hρ (permM π m) _ i (hb i _ hj).symm,Zdr hπ m i _ hj]
theorem Zm7{π ρ:M}(hπ:IsPerm π)(hρ:IsPerm ρ)(hb:∀ i j:Fin 8,(j.val:Int)=π i->ρ j=(i.val:Int)){p:List Ze}(hp:PolOk p):permP ρ (permP π p)=p:=by
 have h1:=Zbn hπ hp.ord
 have h2:=Zbn hρ h1.2
 refine Zjk hp.ord ?_ (Zj5 h2.2)
 have h3:=h2.1.trans (h1.1.map (permT ρ))
 rw[List.map_map] at h3
 have e:p.map (permT ρ ∘ permT π)=p:=by
  refine (List.map_congr_left (g:=fun q=>q) fun t _=>?_).trans (List.map_id' p)
  show (⟨t.c,permM ρ (permM π t.m)⟩:Ze)=t
  rw[Zm6 hπ hρ hb]
 rwa [e] at h3
theorem ZbW{π ρ:M}(hπ:IsPerm π)(hρ:IsPerm ρ)(hb:∀ i j:Fin 8,(j.val:Int)=π i->ρ j=(i.val:Int)){l:List Zb}(hl:∀ q ∈ l,PolOk q.p):movedL ρ (movedL π l)=l:=by
 unfold movedL
 rw[List.map_map]
 refine (List.map_congr_left (g:=fun q=>q) fun q hq=>?_).trans (List.map_id' l)
 show (⟨q.id,permP ρ (permP π q.p)⟩:Zb)=q
 rw[Zm7 hπ hρ hb (hl q hq)]
theorem Zlp:∀ a b:Fin 5,∀ i j:Fin 8,(j.val:Int)=rotF a.val b.val i->rotF b.val a.val j=(i.val:Int):=by decide +kernel
theorem Zlo{a b:Nat}(ha:a<=4)(hb:b<=4):∀ i j:Fin 8,(j.val:Int)=rotF a b i->rotF b a j=(i.val:Int):=Zlp ⟨a,by omega⟩ ⟨b,by omega⟩
theorem ZkF:∀ a b:Fin 5,∀ i j:Fin 8,(j.val:Int)=swapF a.val b.val i->swapF a.val b.val j=(i.val:Int):=by decide +kernel
theorem Zn6{a b:Nat}(ha:a<=4)(hb:b<=4):∀ i j:Fin 8,(j.val:Int)=swapF a b i->swapF a b j=(i.val:Int):=ZkF ⟨a,by omega⟩ ⟨b,by omega⟩
theorem EqsOk.pols{n:Nat}{next:Int}{l:List Zb}(h:EqsOk n next l):∀ q ∈ l,PolOk q.p:=fun q hq=>(h.pol q hq).1
structure BackOk (s:Za) (e:Zc):Prop where
 c:checkF (doF s e) (backF s e)=0
 a:AlikeS (doF (doF s e) (backF s e)) s
theorem ZoF{l:List ByteArray}{a:Nat}(ha:a<=l.length)(v:ByteArray):(l.take a++[v]++l.drop a).take a++(l.take a++[v]++l.drop a).drop (a+1)=l:=by
 have h1:(l.take a).length=a:=by simp; omega
 have h2:(l.take a++[v]).length=a+1:=by simp; omega
 rw[List.drop_left' h2,List.append_assoc,List.take_left' h1,List.take_append_drop]
theorem Zoy{l:List ByteArray}{a:Nat}(ha:a<l.length):(l.take a++l.drop (a+1)).take a++[l[a]]++(l.take a++l.drop (a+1)).drop a=l:=by
 have h1:(l.take a).length=a:=by simp; omega
 rw[List.take_left' h1,List.drop_left' h1,List.append_assoc]
 show l.take a++(l[a]::l.drop (a+1))=l
 rw[<- List.drop_eq_getElem_cons ha,List.take_append_drop]
theorem getD_eq{l:List ByteArray}{a:Nat}(ha:a<l.length):l.getD a ByteArray.empty=l[a]:=by
 rw[List.getD_eq_getElem?_getD,List.getElem?_eq_getElem ha]; rfl
theorem ZnW(a b:Nat)(h:a<8):rotF a b ⟨a,h⟩=(b:Int):=by unfold rotF; rw[if_pos rfl]
theorem Zny{s:Za}{e:Zc}(hk:e.kind=2)(h1:isV s e.at'=true)(h2:usedAt s e.at'=false):checkF s e=0:=by
 unfold checkF
 rw[if_neg (by omega),if_pos hk,if_pos h1,h2]; rfl
theorem Znx{s:Za}{e:Zc}(hk:e.kind=1)(h1:s.vars.length<4)(h2:0<=e.at'/\e.at'<=(s.vars.length:Int))(h3:nameB e.name=true)(h4:idxI s.vars e.name<0):checkF s e=0:=by
 unfold checkF
 rw[if_pos hk,if_neg (by omega),if_neg (fun k=>k h2),if_pos ⟨h3,h4⟩]
theorem Znz{s:Za}{e:Zc}(hk:e.kind=3)(h1:isV s e.at'=true)(h3:nameB e.name=true)(h4:idxI s.vars e.name<0\/idxI s.vars e.name=e.at'):checkF s e=0:=by
 unfold checkF
 rw[if_neg (by omega),if_neg (by omega),if_pos hk,if_pos h1,if_pos ⟨h3,h4⟩]
theorem ZnA{s:Za}{e:Zc}(hk:e.kind=4)(h1:isV s e.at'=true)(h2:isV s e.to'=true):checkF s e=0:=by
 unfold checkF
 rw[if_neg (by omega),if_neg (by omega),if_neg (by omega),if_pos hk,if_pos ⟨h1,h2⟩]
theorem Zj2{s:Za}{e:Zc}(hk:e.kind=5)(h1:0<=e.id/\e.id<=999999)(h2:0<e.id->hasB s e.id=false)(h3:(if e.neq=true then s.neqs else s.eqs).length<12)(h4:e.id=0->s.next<1000000)(h5:fitB e.p (s.vars.length:Int)=true):checkF s e=0:=by
 unfold checkF
 rw[if_neg (by omega),if_neg (by omega),if_neg (by omega),if_neg (by omega),if_pos hk]
 unfold addC
 rw[if_neg (fun k=>by
  rcases k with k|k|⟨k1,k2⟩
  .omega
  .omega
  .rw[h2 k1] at k2; cases k2),if_neg (fun k=>by
  rcases k with ⟨k1,k2⟩|⟨k1,k2⟩|⟨k1,k2⟩
  .rw[k1,if_neg (by decide)] at h3; omega
  .rw[k1,if_pos rfl] at h3; omega
  have:=h4 k1; omega),if_pos h5]
theorem ZnB{s:Za}{e:Zc}(hk:e.kind=6)(h1:hasB s e.id=true):checkF s e=0:=by
 rw[check678 (.inl hk)]
 unfold idC
 rw[h1,if_neg (by decide),if_neg (fun k=>by omega),if_neg (fun k=>by omega)]
theorem ZnC{s:Za}{e:Zc}(hk:e.kind=7)(h1:hasB s e.id=true)(h2:fitB e.p (s.vars.length:Int)=true):checkF s e=0:=by
 rw[check678 (.inr (.inl hk))]
 unfold idC
 rw[h1,if_neg (by decide),h2,if_neg (fun k=>absurd k.2 (by decide)),if_neg (fun k=>by omega)]
theorem Zj3{s:Za}{e:Zc}(hk:e.kind=8)(h1:hasB s e.id=true)(h2:0<=findI s.eqs e.id->s.neqs.length<12)(h3:¬ 0<=findI s.eqs e.id->s.eqs.length<12):checkF s e=0:=by
 rw[check678 (.inr (.inr hk))]
 unfold idC
 rw[h1,if_neg (by decide),if_neg (fun k=>by omega),if_neg (fun k=>by
  rcases k.2 with ⟨k1,k2⟩|⟨k1,k2⟩
  .have:=h2 k1; omega
  have:=h3 k1; omega)]
theorem Zpq{l:List ByteArray}{v:ByteArray}(h:v ∉ l):idxI l v<0:=by
 rcases ZeE v l 0 with ⟨_,h1⟩|⟨j,_,h2⟩
 .unfold idxI; omega
 exact absurd (List.mem_of_getElem? h2) h
theorem Zi8{s:Za}{a:Nat}(h:a<s.vars.length):isV s (a:Int)=true:=decide_eq_true (by omega)
theorem back1{s:Za}(h:Good s){e:Zc}(hk:e.kind=1)(hc:checkF s e=0):BackOk s e:=by
 obtain⟨h1,h2,h3,h4,h5⟩:=check1 hk hc
 obtain⟨a,ha⟩:=Int.eq_ofNat_of_zero_le h2
 have ha2:a<=s.vars.length:=by omega
 have hπ:=Za4 (a:=s.vars.length) (b:=a) (by omega) (by omega)
 have hρ:=Za4 (a:=a) (b:=s.vars.length) (by omega) (by omega)
 have hb:=Zlo (a:=s.vars.length) (b:=a) (by omega) (by omega)
 have eb:backF s e=⟨2,ByteArray.empty,(a:Int),0,0,[],false⟩:=by unfold backF; rw[if_pos hk,ha]
 have et:doF s e=⟨s.vars.take a++[e.name]++s.vars.drop a,movedL (rotF s.vars.length a) s.eqs,movedL (rotF s.vars.length a) s.neqs,s.next⟩:=by rw[doF1 hk]; unfold addV; rw[ha,Int.toNat_natCast]
 have hlen:(s.vars.take a++[e.name]++s.vars.drop a).length=s.vars.length+1:=by simp; omega
 have hun:∀ l,EqsOk s.vars.length s.next l->usedL ⟨a,by omega⟩ (movedL (rotF s.vars.length a) l)=false:=fun l hl=>by
  refine List.any_eq_false.2 fun q hq=>?_
  obtain⟨y,hy,rfl⟩:=List.mem_map.1 hq
  have hw:=((Zgo (p:=y.p) (n:=s.vars.length) (by omega)).1 (hl.pol y hy).2).1
  intro hocc
  obtain⟨z,hz,hpos⟩:=List.any_eq_true.1 hocc
  obtain⟨w,hw2,rfl⟩:=List.mem_map.1 ((Zbn hπ (hl.pol y hy).1.ord).1.mem_iff.1 hz)
  have hpos':0<permM (rotF s.vars.length a) w.m ⟨a,by omega⟩:=of_decide_eq_true hpos
  rw[Zdr hπ w.m ⟨s.vars.length,by omega⟩ ⟨a,by omega⟩ (ZnW _ _ _).symm] at hpos'
  exact hw w hw2 ⟨s.vars.length,by omega⟩ (by simp) hpos'
 have c1:checkF (doF s e) (backF s e)=0:=by
  rw[et,eb]
  have hv:isV (Za.mk (s.vars.take a++[e.name]++s.vars.drop a) (movedL (rotF s.vars.length a) s.eqs) (movedL (rotF s.vars.length a) s.neqs) s.next) (a:Int)=true:=Zi8 (by show a<(s.vars.take a++[e.name]++s.vars.drop a).length; omega)
  refine Zny rfl hv ?_
  obtain⟨j,hj,hu⟩:=Zfg (by show (s.vars.take a++[e.name]++s.vars.drop a).length<=4; omega) hv
  have hj2:j=⟨a,by omega⟩:=Fin.ext (by show j.val=a; omega)
  show usedAt _ (a:Int)=false
  rw[hu,hj2]
  unfold usedS
  show (usedL _ (movedL _ s.eqs) || usedL _ (movedL _ s.neqs))=false
  rw[hun _ h.eqs,hun _ h.neqs]; rfl
 refine⟨c1,?_⟩
 rw[eb,doF2 rfl,et]
 unfold dropV
 show AlikeS ⟨(s.vars.take a++[e.name]++s.vars.drop a).take (a:Int).toNat++(s.vars.take a++[e.name]++s.vars.drop a).drop ((a:Int).toNat+1),movedL (rotF (a:Int).toNat ((s.vars.take a++[e.name]++s.vars.drop a).length-1)) (movedL (rotF s.vars.length a) s.eqs),movedL (rotF (a:Int).toNat ((s.vars.take a++[e.name]++s.vars.drop a).length-1)) (movedL (rotF s.vars.length a) s.neqs),s.next⟩ s
 rw[Int.toNat_natCast,ZoF ha2,hlen,Nat.add_sub_cancel,ZbW hπ hρ hb h.eqs.pols,ZbW hπ hρ hb h.neqs.pols]
 exact⟨rfl,rfl,rfl⟩
theorem back2{s:Za}(h:Good s){e:Zc}(hk:e.kind=2)(hc:checkF s e=0):BackOk s e:=by
 obtain⟨h1,_⟩:=check2 hk hc
 have hv:=h.vars
 have h1':=of_decide_eq_true h1
 obtain⟨a,ha⟩:=Int.eq_ofNat_of_zero_le h1'.1
 have ha2:a<s.vars.length:=by omega
 have hπ:=Za4 (a:=a) (b:=s.vars.length-1) (by omega) (by omega)
 have hρ:=Za4 (a:=s.vars.length-1) (b:=a) (by omega) (by omega)
 have hb:=Zlo (a:=a) (b:=s.vars.length-1) (by omega) (by omega)
 have eb:backF s e=⟨1,s.vars[a],(a:Int),0,0,[],false⟩:=by unfold backF; rw[if_neg (by omega),if_pos hk,ha,Int.toNat_natCast,getD_eq ha2]
 have et:doF s e=⟨s.vars.take a++s.vars.drop (a+1),movedL (rotF a (s.vars.length-1)) s.eqs,movedL (rotF a (s.vars.length-1)) s.neqs,s.next⟩:=by rw[doF2 hk]; unfold dropV; rw[ha,Int.toNat_natCast]
 have hlen:(s.vars.take a++s.vars.drop (a+1)).length=s.vars.length-1:=by simp; omega
 have hno:s.vars[a] ∉ s.vars.take a++s.vars.drop (a+1):=fun hm=>by
  have hp:s.vars.Perm (s.vars[a]::(s.vars.take a++s.vars.drop (a+1))):=by
   have h0:(s.vars.take a++([s.vars[a]]++s.vars.drop (a+1))).Perm ([s.vars[a]]++(s.vars.take a++s.vars.drop (a+1))):=List.perm_append_comm_assoc _ _ _
   rw[show [s.vars[a]]++s.vars.drop (a+1)=s.vars.drop a from (List.drop_eq_getElem_cons ha2).symm,List.take_append_drop] at h0
   exact h0
  have hd:=(hp.pairwise_iff (R:=fun a b=>a≠b) (fun hab e=>hab e.symm)).1 h.diff
  exact (List.pairwise_cons.1 hd).1 _ hm rfl
 have c1:checkF (doF s e) (backF s e)=0:=by
  rw[et,eb]
  refine Znx rfl (by show (s.vars.take a++s.vars.drop (a+1)).length<4; omega) (by show 0<=(a:Int)/\(a:Int)<=((s.vars.take a++s.vars.drop (a+1)).length:Int); omega) (h.name _ (List.getElem_mem ha2)) (Zpq hno)
 refine⟨c1,?_⟩
 rw[eb,doF1 rfl,et]
 unfold addV
 show AlikeS ⟨(s.vars.take a++s.vars.drop (a+1)).take (a:Int).toNat++[s.vars[a]]++(s.vars.take a++s.vars.drop (a+1)).drop (a:Int).toNat,movedL (rotF (s.vars.take a++s.vars.drop (a+1)).length (a:Int).toNat) (movedL (rotF a (s.vars.length-1)) s.eqs),movedL (rotF (s.vars.take a++s.vars.drop (a+1)).length (a:Int).toNat) (movedL (rotF a (s.vars.length-1)) s.neqs),s.next⟩ s
 rw[Int.toNat_natCast,Zoy ha2,hlen,ZbW hπ hρ hb h.eqs.pols,ZbW hπ hρ hb h.neqs.pols]
 exact⟨rfl,rfl,rfl⟩
theorem back3{s:Za}(h:Good s){e:Zc}(hk:e.kind=3)(hc:checkF s e=0):BackOk s e:=by
 obtain⟨h1,h2,h3⟩:=check3 hk hc
 have h1':=of_decide_eq_true h1
 obtain⟨a,ha⟩:=Int.eq_ofNat_of_zero_le h1'.1
 have ha2:a<s.vars.length:=by omega
 have eb:backF s e=⟨3,s.vars[a],(a:Int),0,0,[],false⟩:=by unfold backF; rw[if_neg (by omega),if_neg (by omega),if_pos hk,ha,Int.toNat_natCast,getD_eq ha2]
 have et:doF s e=⟨s.vars.set a e.name,s.eqs,s.neqs,s.next⟩:=by rw[doF3 hk]; unfold renV; rw[ha,Int.toNat_natCast]
 have hlen:(s.vars.set a e.name).length=s.vars.length:=List.length_set
 have c1:checkF (doF s e) (backF s e)=0:=by
  rw[et,eb]
  refine Znz rfl (Zi8 (by show a<(s.vars.set a e.name).length; omega)) (h.name _ (List.getElem_mem ha2)) ?_
  show idxI (s.vars.set a e.name) s.vars[a]<0\/idxI (s.vars.set a e.name) s.vars[a]=(a:Int)
  rcases ZeE s.vars[a] (s.vars.set a e.name) 0 with ⟨_,k1⟩|⟨j,k1,k2⟩
  .unfold idxI; omega
  refine .inr ?_
  obtain⟨hj,k3⟩:=List.getElem?_eq_some_iff.1 k2
  rw[List.getElem_set] at k3
  by_cases e1:a=j
  .unfold idxI; omega
  rw[if_neg e1] at k3
  exact absurd k3.symm (Zct h.diff ha2 (by omega) e1)
 refine⟨c1,?_⟩
 rw[eb,doF3 rfl,et]
 unfold renV
 show AlikeS ⟨(s.vars.set a e.name).set (a:Int).toNat s.vars[a],s.eqs,s.neqs,s.next⟩ s
 rw[Int.toNat_natCast,List.set_set,List.set_getElem_self]
 exact⟨rfl,rfl,rfl⟩
theorem Znf{l:List ByteArray}{a b:Nat}(ha:a<l.length)(hb:b<l.length):swapL (swapL l a b) a b=l:=by
 have ha':a<(swapL l a b).length:=by rw[Zat]; exact ha
 have hb':b<(swapL l a b).length:=by rw[Zat]; exact hb
 refine List.ext_getElem (by rw[Zat,Zat]) fun i h1 h2=>?_
 rw[ZbP ha' hb' h1,ZbP ha hb ha',ZbP ha hb hb']
 by_cases e1:b=i
 .subst e1
  rw[if_pos rfl]
  by_cases e2:b=a
  .subst e2; rw[if_pos rfl]
  rw[if_neg e2,if_pos rfl]
 rw[if_neg e1]
 by_cases e2:a=i
 .subst e2
  rw[if_pos rfl,if_pos rfl]
 rw[if_neg e2,ZbP ha hb,if_neg e1,if_neg e2]
theorem back4{s:Za}(h:Good s){e:Zc}(hk:e.kind=4)(hc:checkF s e=0):BackOk s e:=by
 obtain⟨h1,h2⟩:=check4 hk hc
 have hv:=h.vars
 have h1':=of_decide_eq_true h1
 have h2':=of_decide_eq_true h2
 obtain⟨a,ha⟩:=Int.eq_ofNat_of_zero_le h1'.1
 obtain⟨b,hb⟩:=Int.eq_ofNat_of_zero_le h2'.1
 have ha2:a<s.vars.length:=by omega
 have hb2:b<s.vars.length:=by omega
 have hπ:=swap_perm (a:=a) (b:=b) (by omega) (by omega)
 have hk2:=Zn6 (a:=a) (b:=b) (by omega) (by omega)
 have eb:backF s e=⟨4,ByteArray.empty,(a:Int),(b:Int),0,[],false⟩:=by unfold backF; rw[if_neg (by omega),if_neg (by omega),if_neg (by omega),if_pos hk,ha,hb]
 have ed:∀ t:Za,∀ d:Zc,d.at'=(a:Int)->d.to'=(b:Int)->swpV t d=⟨swapL t.vars a b,movedL (swapF a b) t.eqs,movedL (swapF a b) t.neqs,t.next⟩:=fun t d e1 e2=>by
  unfold swpV
  rw[e1,e2,Int.toNat_natCast,Int.toNat_natCast]
  rfl
 have et:doF s e=⟨swapL s.vars a b,movedL (swapF a b) s.eqs,movedL (swapF a b) s.neqs,s.next⟩:=by rw[doF4 hk]; exact ed s e ha hb
 have c1:checkF (doF s e) (backF s e)=0:=by
  rw[et,eb]
  exact ZnA rfl (Zi8 (by show a<(swapL s.vars a b).length; rw[Zat]; exact ha2)) (Zi8 (by show b<(swapL s.vars a b).length; rw[Zat]; exact hb2))
 refine⟨c1,?_⟩
 rw[eb,doF4 rfl,ed _ _ rfl rfl,et]
 show AlikeS ⟨swapL (swapL s.vars a b) a b,movedL (swapF a b) (movedL (swapF a b) s.eqs),movedL (swapF a b) (movedL (swapF a b) s.neqs),s.next⟩ s
 rw[Znf ha2 hb2,ZbW hπ hπ hk2 h.eqs.pols,ZbW hπ hπ hk2 h.neqs.pols]
 exact⟨rfl,rfl,rfl⟩
theorem ZeF{l:List Zb}(h:l.Pairwise fun a b=>a.id<b.id){x y:Zb}(hx:x ∈ l)(hy:y ∈ l)(e:x.id=y.id):x=y:=by
 obtain⟨i,hi,rfl⟩:=List.mem_iff_getElem.1 hx
 obtain⟨j,hj,rfl⟩:=List.mem_iff_getElem.1 hy
 rcases Nat.lt_trichotomy i j with h1|h1|h1
 .have:=List.pairwise_iff_getElem.1 h i j hi hj h1; omega
 .subst h1; rfl
 have:=List.pairwise_iff_getElem.1 h j i hj hi h1; omega
theorem ZjJ:∀ {a b:List Zb},(a.Pairwise fun x y=>x.id<y.id)->(b.Pairwise fun x y=>x.id<y.id)->(∀ q,q ∈ a↔q ∈ b)->a=b
 | [],[],_,_,_=>rfl
 | [],y::b,_,_,h=>absurd ((h y).2 List.mem_cons_self) List.not_mem_nil
 | x::a,[],_,_,h=>absurd ((h x).1 List.mem_cons_self) List.not_mem_nil
 | x::a,y::b,ha,hb,h=>by
  obtain⟨a1,a2⟩:=List.pairwise_cons.1 ha
  obtain⟨b1,b2⟩:=List.pairwise_cons.1 hb
  have hxy:x=y:=by
   rcases List.mem_cons.1 ((h x).1 List.mem_cons_self) with e|e
   .exact e
   rcases List.mem_cons.1 ((h y).2 List.mem_cons_self) with e2|e2
   .exact e2.symm
   have:=a1 y e2; have:=b1 x e; omega
  subst hxy
  rw[ZjJ a2 b2 fun q=>⟨fun hq=>by
   rcases List.mem_cons.1 ((h q).1 (List.mem_cons_of_mem _ hq)) with e|e
   .subst e; have:=a1 q hq; omega
   .exact e,fun hq=>by
   rcases List.mem_cons.1 ((h q).2 (List.mem_cons_of_mem _ hq)) with e|e
   .subst e; have:=b1 q hq; omega
   exact e⟩]
theorem ZeK{l:List Zb}{x q:Zb}:q ∈ putL l x↔q=x\/(q ∈ l/\q.id≠x.id):=by
 refine⟨Zcm,fun h=>?_⟩
 unfold putL
 rcases h with rfl|⟨h1,h2⟩
 .exact List.mem_append_right _ List.mem_cons_self
 rcases Int.lt_or_gt_of_ne h2 with h3|h3
 .exact List.mem_append_left _ (List.mem_filter.2 ⟨h1,decide_eq_true h3⟩)
 exact List.mem_append_right _ (List.mem_cons_of_mem _ (List.mem_filter.2 ⟨h1,decide_eq_true h3⟩))
theorem Zhq{l:List Zb}{id:Int}{q:Zb}:q ∈ dropL l id↔q ∈ l/\q.id≠id:=by
 unfold dropL
 rw[List.mem_filter,decide_eq_true_eq]
theorem Zgk{l:List Zb}(h:l.Pairwise fun a b=>a.id<b.id){x:Zb}{id:Int}(hx:x.id=id):dropL (putL l x) id=dropL l id:=by
 refine ZjJ (Zcu (ZiJ h x) id) (Zcu h id) fun q=>?_
 rw[Zhq,Zhq,ZeK]
 constructor
 .rintro⟨rfl|⟨h1,_⟩,h2⟩
  .exact absurd hx h2
  exact⟨h1,h2⟩
 rintro⟨h1,h2⟩
 exact⟨.inr ⟨h1,by omega⟩,h2⟩
theorem Zgv{l:List Zb}(h:l.Pairwise fun a b=>a.id<b.id){x:Zb}(hx:x ∈ l){id:Int}(he:x.id=id):putL (dropL l id) x=l:=by
 refine ZjJ (ZiJ (Zcu h id) x) h fun q=>?_
 rw[ZeK,Zhq]
 constructor
 .rintro (rfl|⟨⟨h1,_⟩,_⟩)
  .exact hx
  exact h1
 intro hq
 by_cases e:q.id=id
 .exact .inl (ZeF h hq hx (by omega))
 exact .inr ⟨⟨hq,e⟩,by omega⟩
theorem ZhN{l:List Zb}{x:Zb}(hx:x ∈ l){id:Int}(he:x.id=id):(dropL l id).length<l.length:=by
 refine List.length_filter_lt_length_iff_exists.2 ⟨x,hx,?_⟩
 simpa using he
theorem Zlz{l:List Zb}{id:Int}{p r:List Ze}(hu:∀ z ∈ l,z.id=id->z.p=r):setL id r (setL id p l)=l:=by
 unfold setL
 rw[List.map_map]
 refine (List.map_congr_left (g:=fun q=>q) fun q hq=>?_).trans (List.map_id' l)
 show (if (if q.id=id then (⟨q.id,p⟩:Zb) else q).id=id then (⟨(if q.id=id then (⟨q.id,p⟩:Zb) else q).id,r⟩:Zb) else (if q.id=id then (⟨q.id,p⟩:Zb) else q))=q
 by_cases e:q.id=id
 .rw[if_pos e,if_pos e,<- hu q hq e]
 rw[if_neg e,if_neg e]
theorem has_eq{s:Za}{q:Zb}(h:q ∈ s.eqs):hasB s q.id=true:=(Za9 s _).2 (.inl ⟨q,h,rfl⟩)
theorem Zmn{s:Za}{q:Zb}(h:q ∈ s.neqs):hasB s q.id=true:=(Za9 s _).2 (.inr ⟨q,h,rfl⟩)
theorem Zp4{s:Za}{id:Int}(h1:∀ q ∈ s.eqs,q.id≠id)(h2:∀ q ∈ s.neqs,q.id≠id):hasB s id=false:=by
 cases hb:hasB s id with
 | false=>rfl
 | true=>
  rcases (Za9 s id).1 hb with ⟨q,k1,k2⟩|⟨q,k1,k2⟩
  .exact absurd k2 (h1 q k1)
  exact absurd k2 (h2 q k1)
theorem Zpx{s:Za}{id:Int}(h:hasB s id=false):(∀ q ∈ s.eqs,q.id≠id)/\∀ q ∈ s.neqs,q.id≠id:=
 ⟨fun q hq e=>absurd (has_eq hq) (by rw[e,h]; decide),fun q hq e=>absurd (Zmn hq) (by rw[e,h]; decide)⟩
theorem back5{s:Za}(h:Good s){e:Zc}(hk:e.kind=5)(hc:checkF s e=0):BackOk s e:=by
 obtain⟨k1,k2,k3,k4,k5,k6,k7⟩:=check5 hk hc
 obtain⟨n1,n2⟩:=Zpx (ZjM h k1 k3)
 have eb:backF s e=⟨6,ByteArray.empty,0,0,numE s e,[],false⟩:=by unfold backF; rw[if_neg (by omega),if_neg (by omega),if_neg (by omega),if_neg (by omega),if_pos hk]
 have et:doF s e=addE s e:=doF5 hk
 have hq:∀ l,(⟨numE s e,e.p⟩:Zb) ∈ putL l ⟨numE s e,e.p⟩:=fun l=>ZeK.2 (.inl rfl)
 have c1:checkF (doF s e) (backF s e)=0:=by
  rw[et,eb]
  refine ZnB rfl ?_
  show hasB (addE s e) (numE s e)=true
  refine (Za9 _ _).2 ?_
  unfold addE
  cases hn:e.neq with
  | false=>exact .inl ⟨⟨numE s e,e.p⟩,by rw[if_neg (by decide)]; exact hq _,rfl⟩
  | true=>exact .inr ⟨⟨numE s e,e.p⟩,by rw[if_pos rfl]; exact hq _,rfl⟩
 refine⟨c1,?_⟩
 rw[eb,doF6 rfl,et]
 unfold dropE addE
 cases hn:e.neq with
 | false=>
  refine⟨rfl,?_,Zaq n2⟩
  show dropL (putL s.eqs ⟨numE s e,e.p⟩) (numE s e)=s.eqs
  rw[Zgk h.eqs.inc rfl,Zaq n1]
 | true=>
  refine⟨rfl,Zaq n1,?_⟩
  show dropL (putL s.neqs ⟨numE s e,e.p⟩) (numE s e)=s.neqs
  rw[Zgk h.neqs.inc rfl,Zaq n2]
theorem back6{s:Za}(h:Good s){e:Zc}(hk:e.kind=6)(hc:checkF s e=0):BackOk s e:=by
 have hb:=check78 (.inl hk) hc
 have hnx:=h.next
 have et:doF s e=dropE s e.id:=doF6 hk
 have ebk:backF s e=⟨5,ByteArray.empty,0,0,e.id,(findE s e.id).1.p,(findE s e.id).2.1⟩:=by unfold backF; rw[if_neg (by omega),if_neg (by omega),if_neg (by omega),if_neg (by omega),if_neg (by omega),if_pos hk]
 have hno:hasB (dropE s e.id) e.id=false:=Zp4 (Zcv _ _) (Zcv _ _)
 rcases ZbV h hb with ⟨_,q,hq,e1,e2,hn,_⟩|⟨_,q,hq,e1,e2,hn,_⟩
 .have eb:backF s e=⟨5,ByteArray.empty,0,0,e.id,q.p,false⟩:=by rw[ebk,e2]
  have hid:=h.eqs.ids q hq
  have hz:¬ e.id=0:=by omega
  have c1:checkF (doF s e) (backF s e)=0:=by
   rw[et,eb]
   refine Zj2 rfl (by show 0<=e.id/\e.id<=999999; omega) (fun _=>hno) ?_ (fun k=>absurd k hz) (h.eqs.pol q hq).2
   show (dropL s.eqs e.id).length<12
   have:=ZhN hq e1
   have:=h.eqs.len
   omega
  refine⟨c1,?_⟩
  rw[eb,doF5 rfl,et]
  unfold addE numE
  rw[if_neg hz]
  refine⟨rfl,?_,Zaq hn⟩
  show putL (dropL s.eqs e.id) ⟨e.id,q.p⟩=s.eqs
  rw[show (⟨e.id,q.p⟩:Zb)=q by rw[<- e1]]
  exact Zgv h.eqs.inc hq e1
 have eb:backF s e=⟨5,ByteArray.empty,0,0,e.id,q.p,true⟩:=by rw[ebk,e2]
 have hid:=h.neqs.ids q hq
 have hz:¬ e.id=0:=by omega
 have c1:checkF (doF s e) (backF s e)=0:=by
  rw[et,eb]
  refine Zj2 rfl (by show 0<=e.id/\e.id<=999999; omega) (fun _=>hno) ?_ (fun k=>absurd k hz) (h.neqs.pol q hq).2
  show (dropL s.neqs e.id).length<12
  have:=ZhN hq e1
  have:=h.neqs.len
  omega
 refine⟨c1,?_⟩
 rw[eb,doF5 rfl,et]
 unfold addE numE
 rw[if_neg hz]
 refine⟨rfl,Zaq hn,?_⟩
 show putL (dropL s.neqs e.id) ⟨e.id,q.p⟩=s.neqs
 rw[show (⟨e.id,q.p⟩:Zb)=q by rw[<- e1]]
 exact Zgv h.neqs.inc hq e1
theorem Zpo{s:Za}{e:Zc}(hb:hasB s e.id=true):hasB (setE s e) e.id=true:=by
 have hm:∀ l:List Zb,(∃ q ∈ l,q.id=e.id)->∃ q ∈ setL e.id e.p l,q.id=e.id:=fun l ⟨q,h1,h2⟩=>⟨⟨q.id,e.p⟩,by
  unfold setL
  exact List.mem_map.2 ⟨q,h1,if_pos h2⟩,h2⟩
 refine (Za9 _ _).2 ?_
 rcases (Za9 _ _).1 hb with k|k
 .exact .inl (hm _ k)
 exact .inr (hm _ k)
theorem back7{s:Za}(h:Good s){e:Zc}(hk:e.kind=7)(hc:checkF s e=0):BackOk s e:=by
 have hb:=check78 (.inr (.inl hk)) hc
 have et:doF s e=setE s e:=doF7 hk
 have ebk:backF s e=⟨7,ByteArray.empty,0,0,e.id,(findE s e.id).1.p,false⟩:=by unfold backF; rw[if_neg (by omega),if_neg (by omega),if_neg (by omega),if_neg (by omega),if_neg (by omega),if_neg (by omega),if_pos hk]
 have key:∀ q:Zb,findE s e.id=(q,(findE s e.id).2)->fitB q.p (s.vars.length:Int)=true->(∀ z ∈ s.eqs,z.id=e.id->z.p=q.p)->(∀ z ∈ s.neqs,z.id=e.id->z.p=q.p)->BackOk s e:=fun q e2 hf u1 u2=>by
  have eb:backF s e=⟨7,ByteArray.empty,0,0,e.id,q.p,false⟩:=by rw[ebk,e2]
  refine⟨?_,?_⟩
  .rw[et,eb]
   exact ZnC rfl (Zpo hb) hf
  rw[eb,doF7 rfl,et]
  unfold setE
  exact⟨rfl,Zlz u1,Zlz u2⟩
 rcases ZbV h hb with ⟨_,q,hq,e1,e2,hn,_⟩|⟨_,q,hq,e1,e2,hn,_⟩
 .exact key q (by rw[e2]) (h.eqs.pol q hq).2 (fun z hz ez=>by rw[ZeF h.eqs.inc hz hq (by omega)]) (fun z hz ez=>absurd ez (hn z hz))
 exact key q (by rw[e2]) (h.neqs.pol q hq).2 (fun z hz ez=>absurd ez (hn z hz)) (fun z hz ez=>by rw[ZeF h.neqs.inc hz hq (by omega)])
theorem Zi3{l:List Zb}{id:Int}(h:∀ q ∈ l,q.id≠id):¬ 0<=findI l id:=by
 rcases ZaV l id with ⟨_,k⟩|⟨j,q,k,_,_⟩
 .omega
 exact absurd (Zab k).2 (h q (Zab k).1)
theorem Zla{l:List Zb}{id:Int}{q:Zb}(h:q ∈ l)(e:q.id=id):0<=findI l id:=by
 rcases ZaV l id with ⟨k,_⟩|⟨j,q,_,k,_⟩
 .exact absurd e (Zeb k q h)
 omega
theorem back8{s:Za}(h:Good s){e:Zc}(hk:e.kind=8)(hc:checkF s e=0):BackOk s e:=by
 have hb:=check78 (.inr (.inr hk)) hc
 have et:doF s e=flipE s e.id:=doF8 hk
 have hg:Good (flipE s e.id):=h.flip8 hk hc
 have eb:backF s e=⟨8,ByteArray.empty,0,0,e.id,[],false⟩:=by unfold backF; rw[if_neg (by omega),if_neg (by omega),if_neg (by omega),if_neg (by omega),if_neg (by omega),if_neg (by omega),if_neg (by omega)]
 rcases ZbV h hb with ⟨_,q,hq,e1,e2,hn,e3⟩|⟨_,q,hq,e1,e2,hn,e3⟩
 .have hin:q ∈ (flipE s e.id).neqs:=by rw[e3]; exact ZeK.2 (.inl rfl)
  have hb2:hasB (flipE s e.id) e.id=true:=by have:=Zmn hin; rwa [e1] at this
  have hno:∀ z ∈ (flipE s e.id).eqs,z.id≠e.id:=by rw[e3]; exact Zcv _ _
  have c1:checkF (doF s e) (backF s e)=0:=by
   rw[et,eb]
   refine Zj3 rfl hb2 (fun k=>absurd k (Zi3 hno)) (fun _=>?_)
   rw[e3]
   have:=ZhN hq e1
   have:=h.eqs.len
   show (dropL s.eqs e.id).length<12
   omega
  refine⟨c1,?_⟩
  rw[eb,doF8 rfl,et]
  show AlikeS (flipE (flipE s e.id) e.id) s
  rcases ZbV hg hb2 with ⟨k,_⟩|⟨_,r,hr,r1,_,_,r3⟩
  .exact absurd k (Zi3 hno)
  rw[r3,ZeF hg.neqs.inc hr hin (by omega),e3]
  refine⟨rfl,Zgv h.eqs.inc hq e1,?_⟩
  show dropL (putL s.neqs q) e.id=s.neqs
  rw[Zgk h.neqs.inc e1,Zaq hn]
 have hin:q ∈ (flipE s e.id).eqs:=by rw[e3]; exact ZeK.2 (.inl rfl)
 have hb2:hasB (flipE s e.id) e.id=true:=by have:=has_eq hin; rwa [e1] at this
 have hno:∀ z ∈ (flipE s e.id).neqs,z.id≠e.id:=by rw[e3]; exact Zcv _ _
 have c1:checkF (doF s e) (backF s e)=0:=by
  rw[et,eb]
  refine Zj3 rfl hb2 (fun _=>?_) (fun k=>absurd (Zla hin e1) k)
  rw[e3]
  have:=ZhN hq e1
  have:=h.neqs.len
  show (dropL s.neqs e.id).length<12
  omega
 refine⟨c1,?_⟩
 rw[eb,doF8 rfl,et]
 show AlikeS (flipE (flipE s e.id) e.id) s
 rcases ZbV hg hb2 with ⟨_,r,hr,r1,_,_,r3⟩|⟨k,_⟩
 .rw[r3,ZeF hg.eqs.inc hr hin (by omega),e3]
  refine⟨rfl,?_,Zgv h.neqs.inc hq e1⟩
  show dropL (putL s.eqs q) e.id=s.eqs
  rw[Zgk h.eqs.inc e1,Zaq hn]
 exact absurd (Zla hin e1) k
theorem Zpd{s:Za}(h:Good s){e:Zc}(hc:checkF s e=0):BackOk s e:=by
 rcases kinds0 hc with k|k|k|k|k|k|k|k
 .exact back1 h k hc
 .exact back2 h k hc
 .exact back3 h k hc
 .exact back4 h k hc
 .exact back5 h k hc
 .exact back6 h k hc
 .exact back7 h k hc
 exact back8 h k hc
end Go.EL

namespace Go.EL
open Go.IntKind (i8 i16 i32 i64 u8 u16 u32 u64)
open Go Go.RowKit
structure VerOk (ss:List Za) (v:Nat) (x:Zf):Prop where
 par:0<=x.parent/\x.parent<(v:Int)
 oth:-1<=x.other/\x.other<(v:Int)
 len:x.e.length<=64
 eds:∀ e ∈ x.e,PolOk e.p/\KindOk e
 sys:∃ s,ss[x.parent.toNat]? = some s/\(allF s x.e 0).e=0/\ss[v]? = some (allF s x.e 0).s
structure HistOk (h:Zg) (ss:List Za):Prop where
 len:ss.length=h.v.length
 bd:1<=h.v.length/\h.v.length<=200
 fst:h.v[0]? = some ⟨-1,-1,[]⟩
 root:ss[0]? = some h.root
 ver:∀ v x,0<v->h.v[v]? = some x->VerOk ss v x
 good:∀ s ∈ ss,Good s
def zeroH:Zg:=⟨zeroS,[]⟩
section
variable {h:Zg}{ss:List Za}
theorem HistOk.rootG(hh:HistOk h ss):Good h.root:=hh.good _ (List.mem_of_getElem? hh.root)
theorem HistOk.at(hh:HistOk h ss){v:Nat}(hv:v<h.v.length):∃ s x,ss[v]? = some s/\h.v[v]? = some x/\Good s:=by
 have h1:=hh.len
 exact⟨ss[v]'(by omega),h.v[v],List.getElem?_eq_getElem _,List.getElem?_eq_getElem _,hh.good _ (List.getElem_mem _)⟩
theorem getD_some{α:Type}{l:List α}{k:Nat}{x d:α}(hx:l[k]? = some x):l.getD k d=x:=by rw[List.getD_eq_getElem?_getD,hx]; rfl
theorem ZcT{α:Type}{l:List α}{k:Nat}{x:α}(hx:l[k]? = some x):k<l.length:=(List.getElem?_eq_some_iff.1 hx).1
theorem idxS{α:Type}{l:List α}{k:Nat}{x:α}(hx:l[k]? = some x):(0:Int)<=(k:Int)/\l[(k:Int).toNat]? = some x:=⟨by omega,by rw[Int.toNat_natCast]; exact hx⟩
theorem Zff{α:Type}{l:List α}{k:Nat}{x:α}(hx:l[k]? = some x):l.take (k+1)=l.take k++[x]:=by
 obtain⟨hk,rfl⟩:=List.getElem?_eq_some_iff.1 hx
 rw[List.take_add_one,List.getElem?_eq_getElem hk]; rfl
theorem ZlY(hh:HistOk h ss):(Zb4 h).Ret (ss,true):=by
 have hl:=hh.len
 have hb:=hh.bd
 show (Cq.next _ _).wp _
 refine Cq.Zk (h.v.length-1) (fun k st=>st=(ss.take (k+1),((k+1:Nat):Int))) (fun k st hk hs=>?_) (fun st hs=>?_) ?_
 .subst hs
  obtain⟨_,x,_,hx,_⟩:=hh.at (v:=k+1) (by omega)
  obtain⟨⟨p0,p1⟩,⟨o0,o1⟩,hle,hed,s,hs1,hs2,hs3⟩:=hh.ver (k+1) x (by omega) hx
  have hsg:=hh.good _ (List.mem_of_getElem? hs1)
  refine Cq.wp.yes (p:=((k+1:Nat):Int)<(h.v.length:Int)) (by omega) ?_
  refine⟨x,idxS hx,?_⟩
  rw[Cq.Zd,if_neg (by omega),Cq.Zd,if_neg (by omega),Cq.Zd,if_neg (by omega),Cq.Zd,if_neg (by omega),Cq.Zd,if_neg (by omega)]
  refine⟨s,⟨p0,by rw[List.getElem?_take,if_pos (by omega)]; exact hs1⟩,_,ZkK (by omega) (fun e he=>(hed e he).1) hsg,?_⟩
  rw[Cq.Zd,if_neg (fun hh=>hh hs2)]
  refine⟨by rw[List.length_append,List.length_take,List.length_singleton]; unfold small; omega,?_⟩
  show _=_
  rw[wrapN (by omega),Zff hs3]
 .subst hs
  refine Cq.wp.no (p:=((h.v.length-1+1:Nat):Int)<(h.v.length:Int)) (by omega) ?_
  show _=_
  rw[List.take_of_length_le (by omega)]
 obtain⟨_,_⟩:=List.getElem?_eq_some_iff.1 hh.root
 rw[Zff hh.root]; rfl
def atF(ss:List Za)(v:Int):Za×Int:=if 0<=v/\v<(ss.length:Int) then (ss.getD v.toNat zeroS,0) else (zeroS,340)
theorem ZfT{v:Nat}{s:Za}(hs:ss[v]? = some s):atF ss (v:Int)=(s,0):=by
 have:=ZcT hs
 unfold atF
 rw[if_pos (by omega),Int.toNat_natCast,getD_some hs]
def hasB'(h:Zg)(v:Int):Bool:=decide (0<=v/\v<(h.v.length:Int))
theorem Zaz(h:Zg)(v:Int):(Zag h v).Ret (hasB' h v):=by
 unfold Zag hasB'
 by_cases h0:0<=v
 .rw[if_pos h0]; show _=_; simp[h0]
 rw[if_neg h0]; show _=_; simp[h0]
theorem Zh5(h:Zg)(v:Int):(ZhL h v).Ret (hasB' h v):=Zaz h v
theorem Zgh(hh:HistOk h ss)(v:Int):(Zg2 h v).Ret (atF ss v):=by
 have hl:=hh.len
 refine⟨_,Zh5 h v,?_⟩
 unfold hasB' atF
 by_cases c:0<=v/\v<(h.v.length:Int)
 .rw[decide_eq_true c,if_pos (by omega),Cq.Zd,if_neg (by decide)]
  obtain⟨s,x,hs,_⟩:=hh.at (v:=v.toNat) (by omega)
  refine⟨_,ZlY hh,s,⟨c.1,hs⟩,?_⟩
  rw[getD_some hs]; rfl
 rw[decide_eq_false c,if_neg (by omega),Cq.Zd,if_pos (by decide)]; rfl
theorem Znl(hh:HistOk h ss):∀ (k v:Nat) (s:Za),v<k->ss[v]? = some s->(Zcd h k (v:Int)).Ret s:=by
 intro k
 induction k with
 | zero=>intro v s hv; omega
 | succ k ih=>
  intro v s hv hs
  have hl:=hh.len
  have hvl:=ZcT hs
  show (if ((v:Nat):Int)=0 then _ else _:Cq _).wp _
  rw[Cq.Zd]
  by_cases c:(v:Int)=0
  .rw[if_pos c]
   have hv0:v=0:=by omega
   subst hv0
   rw[hh.root] at hs
   show _=_
   exact Option.some.inj hs
  rw[if_neg c]
  obtain⟨_,x,_,hx,_⟩:=hh.at (v:=v) (by omega)
  obtain⟨⟨p0,p1⟩,⟨o0,o1⟩,hle,hed,s1,hs1,hs2,hs3⟩:=hh.ver v x (by omega) hx
  obtain⟨p,hp⟩:∃ p:Nat,x.parent=p:=⟨x.parent.toNat,by omega⟩
  rw[hp,Int.toNat_natCast] at hs1
  refine⟨x,idxS hx,s1,by rw[hp]; exact ih p s1 (by omega) hs1,x,idxS hx,_,ZhH (by omega) hed (hh.good _ (List.mem_of_getElem? hs1)),?_⟩
  rw[hs3] at hs
  exact Option.some.inj hs
theorem ZgP(hh:HistOk h ss)(v:Int):(Zbs h v).Ret (atF ss v):=by
 have hl:=hh.len
 refine⟨_,Zaz h v,?_⟩
 unfold hasB' atF
 by_cases c:0<=v/\v<(h.v.length:Int)
 .rw[decide_eq_true c,if_pos (by omega),Cq.Zd,if_neg (by decide)]
  obtain⟨s,x,hs,_⟩:=hh.at (v:=v.toNat) (by omega)
  obtain⟨n,rfl⟩:∃ n:Nat,v=n:=⟨v.toNat,by omega⟩
  rw[Int.toNat_natCast] at hs ⊢
  refine⟨_,Znl hh (n+1) n s (by omega) hs,?_⟩
  rw[getD_some hs]; rfl
 rw[decide_eq_false c,if_neg (by omega),Cq.Zd,if_pos (by decide)]; rfl
theorem Zek{α:Type}{l:List α}{k j:Nat}{x:α}(hk:k<l.length):(l.set k x)[j]? = if k=j then some x else l[j]?:=by
 rw[List.getElem?_set]
 by_cases c:k=j
 .subst c; simp[hk]
 simp[c]
theorem Zh7(hh:HistOk h ss):(ZO h).Ret true:=by
 have hb:=hh.bd
 have hl:=hh.len
 refine⟨true,Zbv hh.rootG,?_⟩
 show (if (h.v.length:Int)<1 then _ else _:Cq _).wp _
 rw[Cq.Zd,if_neg (by omega),Cq.Zd,if_neg (by omega)]
 refine⟨by omega,?_⟩
 refine Cq.Zk h.v.length (fun k st=>∃ A:List Za,st=(A,(k:Int))/\A.length=h.v.length/\∀ j,j<k->A[j]? = ss[j]?) (fun k st hk hs=>?_) (fun st hs=>?_) ⟨_,rfl,by rw[List.length_replicate]; omega,fun j hj=>by omega⟩
 .obtain⟨A,rfl,hA,hAs⟩:=hs
  obtain⟨sk,x,hsk,hx,_⟩:=hh.at hk
  refine Cq.wp.yes (p:=(k:Int)<(h.v.length:Int)) (by omega) ?_
  refine⟨x,idxS hx,?_⟩
  rw[Cq.Zd]
  by_cases c:(k:Int)=0
  .have hk0:k=0:=by omega
   subst hk0
   rw[if_pos c]
   have hx0:=hh.fst
   rw[hx] at hx0
   cases hx0
   rw[Cq.Zd,if_neg (by decide),Cq.Zd,if_neg (by decide),Cq.Zd,if_neg (by decide)]
   refine⟨A[0],⟨by omega,List.getElem?_eq_getElem _⟩,?_⟩
   refine⟨A.set 0 h.root,?_,by rw[List.length_set]; exact hA,fun j hj=>?_⟩
   .show _=_
    rw[wrapN (by omega)]; rfl
   have hj0:j=0:=by omega
   subst hj0
   rw[Zek (by omega),if_pos rfl,hh.root]
  rw[if_neg c]
  obtain⟨⟨p0,p1⟩,⟨o0,o1⟩,hle,hed,s1,hs1,hs2,hs3⟩:=hh.ver k x (by omega) hx
  rw[Cq.Zd,if_neg (by omega),Cq.Zd,if_neg (by omega),Cq.Zd,if_neg (by omega),Cq.Zd,if_neg (by omega),Cq.Zd,if_neg (by omega)]
  refine⟨s1,⟨p0,by rw[hAs _ (by omega)]; exact hs1⟩,_,ZhH (by omega) hed (hh.good _ (List.mem_of_getElem? hs1)),?_⟩
  rw[Cq.Zd,if_neg (fun hh=>hh hs2)]
  refine⟨A[k],⟨by omega,List.getElem?_eq_getElem _⟩,A.set k (allF s1 x.e 0).s,?_,by rw[List.length_set]; exact hA,fun j hj=>?_⟩
  .show _=_
   rw[wrapN (by omega),Int.toNat_natCast]
  rw[Zek (by omega)]
  by_cases c2:k=j
  .subst c2; rw[if_pos rfl,hs3]
  rw[if_neg c2]; exact hAs j (by omega)
 obtain⟨A,rfl,hA,hAs⟩:=hs
 refine Cq.wp.no (p:=((h.v.length:Nat):Int)<(h.v.length:Int)) (by omega) ?_
 rfl
theorem ZoC{α:Type}{l:List α}{x y:α}{k:Nat}(hk:(l++[x])[k]? = some y):l[k]? = some y\/(k=l.length/\y=x):=by
 rw[List.getElem?_append] at hk
 split at hk
 .exact .inl hk
 rename_i hn
 have:=ZcT hk
 rw[List.length_singleton] at this
 have e:k=l.length:=by omega
 subst e
 rw[Nat.sub_self] at hk
 exact .inr ⟨rfl,(Option.some.inj hk).symm⟩
theorem Zcj{α:Type}{l m:List α}{y:α}{k:Nat}(hk:l[k]? = some y):(l++m)[k]? = some y:=by
 rw[List.getElem?_append_left (ZcT hk)]; exact hk
theorem VerOk.more{v:Nat}{x:Zf}(hv:VerOk ss v x)(m:List Za):VerOk (ss++m) v x:=by
 obtain⟨h1,h2,h3,h4,s,h5,h6,h7⟩:=hv
 exact⟨h1,h2,h3,h4,s,Zcj h5,h6,Zcj h7⟩
theorem HistOk.add(hh:HistOk h ss){v:Nat}{o:Int}{l:List Zc}{s:Za}(hs:ss[v]? = some s)(hn:h.v.length<200)(ho:-1<=o/\o<(h.v.length:Int))(hl:l.length<=64)(he:∀ e ∈ l,PolOk e.p/\KindOk e)(h0:(allF s l 0).e=0):
  HistOk ⟨h.root,h.v++[⟨(v:Int),o,l⟩]⟩ (ss++[(allF s l 0).s]) where
 len:=by show _=(h.v++_).length; rw[List.length_append,List.length_append,hh.len]; rfl
 bd:=by show 1<=(h.v++_).length/\(h.v++_).length<=200; rw[List.length_append,List.length_singleton]; omega
 fst:=Zcj hh.fst
 root:=Zcj hh.root
 ver:=fun w x hw hx=>by
  have hlen:=hh.len
  rcases ZoC hx with hx|⟨rfl,rfl⟩
  .exact (hh.ver w x hw hx).more _
  have:=ZcT hs
  refine⟨by show 0<=(v:Int)/\(v:Int)<_; omega,ho,hl,he,s,?_,h0,?_⟩
  .show (ss++_)[((v:Int)).toNat]? = _
   rw[Int.toNat_natCast]; exact Zcj hs
  rw[<- hlen,List.getElem?_append_right (Nat.le_refl _),Nat.sub_self]; rfl
 good:=fun x hx=>by
  rcases List.mem_append.1 hx with hx|hx
  .exact hh.good x hx
  rw[List.mem_singleton] at hx
  subst hx
  exact (ZhM (fun e h=>(he e h).1) (hh.good _ (List.mem_of_getElem? hs)) 0).2 h0
def addF(h:Zg)(ss:List Za)(v o:Int)(l:List Zc):Zg×Int×Int:=
 if 0<=v/\v<(h.v.length:Int) then
  if 200<=h.v.length\/64<l.length then (zeroH,0,2) else
  if (allF (ss.getD v.toNat zeroS) l 0).e=0 then (⟨h.root,h.v++[⟨v,o,l⟩]⟩,(h.v.length:Int),0) else (zeroH,0,(allF (ss.getD v.toNat zeroS) l 0).e)
 else (zeroH,0,340)
theorem Zeh{v:Nat}{s:Za}(hh:HistOk h ss)(hs:ss[v]? = some s){l:List Zc}(o:Int)(hn:h.v.length<200)(hl:l.length<=64)(h0:(allF s l 0).e=0):addF h ss (v:Int) o l=(⟨h.root,h.v++[⟨v,o,l⟩]⟩,(h.v.length:Int),0):=by
 have:=ZcT hs
 have:=hh.len
 unfold addF
 rw[if_pos (by omega),if_neg (by omega),Int.toNat_natCast,getD_some hs,if_pos h0]
theorem Zmz(hh:HistOk h ss)(v o:Int){l:List Zc}(hl:l.length<=1000)(he:∀ e ∈ l,PolOk e.p/\KindOk e):(Zgg h v o l).Ret ⟨(addF h ss v o l).1,(addF h ss v o l).2.1,(addF h ss v o l).2.2⟩:=by
 have hlen:=hh.len
 have hb:=hh.bd
 refine⟨_,Zh5 h v,?_⟩
 unfold hasB' addF
 by_cases c:0<=v/\v<(h.v.length:Int)
 .rw[decide_eq_true c,if_pos c,Cq.Zd,if_neg (by decide),Cq.Zd]
  by_cases c1:200<=h.v.length
  .rw[if_pos (show 200<=h.v.length\/64<l.length from .inl c1),if_pos (by omega)]; rfl
  rw[if_neg (by omega),Cq.Zd]
  by_cases c2:64<l.length
  .rw[if_pos (show 200<=h.v.length\/64<l.length from .inr c2),if_pos (by omega)]; rfl
  rw[if_neg (by omega),if_neg (by omega)]
  obtain⟨s,x,hs,_,hg⟩:=hh.at (v:=v.toNat) (by omega)
  obtain⟨n,rfl⟩:∃ n:Nat,v=n:=⟨v.toNat,by omega⟩
  rw[Int.toNat_natCast] at hs ⊢
  rw[getD_some hs]
  refine⟨_,Zgh hh n,?_⟩
  rw[ZfT hs]
  refine⟨_,ZkK hl (fun e h=>(he e h).1) hg,?_⟩
  rw[Cq.Zd]
  by_cases c3:(allF s l 0).e=0
  .rw[if_neg (fun hh=>hh c3),if_pos c3]
   refine⟨?_,?_,?_,?_⟩
   .simp only[List.nil_append,small]; omega
   .simp only[List.nil_append,small]; omega
   .simp only[List.nil_append,List.length_append,List.length_singleton,small]; omega
   show _=_
   simp only[List.nil_append]
  rw[if_pos c3,if_neg c3]; rfl
 rw[decide_eq_false c,if_neg c,Cq.Zd,if_pos (by decide)]; rfl
theorem Zov{l:List Zc}(hl:l.length<=1000):(Zah l).Ret l:=
 ⟨fun e=>by subst e; rfl,by rw[List.nil_append]; unfold small; omega,List.nil_append l⟩
theorem Zow{l:List Zf}(hl:l.length<=1000):(Z0 l).Ret l:=
 ⟨fun e=>by subst e; rfl,by rw[List.nil_append]; unfold small; omega,List.nil_append l⟩
theorem ZbQ(hh:HistOk h ss)(v:Int){l:List Zc}(hl:l.length<=1000)(he:∀ e ∈ l,PolOk e.p/\KindOk e):(Zap h v l).Ret (addF h ss v (-1) l):=by
 have hlen:=hh.len
 have hb:=hh.bd
 refine⟨_,ZgP hh v,?_⟩
 unfold atF addF
 by_cases c:0<=v/\v<(h.v.length:Int)
 .rw[if_pos (by omega),if_pos c]
  show (if ¬ (0:Int)=0 then _ else _:Cq _).wp _
  rw[Cq.Zd,if_neg (by decide),Cq.Zd]
  by_cases c1:200<=h.v.length
  .rw[if_pos (show 200<=h.v.length\/64<l.length from .inl c1),if_pos (by omega)]; rfl
  rw[if_neg (by omega),Cq.Zd]
  by_cases c2:64<l.length
  .rw[if_pos (show 200<=h.v.length\/64<l.length from .inr c2),if_pos (by omega)]; rfl
  rw[if_neg (by omega),if_neg (by omega)]
  obtain⟨s,x,hs,_,hg⟩:=hh.at (v:=v.toNat) (by omega)
  rw[getD_some hs]
  refine⟨_,ZhH hl he hg,?_⟩
  show (if ¬ (allF s l 0).e=0 then _ else _:Cq _).wp _
  rw[Cq.Zd]
  by_cases c3:(allF s l 0).e=0
  .rw[if_neg (fun hh=>hh c3),if_pos c3]
   refine⟨_,Zov hl,_,Zow (by omega),?_,rfl⟩
   rw[List.length_append,List.length_singleton]; unfold small; omega
  rw[if_pos c3,if_neg c3]; rfl
 rw[if_neg (by omega),if_neg c]
 show (if ¬ (340:Int)=0 then _ else _:Cq _).wp _
 rw[Cq.Zd,if_pos (by decide)]; rfl
end
end Go.EL

namespace Go.EL
open Go.IntKind (i8 i16 i32 i64 u8 u16 u32 u64)
open Go Go.RowKit
section
variable {h:Zg}{ss:List Za}
theorem Zht{v:Nat}{x:Zf}(hx:h.v[v]? = some x):parV h v=x.parent/\othV h v=x.other:=by
 unfold parV othV; rw[hx]; exact⟨rfl,rfl⟩
theorem HistOk.down(hh:HistOk h ss):DownOk (parV h) (othV h) h.v.length:=fun b hb=>by
 obtain⟨_,x,_,hx,_⟩:=hh.at hb
 obtain⟨e1,e2⟩:=Zht hx
 by_cases c:b=0
 .subst c
  have:=hh.fst
  rw[hx] at this
  cases this
  rw[e1,e2]; exact⟨by decide,by decide⟩
 obtain⟨p,o,_⟩:=hh.ver b x (by omega) hx
 rw[e1,e2]; omega
theorem HistOk.downB(hh:HistOk h ss){v:Nat}(hv:v<h.v.length):downB h v=true:=by
 have hb:=hh.bd
 unfold Go.EL.downB
 rw[Bool.and_eq_true,decide_eq_true_eq,List.all_eq_true]
 refine⟨by omega,fun k hk=>?_⟩
 rw[List.mem_range] at hk
 obtain⟨_,x,_,hx,_⟩:=hh.at (v:=k) (by omega)
 have hd:=hh.down k (by omega)
 obtain⟨e1,e2⟩:=Zht hx
 rw[e1,e2] at hd
 rw[hx]
 show (decide _ && decide _)=true
 rw[decide_eq_true (show x.parent<=(v:Int) by omega),decide_eq_true (show x.other<=(v:Int) by omega)]; rfl
def upH(h:Zg)(a b:Int):Bool:=hasB' h a && (hasB' h b && upB (parV h) (othV h) b.toNat a.toNat)
theorem ZlG{a b:Nat}(ha:a<h.v.length)(hb:b<h.v.length):upH h (a:Int) (b:Int)=upB (parV h) (othV h) b a:=by
 unfold upH hasB'
 rw[decide_eq_true (by omega),decide_eq_true (by omega)]; rfl
theorem Zqe{a b:Int}(hu:upH h a b=true):∃ m n:Nat,a=m/\b=n/\m<h.v.length/\n<h.v.length/\upB (parV h) (othV h) n m=true:=by
 unfold upH hasB' at hu
 rw[Bool.and_eq_true,Bool.and_eq_true,decide_eq_true_eq,decide_eq_true_eq] at hu
 exact⟨a.toNat,b.toNat,by omega,by omega,by omega,by omega,hu.2.2⟩
theorem ZgN(hh:HistOk h ss)(a b:Int):(ZaP h a b).Ret (upH h a b):=by
 refine⟨_,Zaz h a,?_⟩
 unfold upH
 cases ha:hasB' h a with
 | false=>rfl
 | true=>
  refine⟨_,Zaz h b,?_⟩
  cases hb:hasB' h b with
  | false=>exact Cq.wp.yes rfl rfl
  | true=>
   have ha':=of_decide_eq_true ha
   have hb':=of_decide_eq_true hb
   refine Cq.wp.no (by decide) ⟨⟨hb'.1,hh.downB (by omega)⟩,?_⟩
   show decide _=(true && (true && _))
   rw[Bool.true_and,Bool.true_and]
   have:=Zck hh.down (b:=b.toNat) (by omega) (a:=a.toNat)
   rw[show ((a.toNat:Nat):Int)=a by omega] at this
   exact Bool.eq_iff_iff.2 (by rw[decide_eq_true_eq]; exact this)
theorem ZjR(hh:HistOk h ss):∀ {b:Nat},b<h.v.length->upB (parV h) (othV h) b 0=true:=by
 intro b
 induction b using Nat.strongRecOn with
 | _ b ih=>
  intro hb
  by_cases c:b=0
  .subst c; exact Zcp 0
  obtain⟨_,x,_,hx,_⟩:=hh.at hb
  obtain⟨e1,e2⟩:=Zht hx
  obtain⟨⟨p0,p1⟩,_⟩:=hh.ver b x (by omega) hx
  exact (Za6 hh.down hb 0).2 (.inr (.inl ⟨by omega,ih _ (by omega) (by omega)⟩))
def BaseR(h:Zg)(a b:Int)(r:Int×Int):Prop:=
 (hasB' h a=true/\hasB' h b=true/\∃ v,IsBase (parV h) (othV h) a.toNat b.toNat v/\r=((v:Int),0))\/(¬ (hasB' h a=true/\hasB' h b=true)/\r=(0,340))
theorem Zol(hh:HistOk h ss)(a b:Int):∃ r,(Zc4 h a b).Ret r/\BaseR h a b r:=by
 cases ha:hasB' h a with
 | false=>exact⟨_,⟨_,Zaz h a,by rw[ha]; rfl⟩,.inr ⟨fun x=>(by rw[ha] at x; cases x.1),rfl⟩⟩
 | true=>
  cases hb:hasB' h b with
  | false=>exact⟨_,⟨_,Zaz h a,by rw[ha]; exact⟨_,Zaz h b,by rw[hb]; exact Cq.wp.yes rfl rfl⟩⟩,.inr ⟨fun x=>(by rw[hb] at x; cases x.2),rfl⟩⟩
  | true=>
   have ha':=of_decide_eq_true ha
   have hb':=of_decide_eq_true hb
   have hal:a.toNat<h.v.length:=by omega
   have hbl:b.toNat<h.v.length:=by omega
   cases hf:(ancU (parV h) (othV h) a.toNat).find? (fun c=>decide (c ∈ ancU (parV h) (othV h) b.toNat)) with
   | none=>
    have:=List.find?_eq_none.1 hf ((0:Nat):Int) ((Zck hh.down hal).2 (ZjR hh hal))
    rw[decide_eq_true ((Zck hh.down hbl).2 (ZjR hh hbl))] at this
    exact absurd rfl this
   | some v=>
    obtain⟨u,rfl,h1⟩:=Znw hh.down hal hbl hf
    refine⟨((u:Int),0),⟨_,Zaz h a,?_⟩,.inl ⟨ha,hb,u,h1,rfl⟩⟩
    rw[ha]
    refine⟨_,Zaz h b,?_⟩
    rw[hb]
    refine Cq.wp.no (by decide) ⟨⟨⟨ha'.1,hh.downB hal⟩,hb'.1,hh.downB hbl⟩,?_⟩
    rw[hf]; rfl
end
end Go.EL

namespace Go.EL
open Go.IntKind (i8 i16 i32 i64 u8 u16 u32 u64)
open Go Go.RowKit
def Runs:Za->List Zc->Prop
 | _,[]=>True
 | s,e::l=>checkF s e=0/\Runs (doF s e) l
def runF:Za->List Zc->Za
 | s,[]=>s
 | s,e::l=>runF (doF s e) l
theorem Zey:∀ {l:List Zc}{s:Za},Runs s l->∀ k,allF s l k=⟨runF s l,((k+l.length:Nat):Int),0⟩
 | [],_,_,_=>rfl
 | e::l,s,hr,k=>by
  unfold allF
  rw[if_pos hr.1,Zey hr.2 (k+1),show k+1+l.length=k+(e::l).length by rw[List.length_cons]; omega]; rfl
theorem Zmu:∀ {l:List Zc}{s:Za}{k:Nat},(allF s l k).e=0->Runs s l
 | [],_,_,_=>trivial
 | e::l,s,k,h=>by
  unfold allF at h
  by_cases hc:checkF s e=0
  .rw[if_pos hc] at h; exact⟨hc,Zmu h⟩
  rw[if_neg hc] at h; exact absurd h hc
theorem ZbD:∀ {a b:List Zc}{s:Za},Runs s (a++b)↔Runs s a/\Runs (runF s a) b
 | [],_,_=>⟨fun h=>⟨trivial,h⟩,fun h=>h.2⟩
 | _::_,_,_=>⟨fun h=>⟨⟨h.1,(ZbD.1 h.2).1⟩,(ZbD.1 h.2).2⟩,fun h=>⟨h.1.1,ZbD.2 ⟨h.1.2,h.2⟩⟩⟩
theorem Zgw:∀ (a b:List Zc) (s:Za),runF s (a++b)=runF (runF s a) b
 | [],_,_=>rfl
 | e::a,b,s=>Zgw a b (doF s e)
theorem Zkk:∀ {l:List Zc}{s:Za},Good s->(∀ e ∈ l,PolOk e.p)->Runs s l->Good (runF s l)
 | [],_,h,_,_=>h
 | e::l,s,h,hp,hr=>by
  show Good (runF (doF s e) l)
  exact Zkk (h.edit (hp e List.mem_cons_self) hr.1) (fun x hx=>hp x (List.mem_cons_of_mem _ hx)) hr.2
theorem ZiM:∀ (l:List Zc) (s:Za),s.next<=(runF s l).next
 | [],_=>Int.le_refl _
 | e::l,s=>Int.le_trans (Zkg s e).1 (ZiM l (doF s e))
theorem Zjh:∀ {l:List Zc}{s:Za},RunOk s l->Runs s l
 | [],_,_=>trivial
 | _::_,_,⟨_,h2,h3⟩=>⟨h2,Zjh h3⟩
def NoNext(e:Zc):Prop:=e.kind=5->e.id≠0
theorem ZmS{a b:Za}(h:AlikeS a b){e:Zc}(he:NoNext e):checkF a e=checkF b e/\AlikeS (doF a e) (doF b e):=by
 obtain⟨v,q,n,x⟩:=a
 obtain⟨v',q',n',y⟩:=b
 obtain⟨h1,h2,h3⟩:=h
 dsimp only at h1 h2 h3
 subst h1 h2 h3
 constructor
 .by_cases c:e.kind=5
  .have h0:=he c
   have k5:∀ s,checkF s e=addC s e:=fun s=>by unfold checkF; rw[if_neg (by omega),if_neg (by omega),if_neg (by omega),if_neg (by omega),if_pos c]
   rw[k5,k5]
   unfold addC
   simp only[h0,hasB,false_and,or_false]
  unfold checkF
  simp only[if_neg c]; rfl
 unfold doF
 repeat' split
 .exact⟨rfl,rfl,rfl⟩
 .exact⟨rfl,rfl,rfl⟩
 .exact⟨rfl,rfl,rfl⟩
 .exact⟨rfl,rfl,rfl⟩
 .rename_i c
  have h0:=he c
  unfold addE numE
  simp only[if_neg h0]
  exact⟨rfl,rfl,rfl⟩
 .exact⟨rfl,rfl,rfl⟩
 .exact⟨rfl,rfl,rfl⟩
 unfold flipE insS dropE findE
 dsimp only
 split <;> (split <;> first|exact⟨rfl,rfl,rfl⟩|(split <;> exact⟨rfl,rfl,rfl⟩)|skip)
 all_goals (try exact⟨rfl,rfl,rfl⟩)
theorem Znu{s:Za}{e:Zc}(hk:(backF s e).kind=5):e.kind=6:=by
 unfold backF at hk
 repeat' split at hk
 all_goals first|assumption|(exfalso; dsimp only at hk; omega)
theorem Zl2{s:Za}(h:Good s){e:Zc}(hc:checkF s e=0):NoNext (backF s e):=by
 intro hk
 have k:=Znu hk
 have hb:=check78 (.inl k) hc
 unfold backF
 rw[if_neg (by omega),if_neg (by omega),if_neg (by omega),if_neg (by omega),if_neg (by omega),if_pos k]
 intro h0
 have h0':e.id=0:=h0
 rw[Zle h (by omega)] at hb
 cases hb
def undoL:Za->List Zc->List Zc
 | _,[]=>[]
 | s,e::l=>undoL (doF s e) l++[backF s e]
theorem ZiP:∀ (l:List Zc) (s:Za),(undoL s l).length=l.length
 | [],_=>rfl
 | e::l,s=>by
  show (undoL (doF s e) l++[backF s e]).length=_
  rw[List.length_append,ZiP l,List.length_singleton,List.length_cons]
theorem ZlF:∀ {l:List Zc}{s:Za},Good s->(∀ e ∈ l,PolOk e.p)->Runs s l->∀ e ∈ undoL s l,PolOk e.p/\KindOk e
 | [],_,_,_,_,_,he=>absurd he List.not_mem_nil
 | x::l,s,h,hp,hr,e,he=>by
  rcases List.mem_append.1 he with he|he
  .exact ZlF (h.edit (hp x List.mem_cons_self) hr.1) (fun x hx=>hp x (List.mem_cons_of_mem _ hx)) hr.2 e he
  rw[List.mem_singleton] at he
  subst he
  exact⟨Zot h x,Znv s x⟩
theorem AlikeS.trans{a b c:Za}(h:AlikeS a b)(k:AlikeS b c):AlikeS a c:=⟨h.1.trans k.1,h.2.1.trans k.2.1,h.2.2.trans k.2.2⟩
theorem Zkp:∀ {l:List Zc}{s:Za},Good s->(∀ e ∈ l,PolOk e.p)->Runs s l->Runs (runF s l) (undoL s l)/\AlikeS (runF (runF s l) (undoL s l)) s
 | [],_,_,_,_=>⟨trivial,rfl,rfl,rfl⟩
 | e::l,s,h,hp,hr=>by
  obtain⟨h1,h2⟩:=Zkp (h.edit (hp e List.mem_cons_self) hr.1) (fun x hx=>hp x (List.mem_cons_of_mem _ hx)) hr.2
  have hb:=Zpd h hr.1
  have hn:=Zl2 h hr.1
  obtain⟨k1,k2⟩:=ZmS h2 hn
  refine⟨ZbD.2 ⟨h1,k1.trans hb.c,trivial⟩,?_⟩
  show AlikeS (runF (runF (doF s e) l) (undoL (doF s e) l++[backF s e])) s
  rw[Zgw]
  exact k2.trans hb.a
theorem Zh6{l:List Zc}(hl:l.length<=1000):(Z9 l).Ret l.reverse:=by
 show (Cq.next _ _).wp _
 by_cases hn:l.length=0
 .have:l=[]:=List.length_eq_zero_iff.1 hn
  subst this
  refine Cq.ZW ?_
  show (if (0:Int)<i64.wrap (((0:Nat):Int)-1) then _ else _:Cq _).wp _
  rw[Cq.Zd,if_neg (by decide)]; rfl
 have hw:i64.wrap ((l.length:Int)-1)=((l.length-1:Nat):Int):=by rw[wrap64 (by omega)]; omega
 rw[hw]
 refine Cq.Zk (l.length / 2) (fun k st=>∃ A:List Zc,st=(A,(k:Int),((l.length-1-k:Nat):Int))/\A.length=l.length/\∀ m,m<l.length->A[m]? = if m<k\/l.length-k<=m then l[l.length-1-m]? else l[m]?) (fun k st hk hs=>?_) (fun st hs=>?_) ⟨l,rfl,rfl,fun m hm=>by rw[if_neg (by omega)]⟩
 .obtain⟨A,rfl,hA,hm⟩:=hs
  have hw1:i64.wrap ((k:Int)+1)=((k+1:Nat):Int):=wrapN (by omega)
  have hw2:i64.wrap (((l.length-1-k:Nat):Int)-1)=((l.length-1-(k+1):Nat):Int):=by rw[wrap64 (by omega)]; omega
  refine Cq.wp.yes (p:=(k:Int)<((l.length-1-k:Nat):Int)) (by omega) ?_
  have hj:l.length-1-k<A.length:=by omega
  have hi:k<A.length:=by omega
  refine⟨A[l.length-1-k],idxN hj,A[k],idxN hi,A[k],idxN hi,?_⟩
  rw[Int.toNat_natCast]
  have hj2:l.length-1-k<(A.set k A[l.length-1-k]).length:=by rw[List.length_set]; exact hj
  refine⟨_,idxN hj2,(A.set k A[l.length-1-k]).set (l.length-1-k) A[k],?_,by rw[List.length_set,List.length_set]; exact hA,fun m hml=>?_⟩
  .show _=_
   rw[hw1,hw2,Int.toNat_natCast]
  rw[Zek hj2,Zek hi]
  have e1:A[k]? = l[k]?:=by rw[hm k (by omega),if_neg (by omega)]
  have e2:A[l.length-1-k]? = l[l.length-1-k]?:=by rw[hm _ (by omega),if_neg (by omega)]
  rw[List.getElem?_eq_getElem hi] at e1
  rw[List.getElem?_eq_getElem hj] at e2
  by_cases c1:l.length-1-k=m
  .subst c1
   rw[if_pos rfl,if_pos (by omega),e1,show l.length-1-(l.length-1-k)=k by omega]
  rw[if_neg c1]
  by_cases c2:k=m
  .subst c2
   rw[if_pos rfl,if_pos (by omega),e2]
  rw[if_neg c2,hm m hml]
  by_cases c3:m<k\/l.length-k<=m
  .rw[if_pos c3,if_pos (by omega)]
  rw[if_neg c3,if_neg (by omega)]
 obtain⟨A,rfl,hA,hm⟩:=hs
 refine Cq.wp.no (p:=((l.length / 2:Nat):Int)<((l.length-1-l.length / 2:Nat):Int)) (by omega) ?_
 show A=l.reverse
 refine List.ext_getElem? (fun m=>?_)
 by_cases c:m<l.length
 .rw[List.getElem?_reverse c,hm m c]
  by_cases c2:m<l.length / 2\/l.length-l.length / 2<=m
  .rw[if_pos c2]
  rw[if_neg c2,show l.length-1-m=m by omega]
 rw[List.getElem?_eq_none (by omega),List.getElem?_eq_none (by rw[List.length_reverse]; omega)]
section
variable {h:Zg}{ss:List Za}
def beforeF(h:Zg)(ss:List Za)(v:Nat):Za:=if v=0 then h.root else ss.getD (parV h v).toNat zeroS
def editsF(h:Zg)(v:Nat):List Zc:=((h.v[v]?).map (·.e)).getD []
theorem Zgn{v:Nat}{x:Zf}(hx:h.v[v]? = some x):editsF h v=x.e:=by unfold editsF; rw[hx]; rfl
theorem HistOk.version(hh:HistOk h ss){v:Nat}(hv:v<h.v.length):Good (beforeF h ss v)/\(∀ e ∈ editsF h v,PolOk e.p/\KindOk e)/\(editsF h v).length<=64/\Runs (beforeF h ss v) (editsF h v)/\ss[v]? = some (runF (beforeF h ss v) (editsF h v)):=by
 obtain⟨_,x,_,hx,_⟩:=hh.at hv
 rw[Zgn hx]
 unfold beforeF
 by_cases c:v=0
 .subst c
  have hf:=hh.fst
  rw[hx] at hf
  cases hf
  rw[if_pos rfl]
  exact⟨hh.rootG,fun e he=>absurd he List.not_mem_nil,by decide,trivial,hh.root⟩
 rw[if_neg c,(Zht hx).1]
 obtain⟨_,_,hl,he,s,h1,h2,h3⟩:=hh.ver v x (by omega) hx
 rw[getD_some h1]
 have hr:=Zmu h2
 rw[Zey hr 0] at h3
 exact⟨hh.good _ (List.mem_of_getElem? h1),he,hl,hr,h3⟩
def undoV(h:Zg)(ss:List Za)(v:Nat):List Zc:=undoL (beforeF h ss v) (editsF h v)
theorem Zkn(v:Nat):(undoV h ss v).length=(editsF h v).length:=ZiP _ _
theorem Zko(hh:HistOk h ss){v:Nat}(hv:v<h.v.length):∀ e ∈ undoV h ss v,PolOk e.p/\KindOk e:=by
 obtain⟨h1,h2,_,h4,_⟩:=hh.version hv
 exact ZlF h1 (fun e he=>(h2 e he).1) h4
def undoF(h:Zg)(ss:List Za)(at' v:Int):Zg×Int×Int:=if upH h v at'=true then addF h ss at' (-1) (undoV h ss v.toNat) else (zeroH,0,340)
theorem Zoc{l:List Zc}{k:Nat}(hk:k<l.length):∀ (s:Za),undoL s (l.take (k+1))=backF (runF s (l.take k)) l[k]::undoL s (l.take k)/\(Runs s l->checkF (runF s (l.take k)) l[k]=0)/\runF s (l.take (k+1))=doF (runF s (l.take k)) l[k]:=by
 have e:l.take (k+1)=l.take k++[l[k]]:=Zff (List.getElem?_eq_getElem hk)
 have key:∀ (a:List Zc) (x:Zc) (s:Za),undoL s (a++[x])=backF (runF s a) x::undoL s a:=by
  intro a
  induction a with
  | nil=>intro x s; rfl
  | cons y a ih=>intro x s; show undoL (doF s y) (a++[x])++[backF s y]=_; rw[ih]; rfl
 intro s
 refine⟨by rw[e]; exact key _ _ s,fun hr=>?_,by rw[e,Zgw]; rfl⟩
 have hr2:Runs s (l.take k++l.drop k):=by rw[List.take_append_drop]; exact hr
 have h3:=(ZbD.1 hr2).2
 rw[List.drop_eq_getElem_cons hk] at h3
 exact h3.1
theorem Zn8{l:List Zc}{s:Za}(hg:Good s)(hp:∀ e ∈ l,PolOk e.p)(hr:Runs s l)(k:Nat):Good (runF s (l.take k)):=by
 have hr2:Runs s (l.take k++l.drop k):=by rw[List.take_append_drop]; exact hr
 exact Zkk hg (fun e he=>hp e (List.mem_of_mem_take he)) (ZbD.1 hr2).1
theorem Zp7{s:Za}{e:Zc}(hc:checkF s e=0):invF s e=(backF s e,0)/\applyF s e=(doF s e,0):=by
 unfold invF applyF; rw[if_pos hc,if_pos hc]; exact⟨rfl,rfl⟩
theorem ZkZ(hh:HistOk h ss)(a v:Int):(Zc5 h a v).Ret (undoF h ss a v):=by
 refine⟨_,ZgN hh v a,?_⟩
 unfold undoF
 cases hu:upH h v a with
 | false=>exact Cq.wp.yes rfl rfl
 | true=>
  obtain⟨m,n,rfl,rfl,hm,hn,_⟩:=Zqe hu
  rw[if_pos rfl,Int.toNat_natCast]
  obtain⟨hg,he,hl,hr,hs⟩:=hh.version hm
  obtain⟨s,x,_,hx,_⟩:=hh.at hm
  have hpol:=Zko hh hm
  have hul:=Zkn (h:=h) (ss:=ss) m
  refine Cq.wp.no (by decide) ?_
  rw[Cq.Zd]
  by_cases c:0<(m:Int)
  .rw[if_pos c]
   refine⟨x,idxS hx,_,ZgP hh x.parent,x,idxS hx,?_⟩
   obtain⟨⟨p0,p1⟩,_,_,_,s1,hs1,_⟩:=hh.ver m x (by omega) hx
   have hat:(atF ss x.parent).1=beforeF h ss m:=by
    obtain⟨p,hp⟩:∃ p:Nat,x.parent=p:=⟨x.parent.toNat,by omega⟩
    unfold beforeF
    rw[if_neg (by omega),(Zht hx).1,getD_some hs1]
    rw[hp,Int.toNat_natCast] at hs1
    rw[hp,ZfT hs1]
   rw[hat]
   have hxe:=Zgn hx
   unfold undoV at hpol hul ⊢
   rw[hxe] at he hl hr hs hpol hul ⊢
   refine Cq.Zk x.e.length (fun k st=>st=((undoL (beforeF h ss m) (x.e.take k)).reverse,(k:Int),runF (beforeF h ss m) (x.e.take k))) (fun k st hk hst=>?_) (fun st hst=>?_) rfl
   .subst hst
    obtain⟨u1,u2,u3⟩:=Zoc hk (beforeF h ss m)
    have hck:=u2 hr
    have hek:=he x.e[k] (List.getElem_mem hk)
    have hgk:=Zn8 hg (fun e h=>(he e h).1) hr k
    obtain⟨i1,i2⟩:=Zp7 hck
    refine Cq.wp.yes (p:=(k:Int)<(x.e.length:Int)) (by omega) ?_
    refine⟨x.e[k],idxN hk,_,ZlI hgk hek.1 hek.2,?_⟩
    refine⟨?_,_,ZgO hgk hek.1 hek.2,?_⟩
    .rw[List.length_append,List.length_reverse,ZiP,List.length_take,List.length_singleton]; unfold small; omega
    show _=_
    rw[i1,i2,wrapN (by omega),u1,u3,List.reverse_cons]
   subst hst
   rw[List.take_length]
   refine Cq.wp.no (p:=((x.e.length:Nat):Int)<(x.e.length:Int)) (by omega) ?_
   refine⟨_,Zh6 (by rw[List.length_reverse]; omega),?_⟩
   rw[List.reverse_reverse]
   exact⟨_,ZbQ hh n (by omega) hpol,rfl⟩
  rw[if_neg c]
  have hm0:m=0:=by omega
  subst hm0
  have e0:editsF h 0=[]:=Zgn hh.fst
  have eu:undoV h ss 0=[]:=by unfold undoV; rw[e0]; rfl
  rw[eu]
  exact⟨_,Zh6 (by decide),_,ZbQ hh n (by decide) (fun e he=>absurd he List.not_mem_nil),rfl⟩
end
end Go.EL

namespace Go.EL
open Go.IntKind (i8 i16 i32 i64 u8 u16 u32 u64)
open Go Go.RowKit
section
variable {h:Zg}{ss:List Za}
theorem HistOk.Zob(hh:HistOk h ss){v:Nat}(hv:v<h.v.length)(hn:h.v.length<200):∃ t,undoF h ss (v:Int) (v:Int)=(⟨h.root,h.v++[⟨(v:Int),-1,undoV h ss v⟩]⟩,(h.v.length:Int),0)/\
  HistOk ⟨h.root,h.v++[⟨(v:Int),-1,undoV h ss v⟩]⟩ (ss++[t])/\AlikeS t (beforeF h ss v)/\(beforeF h ss v).next<=t.next:=by
 obtain⟨hg,he,hl,hr,hs⟩:=hh.version hv
 obtain⟨h1,h2⟩:=Zkp hg (fun e h=>(he e h).1) hr
 have hul:=Zkn (h:=h) (ss:=ss) v
 have hall:allF (runF (beforeF h ss v) (editsF h v)) (undoV h ss v) 0=_:=Zey h1 0
 have h0:(allF (runF (beforeF h ss v) (editsF h v)) (undoV h ss v) 0).e=0:=by rw[hall]
 refine⟨_,?_,by have:=hh.add (o:=-1) hs hn (by omega) (by omega) (Zko hh hv) h0; rw[hall] at this; exact this,h2,?_⟩
 .unfold undoF
  rw[ZlG hv hv,Zcp,if_pos rfl,Int.toNat_natCast]
  exact Zeh hh hs (-1) hn (by omega) h0
 exact Int.le_trans (ZiM (editsF h v) (beforeF h ss v)) (ZiM (undoV h ss v) _)
structure StepOk (x:ZaF):Prop where
 a:0<=x.at'/\x.at'<=255
 o:0<=x.other/\x.other<=255
 l:∀ y ∈ x.l,DescOk y
structure HRawOk (x:ZF):Prop where
 s:∀ y ∈ x.s,DescOk y
 v:∀ y ∈ x.v,StepOk y
theorem ZiI{s:Za}(hg:Good s):HistOk ⟨s,[⟨-1,-1,[]⟩]⟩ [s] where
 len:=rfl
 bd:=⟨Nat.le_refl 1,by show 1<=200; decide⟩
 fst:=rfl
 root:=rfl
 ver:=fun v x hv hx=>by
  have:=ZcT hx
  have e:([⟨-1,-1,[]⟩]:List Zf).length=1:=rfl
  have h2:v<([⟨-1,-1,[]⟩]:List Zf).length:=this
  omega
 good:=fun x hx=>by rw[List.mem_singleton] at hx; rw[hx]; exact hg
theorem Znp{s:Za}(hg:Good s):(ZjE s).Ret (⟨s,[⟨-1,-1,[]⟩]⟩,0):=⟨true,ZgF hg,Cq.wp.no (by decide) rfl⟩
theorem Zo6{s:Za}(hg:Good s):(ZfL s).Ret (⟨s,[⟨-1,-1,[]⟩]⟩,0):=⟨true,Zbv hg,Cq.wp.no (by decide) rfl⟩
theorem Zqi(x:Int):0<=u8.wrap x/\u8.wrap x<256:=by
 unfold IntKind.wrap
 simp only[IntKind.signed,IntKind.bits,Bool.false_and]
 have e:(2:Int) ^ 8=256:=by decide
 constructor
 .simp only[Bool.false_eq_true,if_false]; rw[e]; exact Int.emod_nonneg _ (by decide)
 simp only[Bool.false_eq_true,if_false]; rw[e]; exact Int.emod_lt_of_pos _ (by decide)
theorem Znn(hh:HistOk h ss){x:ZF}(hx:HRawOk x){k:Nat}(hk:k<x.v.length)(hn:h.v.length<100){o:Int}(ho:-1<=o/\o<(h.v.length:Int)):∃ g gs,(ZbB x (k:Int) h x.v[k] o).Ret (.inl (i64.wrap ((k:Int)+1),g))/\HistOk g gs/\g.v.length=h.v.length+1:=by
 have hs:=hx.v _ (List.getElem_mem hk)
 have hb:=hh.bd
 have ha:=hs.a
 have hw:i64.wrap x.v[k].at'=x.v[k].at':=wrap64 (by omega)
 have ht:=ZaC (a:=x.v[k].at') (b:=(h.v.length:Int)) (by omega) (by omega)
 obtain⟨n,hv⟩:∃ n:Nat,Int.tmod x.v[k].at' (h.v.length:Int)=n:=⟨(Int.tmod x.v[k].at' (h.v.length:Int)).toNat,by omega⟩
 obtain⟨s,_,hsn,_,hg⟩:=hh.at (v:=n) (by omega)
 obtain⟨r,h1,h2,h3⟩:=Zom hs.l (m:=3) (by decide) hg
 have hr:=Zjh h3
 have h0:(allF s r 0).e=0:=by rw[Zey hr]
 have hp:=Zms h3
 refine⟨_,_,?_,hh.add hsn (by omega) ho (by omega) hp h0,by show (h.v++_).length=_; rw[List.length_append]; rfl⟩
 refine⟨_,Zgh hh _,x.v[k],idxN hk,r,?_,_,Zmz hh _ _ (by omega) hp,?_⟩
 .rw[hw,hv,ZfT hsn]; exact h1
 rw[hw,hv,Zeh hh hsn o (by omega) (by omega) h0]; rfl
theorem ZhW{x:ZF}(hx:HRawOk x){m:Nat}(hm:m<=12):∀ (d k:Nat) (h:Zg) (ss:List Za),k+d=min x.v.length m->HistOk h ss->h.v.length<=k+1->∃ g gs,(Zdy x (m:Int) ((k:Int),h)).Ret g/\HistOk g gs/\g.v.length<=m+1
 | 0,k,h,ss,hk,hh,hn=>by
  refine⟨h,ss,Cq.ZW ?_,hh,by omega⟩
  show (if (k:Int)<(x.v.length:Int) then _ else _:Cq _).wp _
  rw[Cq.Zd]
  by_cases c:(k:Int)<(x.v.length:Int)
  .rw[if_pos c,Cq.Zd,if_neg (by omega)]; rfl
  rw[if_neg c]; rfl
 | d+1,k,h,ss,hk,hh,hn=>by
  have hkl:k<x.v.length:=by omega
  have hb:=hh.bd
  have hs:=hx.v _ (List.getElem_mem hkl)
  have key:∀ o:Int,(-1<=o/\o<(h.v.length:Int))->∃ g gs,((ZbB x (k:Int) h x.v[k] o).wp (Out (fun s'=>(Zdy x (m:Int) s').wp (fun r=>r=g)) (fun r=>r=g)))/\HistOk g gs/\g.v.length<=m+1:=fun o ho=>by
   obtain⟨g1,gs1,k1,k2,k3⟩:=Znn hh hx hkl (by omega) ho
   obtain⟨g,gs,j1,j2⟩:=ZhW hx hm d (k+1) g1 gs1 (by omega) k2 (by omega)
   refine⟨g,gs,(ZbB x (k:Int) h x.v[k] o).mono (fun u hu=>?_) k1,j2⟩
   subst hu
   show (Zdy x (m:Int) _).wp _
   rw[wrapN (by omega)]
   exact j1
  by_cases c:Int.tmod x.v[k].other 4=3
  .have hu:=Zqi (Int.tdiv x.v[k].other 4)
   have hw:i64.wrap (u8.wrap (Int.tdiv x.v[k].other 4))=u8.wrap (Int.tdiv x.v[k].other 4):=wrap64 (by omega)
   have ht:=ZaC (a:=u8.wrap (Int.tdiv x.v[k].other 4)) (b:=(h.v.length:Int)) (by omega) (by omega)
   obtain⟨g,gs,k1,k2⟩:=key (Int.tmod (u8.wrap (Int.tdiv x.v[k].other 4)) (h.v.length:Int)) (by omega)
   refine⟨g,gs,Cq.ZW ?_,k2⟩
   show (if (k:Int)<(x.v.length:Int) then _ else _:Cq _).wp _
   rw[Cq.Zd,if_pos (by omega),Cq.Zd,if_pos (by omega)]
   refine⟨x.v[k],idxN hkl,by omega,x.v[k],idxN hkl,?_⟩
   refine Cq.wp.yes c ⟨x.v[k],idxN hkl,by omega,?_⟩
   rw[hw]
   exact k1
  obtain⟨g,gs,k1,k2⟩:=key (-1) (by omega)
  refine⟨g,gs,Cq.ZW ?_,k2⟩
  show (if (k:Int)<(x.v.length:Int) then _ else _:Cq _).wp _
  rw[Cq.Zd,if_pos (by omega),Cq.Zd,if_pos (by omega)]
  exact⟨x.v[k],idxN hkl,by omega,x.v[k],idxN hkl,Cq.wp.no c k1⟩
theorem Znm{x:ZF}(hx:HRawOk x){m:Nat}(hm:m<=12):∃ h ss,(Zis x (m:Int)).Ret h/\HistOk h ss/\h.v.length<=m+1:=by
 obtain⟨s,h1,hg,_⟩:=Zo5 hx.s (m:=6) (by decide)
 obtain⟨g,gs,h2,h3⟩:=ZhW hx hm (min x.v.length m) 0 _ _ (by omega) (ZiI hg) (by show 1<=1; omega)
 refine⟨g,gs,⟨s,h1,_,Znp hg,?_⟩,h3⟩
 show (Cq.next _ _).wp _
 exact h2
end
end Go.EL

namespace Go.Proofs.YtnjiloaolgjedaaGreat
open Go.IntKind (i8 i16 i32 i64 u8 u16 u32 u64)
open Go.Proofs.Tryz
open Go Go.EL Go.RowKit Go.Proofs
def ok52(x:ZE):Prop:=(∀ y ∈ x.t,∀ i,(Lit.int .i8 (y i)).wf=true)
def ok54(x:Zw):Prop:=((Lit.int .u8 x.kind).wf=true)/\((Lit.int .u8 x.a).wf=true)/\((Lit.int .u8 x.b).wf=true)/\((Lit.int .u8 x.n).wf=true)/\(ok52 x.p)
def ok82(x:ZaF):Prop:=((Lit.int .u8 x.at').wf=true)/\((Lit.int .u8 x.other).wf=true)/\(∀ y ∈ x.l,ok54 y)
def ok25(x:ZF):Prop:=(∀ y ∈ x.s,ok54 y)/\(∀ y ∈ x.v,ok82 y)
theorem opens52(W:World):Opens prog W 52 Zhz (ok52):=by
 have h:=Opens.struct (W:=W) underlying52 (by kernel_rfl) (OpensF.last rfl (by kernel_rfl) (Opens.sl underlying50 (by kernel_rfl) (by decide) (Opens.vec underlying123 underlying122 (by kernel_rfl) (by kernel_rfl)))) (fun (x:ZE)=>x.t) (fun y=>⟨y⟩) (fun _=>rfl)
 exact h
theorem opens54(W:World):Opens prog W 54 ZaK (ok54):=by
 have h:=Opens.struct (W:=W) underlying54 (by kernel_rfl) (OpensF.cons rfl (by kernel_rfl) (Opens.int underlying5) (OpensF.cons rfl (by kernel_rfl) (Opens.int underlying5) (OpensF.cons rfl (by kernel_rfl) (Opens.int underlying5) (OpensF.cons rfl (by kernel_rfl) (Opens.int underlying5) (OpensF.last rfl (by kernel_rfl) (opens52 W)))))) (fun (x:Zw)=>(x.kind,x.a,x.b,x.n,x.p)) (fun y=>⟨y.1,y.2.1,y.2.2.1,y.2.2.2.1,y.2.2.2.2⟩) (fun _=>rfl)
 exact h
theorem opens82(W:World):Opens prog W 82 Zbz (ok82):=by
 have h:=Opens.struct (W:=W) underlying82 (by kernel_rfl) (OpensF.cons rfl (by kernel_rfl) (Opens.int underlying5) (OpensF.cons rfl (by kernel_rfl) (Opens.int underlying5) (OpensF.last rfl (by kernel_rfl) (Opens.sl underlying22 (by kernel_rfl) (by decide) (opens54 W))))) (fun (x:ZaF)=>(x.at',x.other,x.l)) (fun y=>⟨y.1,y.2.1,y.2.2⟩) (fun _=>rfl)
 exact h
theorem opens25(W:World):Opens prog W 25 ZhA (ok25):=by
 have h:=Opens.struct (W:=W) underlying25 (by kernel_rfl) (OpensF.cons rfl (by kernel_rfl) (Opens.sl underlying22 (by kernel_rfl) (by decide) (opens54 W)) (OpensF.last rfl (by kernel_rfl) (Opens.sl underlying23 (by kernel_rfl) (by decide) (opens82 W)))) (fun (x:ZF)=>(x.s,x.v)) (fun y=>⟨y.1,y.2⟩) (fun _=>rfl)
 exact h
theorem Zqa{x:ZE}(h:ok52 x):RawOk x:=fun v hv j=>wf_i8 (h v hv j)
theorem Zmi{x:Zw}(h:ok54 x):DescOk x:=⟨wf_u8 h.1,wf_u8 h.2.1,wf_u8 h.2.2.1,wf_u8 h.2.2.2.1,Zqa h.2.2.2.2⟩
theorem ZpD{x:ZaF}(h:ok82 x):StepOk x:=⟨wf_u8 h.1,wf_u8 h.2.1,fun y hy=>Zmi (h.2.2 y hy)⟩
theorem Zpp{x:ZF}(h:ok25 x):HRawOk x:=⟨fun y hy=>Zmi (h.1 y hy),fun y hy=>ZpD (h.2 y hy)⟩
set_option maxRecDepth 100000 in
theorem ZnT{W:World}{base:Nat}{v:Value}{H:Type}{enc:TypeId×Value->H}{b:Nat}{d:DataW H}{ps:List MemPlace}(hok:Value.okWide prog W .any base 25 v)(h:DataW.Trod enc prog W b (fun _=>true) true 25 v d ps):∃ (x:ZF) (p:Option Addr) (c:Nat) (q:Option Addr) (e:Nat),v = .agg ([.slice p x.s.length c,.slice q x.v.length e]).toArray/\SlR ZaK (allMem W) (.slice p x.s.length c) x.s/\SlR Zbz (allMem W) (.slice q x.v.length e) x.v/\HRawOk x:=by
 obtain⟨cs,x,rfl,h2,h3⟩:=Zl6 underlying25 (opens25 W) hok h
 obtain⟨p,c,q,e,k1,k2,k3⟩:=Zk2 (K:=fun j u=>cs[j]? = some u) (Zos h2)
 exact⟨x,p,c,q,e,by rw[Zou h2 (by rfl) k1],k2,k3,Zpp h3⟩
set_option maxRecDepth 100000 in
theorem Zm4{W:World}{base:Nat}{v:Value}{H:Type}{enc:TypeId×Value->H}{b:Nat}{d:DataW H}{ps:List MemPlace}(hok:Value.okWide prog W .any base 60 v)(h:DataW.Trod enc prog W b (fun _=>true) true 60 v d ps):∃ f:Fin 2->Int,v = .agg (vecG (Value.int .u8) 2 f).toArray/\∀ i,(Lit.int .u8 (f i)).wf=true:=by
 obtain⟨cs,f,rfl,h2,h3⟩:=Zm5 underlying60 (Opens.vec underlying60 underlying5 (by kernel_rfl) (by kernel_rfl)) hok h
 replace h2:cs=_:=h2
 subst h2
 exact⟨f,rfl,h3⟩
end Go.Proofs.YtnjiloaolgjedaaGreat

namespace Go.EL
open Go.IntKind (i8 i16 i32 i64 u8 u16 u32 u64)
open Go Go.RowKit Go.Proofs Go.MapKept
theorem Zpy{P:Program}{o:Oper}{a:Act}{w:World}{K K':Act->World->Prop}{Q:Post}{n l:Nat}(hd:∀ c,o.op≠.defer c)(hK:∀ a w,K a w->K' a w)(h:o.wp P a w K Q):o.wpIn (Fence.wide.inRound l) n P a w K' Q:=by
 refine⟨fun _ _=>trivial,?_⟩
 rw[Oper.semAt_plain _ _ _ hd]
 unfold Oper.wp at h
 generalize (execOp a.eval o).run P w=res at h ⊢
 cases res with
 | ok nx w'=>
  cases nx <;> simp only[Oper.upon] at h <;> simp only[Oper.uponIn]
  case value v=>exact hK _ _ h
  case skip=>exact hK _ _ h
  case defer d=>exact hK _ _ h
  case enter f args=>exact⟨fun h=>by simp[Fence.inRound,Fence.wide] at h,(callsIn_wide (n:=n-1)).2 (h.mono fun e w'' he=>by cases e <;> first|exact hK _ _ he|exact he)⟩
  case row row args=>exact⟨fun h=>by simp[Fence.inRound,Fence.wide] at h,fun c cs _=>let ⟨v,w',r,s⟩:=h c cs; ⟨v,w',hK _ _ r,stepsIn_wide.2 s⟩⟩
 | halt x w'=>cases x <;> first|exact h.elim|exact h
theorem ZfM{P:Program}{ops:Array Oper}{Q:Post}{n r:Nat}(hQ:¬ LetsOut Q):∀ {l:List Oper}{a:Act}{w:World},(∀ o ∈ l,∀ c,o.op≠.defer c)->wpList P ops Q l a w->wpListIn (Fence.wide.inRound r) n P ops Q l a w
 | [],_,_,_,h=>h
 | o::l,a,w,hd,h=>by
  unfold wpList at h
  unfold wpListIn
  split at h
  .rename_i hw
   rw[if_pos hw]
   rcases h with h|h
   .exact Zpy (hd o (by simp)) (fun a w h'=>ZfM hQ (fun o' ho'=>hd o' (by simp[ho'])) h') h
   exact absurd h.2 hQ
  rename_i hw
  rw[if_neg hw]
  exact⟨fun _ _=>trivial,ZfM hQ (fun o' ho'=>hd o' (by simp[ho'])) h⟩
theorem ZjS{P:Program}{l:List Oper}{id n r:Nat}{Q:Post}{a:Act}{w:World}(hQ:¬ LetsOut Q)(hd:∀ o ∈ l,∀ c,o.op≠.defer c)(h:wpList P l.toArray Q l a w):(Code.region id l.toArray false).wpIn (Fence.wide.inRound r) n P Q a w:=by
 refine wpIn_region ?_
 have:=wpOpsIn_eq_wpListIn (F:=Fence.wide.inRound r) (n:=n) (P:=P) (ops:=l.toArray) (Q:=Q) l 0 (fun j=>by simp)
 rw[List.range_eq_range',List.size_toArray,this]
 exact ZfM hQ hd h
section
variable {P:Program}{N:Nat}{w0:Bs}{G0 G:Mem}{L:Lo}
theorem St.putLoop{w:World}{l key:Nat}{r r':Loop}(hs:St w0 G0 G L w)(hl:L.get key=some ⟨l,.loop r,0⟩):St w0 G0 G ((key,some ⟨l,.loop r',0⟩)::L) (w.putObj l (.loop r')):=by
 have hb:=(hs.loc key _ hl).1
 have hlt:=(Array.getElem?_eq_some_iff.1 hb).1
 exact hs.upd hl (World.putObj_heap_same hlt) (Nat.le_refl _) (fun k _ hk=>absurd hk (Nat.not_lt_zero k)) (fun k hk=>World.putObj_heap_other hk) rfl rfl rfl rfl (by simp)
end
structure Stp (B:Nat) (W W':World):Prop where
 os:W'.os=W.os
 tape:W'.tape=W.tape
 output:W'.output=W.output
 drawn:W.drawn<=W'.drawn
 size:W.heap.size<=W'.heap.size
 block:∀ (k:Nat) (o:Obj),W.heap[k]? = some o->(k<B\/o.isWalk=false)->W'.heap[k]? = some o
theorem Stp.trans{B:Nat}{W W' W'':World}(h:Stp B W W')(k:Stp B W' W''):Stp B W W'':=
 ⟨k.os.trans h.os,k.tape.trans h.tape,k.output.trans h.output,Nat.le_trans h.drawn k.drawn,Nat.le_trans h.size k.size,fun j o e1 e2=>k.block j o (h.block j o e1 e2) e2⟩
theorem Stp.alloc(B:Nat)(W:World)(o:Obj):Stp B W (W.alloc o):=
 ⟨rfl,rfl,rfl,Nat.le_refl _,by simp,fun k o' h _=>(Below.heap_alloc W o k (Array.getElem?_eq_some_iff.1 h).1).trans h⟩
structure Rng (b r:Nat) (es:Array MapEntry) (clock:Nat) (cons:List MapEntry) (left:Nat) (w:World):Prop where
 map:w.heap[b]? = some (.map es clock)
 iter:∃ seen c0,w.heap[r]? = some (.mapIter (some b) clock seen c0)/\clock<=c0/\(leftOf es seen).size=left/\∀ x,x ∈ cons↔x ∈ es.toList/\seen.contains x.born=true
 nodup:cons.Nodup
theorem born_inj{es:Array MapEntry}{clock:Nat}(h:Stamped es clock){x y:MapEntry}(hx:x ∈ es.toList)(hy:y ∈ es.toList)(e:x.born=y.born):x=y:=by
 have hn:=h.2.1
 have:∀ (l:List MapEntry),(l.map (·.born)).Nodup->x ∈ l->y ∈ l->x=y:=by
  intro l
  induction l with
  | nil=>intro _ hx; cases hx
  | cons z l ih=>
   intro hn hx hy
   simp only[List.map_cons,List.nodup_cons,List.mem_map,not_exists,not_and] at hn
   rcases List.mem_cons.1 hx with h1|h1 <;> rcases List.mem_cons.1 hy with h2|h2
   .rw[h1,h2]
   .exact absurd (by rw[<- e,h1]) (hn.1 y h2)
   .exact absurd (by rw[e,h2]) (hn.1 x h1)
   exact ih hn.2 h1 h2
 exact this _ hn hx hy
section
variable {P:Program}{b r:Nat}{es:Array MapEntry}{clock:Nat}{cons:List MapEntry}{left:Nat}{w:World}
theorem Rng.next(h:Rng b r es clock cons left w)(hS:Stamped es clock)(ty:TypeId):
  (left=0/\(Instr.next (.pointer (some ⟨r,0,none⟩)) false ty).run P w = .ok (.tuple #[.bool false]) w)\/
  ∃ e ∈ es.toList,∃ w' left',(¬ e ∈ cons)/\(Instr.next (.pointer (some ⟨r,0,none⟩)) false ty).run P w = .ok (.tuple #[.bool true,e.key,e.val]) w'/\Rng b r es clock (cons++[e]) left' w'/\left'<left/\
   (Instr.entry (.pointer (some ⟨r,0,none⟩))).run P w' = .ok (.tuple #[e.key,e.val]) w'/\∀ B,B<=r->Stp B w w':=by
 obtain⟨seen,c0,hr,hc,hl,hm⟩:=h.iter
 rcases run_next_at (P:=P) w ty r b clock c0 seen es clock hr h.map hS.1 hc with ⟨h0,h1⟩|⟨e,he,w1,hw1,h1⟩
 .exact .inl ⟨by omega,h1⟩
 have he':e ∈ es.toList/\seen.contains e.born=false:=by
  simp only[leftOf,Array.toList_filter,List.mem_filter,Bool.not_eq_true'] at he
  exact he
 have hrb:r≠b:=fun e'=>by subst e'; have:=h.map; rw[hr] at this; cases this
 have hrl:r<w.heap.size:=(Array.getElem?_eq_some_iff.1 hr).1
 have hsame:w1.heap=w.heap:=by rcases hw1 with rfl|rfl <;> rfl
 have hdr:w.drawn<=w1.drawn:=by rcases hw1 with rfl|rfl; exact Nat.le_refl _; exact Nat.le_succ _
 have hor:w1.os=w.os/\w1.tape=w.tape/\w1.output=w.output:=by rcases hw1 with rfl|rfl <;> exact⟨rfl,rfl,rfl⟩
 have hn1:(ChangeMaps.setBlock w1 r (.mapIter (some b) clock (seen.push e.born) clock)).heap[r]? = some (.mapIter (some b) clock (seen.push e.born) clock):=by
  simp[ChangeMaps.setBlock,hsame,hrl]
 have hn2:∀ k,k≠r->(ChangeMaps.setBlock w1 r (.mapIter (some b) clock (seen.push e.born) clock)).heap[k]? = w.heap[k]?:=fun k hk=>by
  simp[ChangeMaps.setBlock,hsame,Array.getElem?_setIfInBounds,Ne.symm hk]
 refine .inr ⟨e,he'.1,ChangeMaps.setBlock w1 r (.mapIter (some b) clock (seen.push e.born) clock),(leftOf es (seen.push e.born)).size,fun hc'=>by { have:=((hm e).1 hc').2; rw[he'.2] at this; cases this },h1,⟨(hn2 b (Ne.symm hrb)).trans h.map,⟨_,clock,hn1,Nat.le_refl _,rfl,fun x=>?_⟩,?_⟩,?_,?_,fun B hB=>⟨hor.1,hor.2.1,hor.2.2,hdr,by simp[ChangeMaps.setBlock,hsame],fun k o hk ho=>?_⟩⟩
 .simp only[List.mem_append,List.mem_singleton,Array.contains_push,Bool.or_eq_true,beq_iff_eq]
  constructor
  .rintro (hx|rfl)
   .exact⟨((hm x).1 hx).1,.inl ((hm x).1 hx).2⟩
   exact⟨he'.1,.inr rfl⟩
  rintro⟨hx,hx'|hx'⟩
  .exact .inl ((hm x).2 ⟨hx,hx'⟩)
  exact .inr (born_inj hS hx he'.1 hx')
 .refine List.nodup_append.2 ⟨h.nodup,by simp,fun a ha c hc'=>?_⟩
  simp only[List.mem_singleton] at hc'
  subst hc'
  intro e'
  subst e'
  have:=((hm a).1 ha).2
  rw[he'.2] at this; cases this
 .have hsub:leftOf es (seen.push e.born)=(leftOf es seen).filter fun x=>x.born != e.born:=by
   simp only[leftOf,Array.filter_filter,Array.contains_push,Bool.not_or]
   congr 1
   funext x
   rw[Bool.and_comm]; rfl
  rw[hsub,<- hl]
  have:∀ (l:List MapEntry),e ∈ l->(l.filter fun x=>x.born != e.born).length<l.length:=by
   intro l hl'
   have h1:=List.length_filter_le (fun x:MapEntry=>x.born != e.born) l
   rcases Nat.lt_or_ge (l.filter fun x=>x.born != e.born).length l.length with h2|h2
   .exact h2
   have:=List.length_filter_eq_length_iff.1 (Nat.le_antisymm h1 h2) e hl'
   simp at this
  have:=this (leftOf es seen).toList he
  have e2:((leftOf es seen).filter fun x=>x.born != e.born).size=((leftOf es seen).toList.filter fun x=>x.born != e.born).length:=by
   rw[<- Array.toList_filter,Array.length_toList]
  rw[e2,<- Array.length_toList (xs:=leftOf es seen)]
  exact this
 .exact run_entry_at _ r b clock seen es clock e hn1 ((hn2 b (Ne.symm hrb)).trans h.map) he'.1 hS.2.1
 by_cases hkr:k=r
 .subst hkr
  rw[hr] at hk; cases hk
  rcases ho with ho|ho
  .omega
  cases ho
 rw[hn2 k hkr]; exact hk
end
end Go.EL
namespace Go.EL
open Go.IntKind (i8 i16 i32 i64 u8 u16 u32 u64)
open Go Go.RowKit Go.Proofs Go.MapKept
section
variable {P:Program}{N:Nat}{Q:Post}{fr:Fr}{S:Asrt}{ops:Array Oper}{l:List Oper}{dst:Option Nat}{ty:TypeId}{pos:String}{af:Array Edge}{g:Option (Nat×Bool)}
def WLI(P:Program)(N:Nat)(ops:Array Oper)(Q:Post)(l:List Oper)(fr:Fr)(S:Asrt):Prop:=∀ a w,Rel N fr a->S w->wpListIn Fence.wide 0 P ops Q l a w
theorem WLI.nil(h:WE N Q .normal fr S):WLI P N ops Q [] fr S:=h
theorem WLI.y0{op:Op}{v:Value}(hg:guardOK ops fr ⟨dst,op,ty,pos,af,g⟩ true)(h:Y0 P N ⟨dst,op,ty,pos,af,g⟩ fr S v)(hn:∀ c,op≠.defer c)(hd:dstOK N dst)(k:WLI P N ops Q l (putFr dst v fr) S):WLI P N ops Q (⟨dst,op,ty,pos,af,g⟩::l) fr S:=fun a w ha hs=>by
 unfold wpListIn
 rw[if_pos (ha.wanted hg)]
 refine⟨fun _ _=>trivial,?_⟩
 rw[Oper.semAt_plain _ _ _ hn,h a w ha hs]
 exact k _ w (ha.putFr v hd) hs
theorem WLI.yield{x y:Operand}{ts:Array TypeId}{loop:Nat}{u:Value}{Φ:Value->Asrt}(hg:guardOK ops fr ⟨dst,.call ⟨.value x,#[y],ts⟩,ty,pos,af,g⟩ true)(hd:dstOK N dst)(hx:fr.ev x=some (.func (.yield loop) #[] #[]))(hy:fr.ev y=some u)
  (hY:∀ w,S w->YieldAt Fence.wide 0 P loop #[u] w fun e w'=>∃ v,e = .returned v/\Φ v w') (k:∀ v,WLI P N ops Q l (putFr dst v fr) (Φ v)):WLI P N ops Q (⟨dst,.call ⟨.value x,#[y],ts⟩,ty,pos,af,g⟩::l) fr S:=fun a w ha hs=>by
 unfold wpListIn
 rw[if_pos (ha.wanted hg)]
 refine⟨fun _ _=>trivial,?_⟩
 rw[Oper.semAt_plain _ _ _ (fun c h=>by cases h)]
 obtain⟨fn,tmps,assign,body,h1,h2⟩:=hY w hs
 have:(execOp a.eval ⟨dst,.call ⟨.value x,#[y],ts⟩,ty,pos,af,g⟩).run P w = .ok (.round loop fn tmps assign body) w:=by
  simp[execOp,resolve,ha.ev hx,ha.ev hy,Deferred.ofValue,invoke,h1]
 rw[this]
 refine⟨fun h=>by simp[Fence.wide] at h,h2.mono fun e w' ⟨v,e1,e2⟩=>?_⟩
 subst e1
 exact k v _ w' (ha.putFr v hd) e2
theorem WC.regionI{id:Nat}{l:List Oper}(h:WLI P N l.toArray Q l fr S):WC P N (.region id l.toArray false) Q fr S:=fun a w ha hs=>by
 refine (wpIn_wide (n:=0)).1 (wpIn_region ?_)
 have:=wpOpsIn_eq_wpListIn (F:=Fence.wide) (n:=0) (P:=P) (ops:=l.toArray) (Q:=Q) l 0 (fun j=>by simp)
 rw[List.range_eq_range',List.size_toArray,this]
 exact h a w ha hs
end
end Go.EL
namespace Go.EL
open Go.IntKind (i8 i16 i32 i64 u8 u16 u32 u64)
open Go Go.RowKit Go.Proofs Go.MapKept
end Go.EL
namespace Go.EL
open Go.IntKind (i8 i16 i32 i64 u8 u16 u32 u64)
open Go Go.RowKit Go.Proofs Go.MapKept
end Go.EL
namespace Go.EL
open Go.IntKind (i8 i16 i32 i64 u8 u16 u32 u64)
open Go Go.RowKit Go.Proofs
end Go.EL
namespace Go.EL
open Go.IntKind (i8 i16 i32 i64 u8 u16 u32 u64)
open Go Go.RowKit Go.Proofs
theorem Lo.Zcj{R L:Lo}{i:Nat}{x:Ow}(h:R.get i=some x):Lo.get (R++L) i=some x:=by
 induction R with
 | nil=>simp[Lo.get] at h
 | cons p R ih=>
  obtain⟨k,q⟩:=p
  simp only[List.cons_append]
  rw[Lo.Zi] at h ⊢
  split at h
  .rename_i e; rw[if_pos e]; exact h
  rename_i e; rw[if_neg e]; exact ih h
theorem Lo.Zj8{R L:Lo}{i:Nat}(h:i ∉ R.map (·.1)):Lo.get (R++L) i=L.get i:=by
 induction R with
 | nil=>rfl
 | cons p R ih=>
  obtain⟨k,q⟩:=p
  simp only[List.map_cons,List.mem_cons,not_or] at h
  simp only[List.cons_append]
  rw[Lo.Zi,if_neg (fun e=>h.1 e.symm)]
  exact ih h.2
theorem Lo.Zmm{R:Lo}{i:Nat}{x:Ow}(h:R.get i=some x):i ∈ R.map (·.1):=by
 induction R with
 | nil=>simp[Lo.get] at h
 | cons p R ih=>
  obtain⟨k,q⟩:=p
  rw[Lo.Zi] at h
  split at h
  .rename_i e; simp[e]
  simp only[List.map_cons,List.mem_cons]; exact .inr (ih h)
def YCtr(P:Program)(l:Nat)(u:Value)(L1:Lo)(pre:Mem->Prop)(post:Mem->Lo->Bool->Prop):Prop:=
 ∀ w G,Hp G L1 w->pre G->YieldAt Fence.wide 0 P l #[u] w fun e w'=>∃ b G' L',e = .returned (.bool b)/\Ext w G L1 w' G' L'/\post G' L' b
section
variable {P:Program}{N:Nat}{Q:Post}{fr:Fr}{S:Asrt}{ops:Array Oper}{l:List Oper}{dst:Option Nat}{ty:TypeId}{pos:String}{af:Array Edge}{g:Option (Nat×Bool)}
variable {w0:Bs}{G0 G:Mem}{L:Lo}
theorem WLI.callY{x y:Operand}{ts:Array TypeId}{loop:Nat}{u:Value}{R Lc:Lo}{pre:Mem->Prop}{post:Mem->Lo->Bool->Prop}(hg:guardOK ops fr ⟨dst,.call ⟨.value x,#[y],ts⟩,ty,pos,af,g⟩ true)(hd:dstOK N dst)
  (hx:fr.ev x=some (.func (.yield loop) #[] #[])) (hy:fr.ev y=some u) (hY:YCtr P loop u Lc pre post) (hp:pre G) (hw:w0.L=Lc) (hR:∀ i,i ∈ R.map (·.1)->Lc.get i=none)
  (k:∀ b G' L',Mem.le G G'->post G' L' b->WLI P N ops Q l (putFr dst (.bool b) fr) (St w0 G0 G' (R++L'))) :
  WLI P N ops Q (⟨dst,.call ⟨.value x,#[y],ts⟩,ty,pos,af,g⟩::l) fr (St w0 G0 G (R++Lc)):=by
 have h1:Lo.sub Lc (R++Lc):=fun i z hz=>by
  rw[Lo.Zj8 (fun hi=>by rw[hR i hi] at hz; cases hz)]; exact hz
 refine WLI.yield (Φ:=fun v w=>∃ b G' L',v = .bool b/\Mem.le G G'/\post G' L' b/\St w0 G0 G' (R++L') w) hg hd hx hy (fun w hs=>?_) (fun v a w ha hs=>?_)
 .obtain⟨fn,tm,as1,bo,q1,q2⟩:=hY w G (hs.hp h1) hp
  refine⟨fn,tm,as1,bo,q1,q2.mono fun e w' ⟨b,G',L',e1,e2,e3⟩=>⟨.bool b,e1,b,G',L',rfl,e2.le,e3,?_⟩⟩
  refine hs.ext (R:=R) e2 h1 (fun i z hz=>Lo.Zcj hz) (fun i z hz=>hR i (Lo.Zmm hz)) (fun i z z' hi hj t ht=>?_) (fun i z hz=>(Lo.get_append _ _ i z hz).symm)
  rw[hw,hi] at ht
  cases ht
  exact Nat.le_refl _
 obtain⟨b,G',L',rfl,h2,h3,h4⟩:=hs
 exact k b G' L' h2 h3 a w ha h4
def WCI(P:Program)(N l:Nat)(c:Code)(Q:Post)(fr:Fr)(S:Asrt):Prop:=∀ a w,Rel N fr a->S w->c.wpIn (Fence.wide.inRound l) 0 P Q a w
theorem Zed{K:Act->World->Prop}(h:¬ LetsOut Q):¬ LetsOut (Exit.then K Q):=fun ⟨a,w,h'⟩=>h ⟨a,w,h'⟩
theorem ZdC{id:Nat}(h:¬ LetsOut Q):¬ LetsOut (Exit.inBlock id Q):=fun ⟨a,w,h'⟩=>h ⟨a,w,h'⟩
section
variable {r:Nat}
theorem WCI.seq{x y:Code}(h:WCI P N r x (Exit.then (y.wpIn (Fence.wide.inRound r) 0 P Q) Q) fr S):WCI P N r (.seq x y) Q fr S:=fun a w ha hs=>wpIn_seq (h a w ha hs)
theorem WCI.then{c:Code}(h:WCI P N r c Q fr S):WE N (Exit.then (c.wpIn (Fence.wide.inRound r) 0 P Q) Q) .normal fr S:=h
theorem WCI.skip(h:WE N Q .normal fr S):WCI P N r .skip Q fr S:=fun a w ha hs=>wpIn_skip (h a w ha hs)
theorem WCI.ret(h:WE N Q .ret fr S):WCI P N r .ret Q fr S:=fun a w ha hs=>wpIn_ret (h a w ha hs)
theorem WCI.block{id:Nat}{c:Code}(h:WCI P N r c (Exit.inBlock id Q) fr S):WCI P N r (.block id c) Q fr S:=fun a w ha hs=>wpIn_block (h a w ha hs)
theorem WCI.region{id:Nat}{l:List Oper}(hQ:¬ LetsOut Q)(hd:l.all (fun o=>match o.op with | .defer _=>false|_=>true)=true)(h:WL P N l.toArray Q l fr S):WCI P N r (.region id l.toArray false) Q fr S:=fun a w ha hs=>
 ZjS hQ (fun o ho c e=>by have:=List.all_eq_true.1 hd o ho; rw[e] at this; cases this) (h a w ha hs)
theorem WCI.condD{c:Operand}{x y:Code}{p:Prop}[Decidable p](hc:fr.ev c=some (.bool (decide p)))(ht:p->WCI P N r x Q fr S)(hf:¬ p->WCI P N r y Q fr S):WCI P N r (.cond c x y) Q fr S:=fun a w ha hs=>by
 by_cases h:p
 .exact wpIn_cond_true (by rw[ha.ev hc,decide_eq_true h]) (ht h a w ha hs)
 exact wpIn_cond_false (by rw[ha.ev hc,decide_eq_false h]) (hf h a w ha hs)
end
theorem Ext.weaken{w w':World}{G':Mem}{L1 L2 L3:Lo}(h:Ext w G L1 w' G' L2)(hs:Lo.sub L3 L2):Ext w G L1 w' G' L3:=
 { h with loc:=fun i x hx=>h.loc i x (hs i x hx),dist:=fun i j x y hne e1 e2=>h.dist i j x y hne (hs _ _ e1) (hs _ _ e2) }
def RoundQ(w0:Bs)(G:Mem)(l:Nat)(r:Loop)(post:Mem->Lo->Bool->Prop):Post:=fun e _ w=>match e with
 | .normal=>∃ G2 L2 L3,St w0 G G2 L2 w/\L2.get 8001=some ⟨l,.loop { r with state:=.busy },0⟩/\Lo.sub L3 ((8001,some ⟨l,.loop r,0⟩)::L2)/\post G2 L3 true
 | .ret=>∃ G2 L2 L3,St w0 G G2 L2 w/\L2.get 8001=some ⟨l,.loop { r with state:=.busy },0⟩/\Lo.sub L3 ((8001,some ⟨l,.loop { r with state:=.done,pending:=some .ret },0⟩)::L2)/\post G2 L3 false
 | _=>False
theorem ZdD{l:Nat}{r:Loop}{post:Mem->Lo->Bool->Prop}:¬ LetsOut (RoundQ w0 G l r post):=fun ⟨_,_,h⟩=>h
theorem Zih{K:Act->World->Prop}:¬ LetsOut (Exit.then K fun _ _ _=>False):=fun ⟨_,_,h⟩=>h
theorem YCtr.Zli{r:Loop}{l t:Nat}{u:Value}{Lc:Lo}{pre:Mem->Prop}{post:Mem->Lo->Bool->Prop}(hl:Lc.get 8001=some ⟨l,.loop r,0⟩)(hst:r.state = .ready)(hpe:r.pending=none)(hps:r.params = #[t])(hrel:Rel N fr ⟨r.tmps.setIfInBounds t u,[]⟩)
  (h:∀ w0 G,w0.L=Lc->pre G->WCI P N l r.assign (Exit.then (fun a w=>∃ fr1 G1 L1,Rel N fr1 a/\St w0 G G1 L1 w/\L1.get 8001=some ⟨l,.loop r,0⟩/\
   WCI P N l r.body (RoundQ w0 G l r post) fr1 (St w0 G G1 ((8001,some ⟨l,.loop { r with state:=.busy },0⟩)::L1))) fun _ _ _=>False) fr (St w0 G G Lc)):YCtr P l u Lc pre post:=by
 intro w G hH hp
 have hb:=(hH.loc 8001 _ hl).1
 refine⟨r.fn,r.tmps.setIfInBounds t u,r.assign,r.body,?_,?_⟩
 .have:=run_yield (P:=P) (args:=#[u]) hb (by rw[hps]; rfl)
  rw[hps] at this
  simpa using this
 refine roundIn_of_wpIn trivial (Code.wpIn_mono (fun e a w' hq=>?_) (h ⟨w,Lc⟩ G rfl hp _ w hrel hH.st))
 cases e with
 | normal=>
  obtain⟨fr1,G1,L1,ha1,hs1,hl1,hw⟩:=hq
  have hb1:=(hs1.loc 8001 _ hl1).1
  refine⟨_,run_beginRound hb1 hst,?_⟩
  have hs2:=hs1.putLoop (r':={ r with state:=.busy }) hl1
  refine Code.wpIn_mono (fun e a w' hq=>?_) (hw a _ ha1 hs2)
  cases e with
  | normal=>
   obtain⟨G2,L2,L3,hs3,hl3,hsub,hpost⟩:=hq
   have hb3:=(hs3.loc 8001 _ hl3).1
   refine⟨_,_,run_endRound none hb3,true,G2,L3,rfl,?_,hpost⟩
   have hs4:=hs3.putLoop (r':={ { r with state:=.busy } with state:=if (none:Option Code).isNone then .ready else .done,pending:=none }) hl3
   have e1:({ { r with state:=.busy } with state:=if (none:Option Code).isNone then .ready else .done,pending:=none }:Loop)=r:=by
    obtain⟨s,p,f,t,ps,as1,bo,d⟩:=r
    simp only at hst hpe
    subst hst hpe
    rfl
   rw[e1] at hs4 ⊢
   exact hs4.toExt.weaken hsub
  | ret=>
   obtain⟨G2,L2,L3,hs3,hl3,hsub,hpost⟩:=hq
   have hb3:=(hs3.loc 8001 _ hl3).1
   refine⟨_,_,run_endRound (some .ret) hb3,false,G2,L3,rfl,?_,hpost⟩
   have hs4:=hs3.putLoop (r':={ { r with state:=.busy } with state:=if (some Code.ret).isNone then .ready else .done,pending:=some .ret }) hl3
   exact hs4.toExt.weaken hsub
  | exit id=>exact hq.elim
  | goto t=>exact hq.elim
  | panic c=>exact hq.elim
  | outgrown=>exact hq.elim
 | ret=>exact hq.elim
 | exit id=>exact hq.elim
 | goto t=>exact hq.elim
 | panic c=>exact hq.elim
 | outgrown=>exact hq.elim
end
end Go.EL
namespace Go.EL
open Go.IntKind (i8 i16 i32 i64 u8 u16 u32 u64)
open Go Go.RowKit Go.Proofs
section
variable {P:Program}{N:Nat}{Q:Post}{fr:Fr}{ops:Array Oper}{l:List Oper}{fn:Func}{w0:Bs}{G0 G:Mem}{L:Lo}{ty:TypeId}{pos:String}{af:Array Edge}{g:Option (Nat×Bool)}{S:Asrt}
theorem YS.storeL{t t':TypeId}{x y:Operand}{b off:Nat}{c:Array Value}{v:Value}(i:Nat)(c':Array Value)(ht:(P.info? t).map (·.size)=some 1)
  (hx:fr.ev x=some (.pointer (some ⟨b,off,none⟩))) (hy:fr.ev y=some v) (hi:L.get i=some ⟨b,.cells c t' (0,0),0⟩) (ho:off<c.size) (h1:v.oneCell'=true) (hc':c.setIfInBounds off v=c') :
  YS P N ⟨none,.store t x y,ty,pos,af,g⟩ fr (St w0 G0 G L) (St w0 G0 G ((i,some ⟨b,.cells c' t' (0,0),0⟩)::L)):=by
 subst hc'
 intro a w ha hs
 have hb:=(hs.loc i _ hi).1
 refine⟨w.setCell ⟨b,off,none⟩ v,?_,hs.upd hi (ZeP hb) (Nat.le_refl _) (fun k _ hk _=>absurd hk (Nat.not_lt_zero k)) (fun k hk=>Below.heap_setCell w ⟨b,off,none⟩ v k hk) rfl rfl rfl rfl (by simp)⟩
 have hc:=cell_of_row w b off c t' (0,0) hb
 rw[Array.getElem?_eq_getElem ho] at hc
 have hf:=frozen_of_row w b off c t' hb
 have hcl:v.cells = #[v]:=by cases v <;> first|rfl|simp[Value.oneCell'] at h1
 simp[execOp,ha.ev hx,ha.ev hy,Instr.storeAt,Instr.sureAddr,storeVar,run_sizeOf ht,hcl,storeCells,run_store P w _ v _ h1,Zam,hc,hf]
def WLD(P:Program)(N:Nat)(D:List Deferred)(ops:Array Oper)(Q:Post)(l:List Oper)(fr:Fr)(S:Asrt):Prop:=∀ a w,Rel N fr a->S w->wpList P ops Q l { a with defers:=D } w
theorem WLD.ys{D:List Deferred}{op:Op}{S':Asrt}(h:YS P N ⟨none,op,ty,pos,af,none⟩ fr S S')(k:WLD P N D ops Q l fr S'):WLD P N D ops Q (⟨none,op,ty,pos,af,none⟩::l) fr S:=by
 intro a w ha hs
 obtain⟨w',hr,hp⟩:=h a w ha hs
 unfold wpList
 rw[if_pos (by rfl)]
 refine .inl ?_
 have e1:({ a with defers:=D }:Act).eval=a.eval:=rfl
 simp only[Oper.wp,e1,hr,Oper.upon]
 exact k a w' ha hp
theorem WLD.nil{D:List Deferred}(h:∀ a w,Rel N fr a->S w->Q .normal { a with defers:=D } w):WLD P N D ops Q [] fr S:=h
theorem Oper.Zqk{o:Oper}{a:Act}{w:World}{K K':Act->World->Prop}{Q':Post}(hK:∀ a w,K a w->K' a w)(hQ:∀ e a w,Q e a w->Q' e a w)(h:o.wp P a w K Q):o.wp P a w K' Q':=by
 unfold Oper.wp at *
 generalize (execOp a.eval o).run P w=r at *
 cases r with
 | ok nx w'=>
  cases nx <;> simp only[Oper.upon] at h ⊢
  case value v=>exact hK _ _ h
  case skip=>exact hK _ _ h
  case defer d=>exact hK _ _ h
  case enter f args=>
   refine Calls.mono h fun e w'' he=>?_
   cases e with
   | returned v=>exact hK _ _ he
   | panicked c=>exact hQ _ _ _ he
   | outgrown=>obtain⟨a',w',he⟩:=he; exact⟨_,_,hQ _ _ _ he⟩
  case row row args=>exact fun c cs=>let ⟨v,w',r,s⟩:=h c cs; ⟨v,w',hK _ _ r,s⟩
 | halt x w'=>cases x <;> first|exact h.elim|exact hQ _ _ _ h
theorem ZhG{Q':Post}(hQ:∀ e a w,Q e a w->Q' e a w):∀ {l:List Oper}{a:Act}{w:World},wpList P ops Q l a w->wpList P ops Q' l a w
 | [],_,_,h=>hQ _ _ _ h
 | o::l,a,w,h=>by
  unfold wpList at h ⊢
  split at h
  .rename_i hw
   rw[if_pos hw]
   rcases h with h|⟨h1,a',w',h2⟩
   .exact .inl (Oper.Zqk (fun a w h=>ZhG hQ h) hQ h)
   exact .inr ⟨h1,a',w',hQ _ _ _ h2⟩
  rename_i hw
  rw[if_neg hw]
  exact ZhG hQ h
def RetD(fn:Func)(P:Program)(w0:Bs)(G0:Mem)(d:Nat)(post:Mem->Value->Prop)(tmps:Array Value)(w:World):Prop:=
 ∃ G2 L2 v,St w0 G0 G2 L2 w/\L2.get 8002=some ⟨d,.deferred (some []),0⟩/\(∀ w',St w0 G0 G2 ((8002,some ⟨d,.deferred none,0⟩)::L2) w'->(results fn tmps).run P w' = .ok v w')/\post G2 v
theorem RetD.leaves{d:Nat}{post:Mem->Value->Prop}{tmps:Array Value}{w:World}(h:RetD fn P w0 G0 d post tmps w):LeavesInM Fence.wide 0 P fn tmps (RetTo w0 G0 post) [{ target:=.collected d,args:=#[] }] .returning w:=by
 obtain⟨G2,L2,v,h1,h2,h3,h4⟩:=h
 have hb:=(h1.loc 8002 _ h2).1
 have hdl:=(Array.getElem?_eq_some_iff.1 hb).1
 have h5:=h1.upd (i:=8002) (m':=0) (w':=World.putObj _ d (.deferred none)) h2 (World.putObj_heap_same hdl) (Nat.le_refl _) (fun k _ hk=>absurd hk (Nat.not_lt_zero k)) (fun k hk=>World.putObj_heap_other hk) rfl rfl rfl rfl (by simp)
 refine⟨by simp,.inl ⟨_,_,rfl,run_takeDeferred hb,⟨v,h3 _ h5,?_⟩⟩⟩
 exact⟨v,G2,_,rfl,⟨h5.os,h5.tape,h5.output,h5.drawn,h5.size,h5.block,h5.base,h5.imm,h5.fresh,h5.loc,h5.dist⟩,h4⟩
theorem RetD.of{rvs:List ResultVar}{d:Nat}{post:Mem->Value->Prop}{a:Act}{w:World}(vs:List Value)(hr:fn.results=rvs.toArray)(hl:rvs.length=vs.length)(hs:St w0 G0 G L w)(ha:Rel N fr a)(hd:L.get 8002=some ⟨d,.deferred (some []),0⟩)
  (h:∀ (i:Nat) (rv:ResultVar) (v:Value),rvs[i]? = some rv->vs[i]? = some v->RV P fr ((8002,some ⟨d,.deferred none,0⟩)::L) rv v) (hp:post G (if h:vs.toArray.size=1 then vs.toArray[0] else .tuple vs.toArray)):RetD fn P w0 G0 d post a.tmps w:=
 ⟨G,L,_,hs,hd,fun _ hs'=>ZfJ hr hl (fun i rv v e1 e2=>(h i rv v e1 e2).run ha hs'),hp⟩
theorem WC.rangeEnd{gop:Operand}{t b0 id f:Nat}{assign body:Code}{lb:Array Value}{post0:Mem->Value->Prop}(hgop:fr.ev gop=some (.func (.func f) #[] lb))(henter:Enters P f)
    (h:∀ (a:Act) (d lp:Nat) (r:Loop),Rel N fr a->r.state = .ready->r.pending=none->r.tmps=a.tmps->r.params = #[t]->r.assign=assign->r.body=body->∃ (pre:Mem->Prop) (Lc:Lo) (post:Mem->Lo->Value->Prop),
      Lo.sub Lc ((8001,some ⟨lp,.loop r,0⟩)::(8002,some ⟨d,.deferred (some []),0⟩)::L)/\
      (∀ i,i ∈ Lc.map (·.1)->w0.L.get i=none)/\CtrL P f (#[.func (.yield lp) #[] #[]]++lb) Lc pre post/\pre G/\
      ∀ G' L' v,Mem.le G G'->post G' L' v->∃ r':Loop,L'.get 8001=some ⟨lp,.loop r',0⟩/\r'.state≠.busy/\
        ((r'.pending=none/\WLD P N [{ target:=.collected d,args:=#[] }] l.toArray (fun e a w=>e = .normal/\a.defers=[{ target:=.collected d,args:=#[] }]/\RetD fn P w0 G0 d post0 a.tmps w) l fr (St w0 G0 G' ((8001,some ⟨lp,.loop { r' with state:=.exhausted },0⟩)::L')))\/
         (r'.pending=some .ret/\∀ w,St w0 G0 G' ((8001,some ⟨lp,.loop { r' with state:=.exhausted },0⟩)::L') w->RetD fn P w0 G0 d post0 a.tmps w))) :
    WC P N (.block b0 (.rangeFunc gop #[t] assign body)) (Exit.then ((Code.seq (.region id l.toArray false) .ret).wp P (bodyPostM Fence.wide 0 P fn (RetTo w0 G0 post0))) (bodyPostM Fence.wide 0 P fn (RetTo w0 G0 post0))) fr (St w0 G0 G L):=by
  refine WC.block ?_
  intro a w ha hs
  refine (wpIn_wide (n:=0)).1 (wpIn_rangeFunc ?_)
  intro fnid _
  let r:Loop:={ state:=.ready,pending:=none,fn:=fnid,tmps:=a.tmps,params:=#[t],assign:=assign,body:=body,defers:=w.heap.size }
  obtain⟨pre,Lc,post,hsub,hno,hctr,hpre,hk⟩:=h a w.heap.size (w.heap.size+1) r ha rfl rfl rfl rfl rfl rfl
  have hs1:St w0 G0 G _ ((w.alloc (.deferred (some []))).alloc (.loop r)):=(hs.push 8002 (.deferred (some []))).push 8001 (.loop r)
  have hl1:(w.alloc (.deferred (some []))).heap.size=w.heap.size+1:=by simp
  rw[hl1] at hs1
  refine⟨w.heap.size+1,[{ target:=.collected w.heap.size,args:=#[] }],((w.alloc (.deferred (some []))).alloc (.loop r)),{ target:=.fn (.func f) lb,args:=#[.func (.yield (w.heap.size+1)) #[] #[]] },((w.alloc (.deferred (some []))).alloc (.loop r)),f,#[.func (.yield (w.heap.size+1)) #[] #[]]++lb,((w.alloc (.deferred (some []))).alloc (.loop r)),run_enterLoop_outer _ _ _ _ _,?_,fun _ _=>trivial,?_,fun h=>by simp[Fence.wide] at h,?_⟩
  . have e6:=ha.ev hgop
    have e7:a.eval (.const (.func (.yield (w.heap.size+1)) #[] #[])) = .func (.yield (w.heap.size+1)) #[] #[]:=rfl
    simp[resolve,rangeCall,Deferred.ofValue,e6,e7]
  . simpa [invoke] using henter _ _
  refine (callsIn_wide (n:=0)).2 ?_
  refine (hctr _ G (hs1.hp hsub) hpre).mono fun e w2 ⟨v,G',L',he,hext,hpost⟩=>?_
  subst he
  obtain⟨r',hl',hb',hc⟩:=hk G' L' v hext.le hpost
  have hs2:St w0 G0 G' L' w2:=hs1.ext (R:=[]) hext hsub (Lo.Zs _) (fun i x hx=>by simp[Lo.get] at hx) (fun i x y hi _ z hz=>by rw[hno i (Lo.Zmm hi)] at hz; cases hz) (fun i x hx=>.inl hx)
  have hb:=(hs2.loc 8001 _ hl').1
  refine⟨r'.pending,_,run_endLoop hb hb',?_⟩
  have hs3:=hs2.putLoop (r':={ r' with state:=.exhausted }) hl'
  have hD:[{ target:=.collected w.heap.size,args:=#[] }]++a.defers=[({ target:=.collected w.heap.size,args:=#[] }:Deferred)]:=by rw[ha.defers]; rfl
  rcases hc with ⟨hp,hw⟩|⟨hp,hw⟩
  . rw[hp] at hw hs3 ⊢
    show Code.wp _ _ _ _ _
    refine wp_seq (wp_region_lit ?_)
    rw[hD]
    refine ZhG (fun e a' w' hq=>?_) (hw a _ ha hs3)
    obtain⟨rfl,hd,hr⟩:=hq
    refine wp_ret ?_
    show LeavesInM _ _ _ _ _ _ _ _ _
    rw[hd]
    exact hr.leaves
  rw[hp] at hw hs3 ⊢
  refine wpIn_ret ?_
  show LeavesInM _ _ _ _ _ _ _ _ _
  rw[hD]
  exact (hw _ hs3).leaves
theorem Ctr.enterM{f:FuncId}{c:Code}{args:List Value}{pre:Mem->Prop}{post:Mem->Value->Prop}(hf:P.funcs[f]? = some fn)(hb:fn.body=some c)(hN:fn.ntmps=N)(ha:Nat.ble args.length N=true)
  (h:∀ w0 G0,w0.L=[]->pre G0->WC P N c (bodyPostM Fence.wide 0 P fn (RetTo w0 G0 post)) (argFr args 0) (St w0 G0 G0 [])):Ctr P f args.toArray pre post:=by
 intro w G hi hp
 refine (callsIn_wide (n:=0)).1 (callsIn_of_wp_marks hf hb trivial ((wpIn_wide (n:=0)).2 ?_))
 refine h ⟨w,[]⟩ G rfl hp _ w ⟨rfl,?_,fun t v hv=>?_⟩ hi.st
 .have:=Nat.le_of_ble_eq_true ha
  simp only[Array.size_append,List.size_toArray,Array.size_replicate]
  omega
 obtain⟨_,h2⟩:=Zg7 args 0 t v hv
 simp only[Nat.sub_zero] at h2
 have hlt:=(List.getElem?_eq_some_iff.1 h2).1
 rw[Array.getElem?_append_left (by simpa using hlt)]
 simpa using h2
theorem Rel.round{a:Act}{t:Nat}{u:Value}(ha:Rel N fr a)(ht:t<N):Rel N ((t,u)::fr) ⟨a.tmps.setIfInBounds t u,[]⟩:=by
 have h:=ha.put u ht
 have e:a.put (some t) u=⟨a.tmps.setIfInBounds t u,[]⟩:=by simp[Act.put,ha.defers]
 rw[e] at h
 exact h
theorem WE.early{R:Ending->World->Prop}(h:WE N (bodyPost P fn R) .ret fr S):WE N (bodyPostM Fence.wide 0 P fn R) .ret fr S:=fun a w ha hs=>by
 obtain⟨h1,h2⟩:=h a w ha hs
 show LeavesInM _ _ _ _ _ _ _ _ _
 rw[h1]
 exact h2
end
end Go.EL
namespace Go.EL
open Go.IntKind (i8 i16 i32 i64 u8 u16 u32 u64)
open Go Go.RowKit Go.Proofs
section
variable {P:Program}{N:Nat}{Q:Post}{fr:Fr}{Bt:Asrt}{w0:Bs}{G0 G:Mem}{L:Lo}{ops:Array Oper}{fs:List Bool}{l:List Oper}{det:Fr}{und:Und}
theorem Chain.floatBU{o:Oper}{c:Value}(hg:∀ u,guardOK ops (undFr und u++(det++fr)) o true)(h:∀ u,Y0 P N o (undFr und u++(det++fr)) Bt c)(k:Chain P N Q fr w0 G0 G L ops Bt fs l (putFr o.dst c det) und):
  Chain P N Q fr w0 G0 G L ops Bt (true::fs) (o::l) det und:=⟨c,fun u _ _ _=>⟨hg u,h u⟩,k⟩
theorem Chain.tailBX4{d0 d1 d2 d3:Nat}{φ0 φ1 φ2 φ3:Value->Gx->Prop}(hb:Mem.le G0 G)(k:∀ v0 v1 v2 v3 (X:Gx),Mem.le G X.m->φ0 v0 X->φ1 v1 X->φ2 v2 X->φ3 v3 X->WLT P N ops Bt (NX Q) l ((d0,v0)::(d1,v1)::(d2,v2)::(d3,v3)::(det++fr)) (St w0 G0 X.m L)):Chain P N Q fr w0 G0 G L ops Bt [] l det [(d0,φ0),(d1,φ1),(d2,φ2),(d3,φ3)]:=fun u g hle hu a w ha hs=>k (u d0) (u d1) (u d2) (u d3) g hle.1 hu.1 hu.2.1 hu.2.2.1 hu.2.2.2.1 a w ha hs.st
def RowM{α:Type}(r:Rp α)(e:TypeId)(mk:Option Addr->Nat->Value)(d:Nat)(xs:List α):Value->Gx->Prop:=fun v g=>∃ p c tk,v=mk p c/\RowR r e g.m (.slice p xs.length c) xs tk/\∀ y,tk=some y->g.x y.b=some (d,y.o)
variable {α:Type}{r:Rp α}{e:TypeId}{mk:Option Addr->Nat->Value}{d:Nat}{xs:List α}
theorem RowM.mono{v:Value}{g g':Gx}(hle:Gx.leE d g g'):RowM r e mk d xs v g->RowM r e mk d xs v g':=fun ⟨p,c,tk,h1,h2,h3⟩=>⟨p,c,tk,h1,h2.mono hle.1,fun y hy=>hle.2 _ _ (h3 y hy)⟩
theorem RowM.drop{d':Nat}{v:Value}{g:Gx}{tk:Option Ow}(h:RowM r e mk d xs v g)(hne:Nat.beq d d'=false)(ht:∀ y,tk=some y->g.x y.b=some (d',y.o)):RowM r e mk d xs v (g.drop tk):=by
 obtain⟨p,c,tk',h1,h2,h3⟩:=h
 obtain⟨p',c',tk2,k1,k2,k3⟩:=RowX.drop (v:=.slice p xs.length c) ⟨p,c,tk',rfl,h2,h3⟩ hne ht
 cases k1
 exact⟨p,c,tk2,h1,k2,k3⟩
theorem WL.adoptM{X:Gx}{v:Value}{Q:Post}{l:List Oper}(h:RowM r e mk d xs v X)
  (k:∀ p c tk,v=mk p c->RowR r e X.m (.slice p xs.length c) xs tk->(∀ y,tk=some y->X.x y.b=some (d,y.o))->WL P N ops Q l fr (StX w0 G0 (X.drop tk) ((d,tk)::L))):WL P N ops Q l fr (StX w0 G0 X L):=fun a w ha hs=>by
 obtain⟨p,c,tk,h1,h2,h3⟩:=h
 exact k p c tk h1 h2 h3 a w ha (hs.adoptR (fun y hy=>h2.zero hy) h3)
theorem Chain.buildRow{op:Op}{ty:TypeId}{pos:String}{af:Array Edge}{g:Option (Nat×Bool)}{kk:Nat}(mk:Option Addr->Nat->Value)(hg:∀ u,guardOK ops (undFr und u++(det++fr)) ⟨some d,op,ty,pos,af,g⟩ true)
  (hk:und.any (fun p=>Nat.beq p.1 kk)=true) (hl:((⟨some d,op,ty,pos,af,g⟩:Oper).looksAt ops).contains kk=true) (hso:soleB ops kk=true)
  (h:∀ u (G':Gx),Mem.le G G'.m->undLook ops ⟨some d,op,ty,pos,af,g⟩ und u G'->∃ v,RowX r e kk xs v G'/\∀ p c,v = .slice p xs.length c->∀ S,Y0 P N ⟨some d,op,ty,pos,af,g⟩ (undFr und u++(det++fr)) S (mk p c))
  (k:Chain P N Q fr w0 G0 G L ops Bt fs l det ((d,RowM r e mk d xs)::eatO (some kk) und)):Chain P N Q fr w0 G0 G L ops Bt (false::fs) (⟨some d,op,ty,pos,af,g⟩::l) det und:=
 Chain.ceat d kk (RowM r e mk d xs) rfl hk hl hso (fun v _ _ h=>RowM.mono h) (fun u G' hle hu=>by
  obtain⟨v,⟨p,c,tk,h1,h2,h3⟩,h4⟩:=h u G' hle.1 hu
  refine .inr ⟨hg u,fun a w ha hs=>?_⟩
  have s1:St ⟨w,[(kk,tk)]⟩ G'.m G'.m [(kk,tk)] w:=Hp.st ⟨hs.st.imm,fun i y hi=>by
   rw[Lo.Zi] at hi
   split at hi
   .obtain⟨q1,q2,q3,q4⟩:=hs.own _ _ _ (h3 y hi)
    exact⟨q1,fun k _=>q3 k⟩
   .simp[Lo.get] at hi,fun i j y y' hne h1 h2=>by
   rw[Lo.Zi] at h1 h2
   split at h1
   .split at h2
    .omega
    simp[Lo.get] at h2
   simp[Lo.get] at h1⟩
  rw[h4 p c h1 _ a w ha hs]
  obtain⟨s3,s4⟩:=hs.extO (d:=d) (k:=some kk) (i0:=kk) (tk:=tk) s1.toExt (fun i y hi=>by
   rw[Lo.Zi] at hi
   split at hi
   .exact⟨kk,y.o,rfl,h3 y hi⟩
   simp[Lo.get] at hi) (fun y hy=>h2.zero hy)
  exact⟨_,s4,s3,p,c,tk,rfl,h2,fun y hy=>by simp only[Gx.turn]; rw[if_pos (Zd8.2 ⟨y,hy,rfl⟩),hy]; rfl⟩) k
end
end Go.EL
namespace Go.EL
open Go.IntKind (i8 i16 i32 i64 u8 u16 u32 u64)
open Go Go.RowKit Go.Proofs
section
variable {P:Program}{N:Nat}{Q:Post}{fr:Fr}{S:Asrt}{ops:Array Oper}{l:List Oper}
def skB(ops:Array Oper)(fr:Fr)(N j:Nat)(c:Bool)(ds:List (Option Nat)):Bool:=
 match (ops[j]?).bind (·.dst) with
 | some d=>(match fr.get d with|some (.bool v)=>v == !c|_=>false) && ds.all fun x=>match x with|some t=>Nat.blt t N && !(Nat.beq t d)|none=>true
 | none=>false
theorem ZoR{j:Nat}{c:Bool}{ds:List (Option Nat)}(h:skB ops fr N j c ds=true):∃ d,(ops[j]?).bind (·.dst)=some d/\fr.get d=some (.bool (!c))/\∀ x ∈ ds,dstOK N x/\x≠some d:=by
 unfold skB at h
 split at h
 .rename_i d hd
  rw[Bool.and_eq_true,List.all_eq_true] at h
  refine⟨d,hd,?_,fun x hx=>?_⟩
  .have h1:=h.1
   split at h1
   .rename_i v hv
    rw[hv,beq_iff_eq.1 h1]
   cases h1
  have h2:=h.2 x hx
  cases x with
  | none=>exact⟨trivial,by simp⟩
  | some t=>
   rw[Bool.and_eq_true] at h2
   refine⟨h2.1,fun e=>?_⟩
   cases e
   have:=h2.2
   simp at this
 cases h
theorem ZpC{d:Nat}{x:Option Nat}{v:Value}(h:x≠some d):(putFr x v fr).get d=fr.get d:=by
 cases x with
 | none=>rfl
 | some t=>
  show (bif Nat.beq t d then some v else fr.get d)=_
  have:Nat.beq t d=false:=by
   cases hb:Nat.beq t d with
   | false=>rfl
   | true=>exact absurd (by rw[Nat.eq_of_beq_eq_true hb]) h
  rw[this]; rfl
theorem skStep{j d:Nat}{c:Bool}{dst:Option Nat}{op:Op}{ty:TypeId}{pos:String}{af:Array Edge}(h1:(ops[j]?).bind (·.dst)=some d)(h2:fr.get d=some (.bool (!c)))(hd:dstOK N dst)(k:WL P N ops Q l (putFr dst undef fr) S):WL P N ops Q (⟨dst,op,ty,pos,af,some (j,c)⟩::l) fr S:=WL.skip (ZoD h1 h2) hd k
theorem skCons{j:Nat}{c:Bool}{x:Option Nat}{ds:List (Option Nat)}{op:Op}{ty:TypeId}{pos:String}{af:Array Edge}(h:skB ops fr N j c (x::ds)=true)(k:skB ops (putFr x undef fr) N j c ds=true->WL P N ops Q l (putFr x undef fr) S):WL P N ops Q (⟨x,op,ty,pos,af,some (j,c)⟩::l) fr S:=by
 obtain⟨d,h1,h2,h3⟩:=ZoR h
 have hx:=h3 x (by simp)
 refine skStep h1 h2 hx.1 (k ?_)
 unfold skB at h ⊢
 rw[h1] at h ⊢
 simp only[List.all_cons,Bool.and_eq_true] at h ⊢
 rw[ZpC hx.2]
 exact⟨h.1,h.2.2⟩
variable {j:Nat}{c:Bool}{d0 d1 d2 d3 d4 d5 d6 d7 d8:Option Nat}{o0 o1 o2 o3 o4 o5 o6 o7 o8:Op}{t0 t1 t2 t3 t4 t5 t6 t7 t8:TypeId}{p0 p1 p2 p3 p4 p5 p6 p7 p8:String}{a0 a1 a2 a3 a4 a5 a6 a7 a8:Array Edge}
theorem sn2(h:skB ops fr N j c [d0,d1]=true)(k:WL P N ops Q l (putFr d1 undef (putFr d0 undef fr)) S):WL P N ops Q (⟨d0,o0,t0,p0,a0,some (j,c)⟩::⟨d1,o1,t1,p1,a1,some (j,c)⟩::l) fr S:=skCons h fun h=>skCons h fun _=>k
theorem sn3(h:skB ops fr N j c [d0,d1,d2]=true)(k:WL P N ops Q l (putFr d2 undef (putFr d1 undef (putFr d0 undef fr))) S):WL P N ops Q (⟨d0,o0,t0,p0,a0,some (j,c)⟩::⟨d1,o1,t1,p1,a1,some (j,c)⟩::⟨d2,o2,t2,p2,a2,some (j,c)⟩::l) fr S:=skCons h fun h=>sn2 h k
theorem sn4(h:skB ops fr N j c [d0,d1,d2,d3]=true)(k:WL P N ops Q l (putFr d3 undef (putFr d2 undef (putFr d1 undef (putFr d0 undef fr)))) S):WL P N ops Q (⟨d0,o0,t0,p0,a0,some (j,c)⟩::⟨d1,o1,t1,p1,a1,some (j,c)⟩::⟨d2,o2,t2,p2,a2,some (j,c)⟩::⟨d3,o3,t3,p3,a3,some (j,c)⟩::l) fr S:=skCons h fun h=>sn3 h k
theorem sn5(h:skB ops fr N j c [d0,d1,d2,d3,d4]=true)(k:WL P N ops Q l (putFr d4 undef (putFr d3 undef (putFr d2 undef (putFr d1 undef (putFr d0 undef fr))))) S):WL P N ops Q (⟨d0,o0,t0,p0,a0,some (j,c)⟩::⟨d1,o1,t1,p1,a1,some (j,c)⟩::⟨d2,o2,t2,p2,a2,some (j,c)⟩::⟨d3,o3,t3,p3,a3,some (j,c)⟩::⟨d4,o4,t4,p4,a4,some (j,c)⟩::l) fr S:=skCons h fun h=>sn4 h k
theorem sn6(h:skB ops fr N j c [d0,d1,d2,d3,d4,d5]=true)(k:WL P N ops Q l (putFr d5 undef (putFr d4 undef (putFr d3 undef (putFr d2 undef (putFr d1 undef (putFr d0 undef fr)))))) S):WL P N ops Q (⟨d0,o0,t0,p0,a0,some (j,c)⟩::⟨d1,o1,t1,p1,a1,some (j,c)⟩::⟨d2,o2,t2,p2,a2,some (j,c)⟩::⟨d3,o3,t3,p3,a3,some (j,c)⟩::⟨d4,o4,t4,p4,a4,some (j,c)⟩::⟨d5,o5,t5,p5,a5,some (j,c)⟩::l) fr S:=skCons h fun h=>sn5 h k
theorem sn7(h:skB ops fr N j c [d0,d1,d2,d3,d4,d5,d6]=true)(k:WL P N ops Q l (putFr d6 undef (putFr d5 undef (putFr d4 undef (putFr d3 undef (putFr d2 undef (putFr d1 undef (putFr d0 undef fr))))))) S):WL P N ops Q (⟨d0,o0,t0,p0,a0,some (j,c)⟩::⟨d1,o1,t1,p1,a1,some (j,c)⟩::⟨d2,o2,t2,p2,a2,some (j,c)⟩::⟨d3,o3,t3,p3,a3,some (j,c)⟩::⟨d4,o4,t4,p4,a4,some (j,c)⟩::⟨d5,o5,t5,p5,a5,some (j,c)⟩::⟨d6,o6,t6,p6,a6,some (j,c)⟩::l) fr S:=skCons h fun h=>sn6 h k
theorem sn8(h:skB ops fr N j c [d0,d1,d2,d3,d4,d5,d6,d7]=true)(k:WL P N ops Q l (putFr d7 undef (putFr d6 undef (putFr d5 undef (putFr d4 undef (putFr d3 undef (putFr d2 undef (putFr d1 undef (putFr d0 undef fr)))))))) S):WL P N ops Q (⟨d0,o0,t0,p0,a0,some (j,c)⟩::⟨d1,o1,t1,p1,a1,some (j,c)⟩::⟨d2,o2,t2,p2,a2,some (j,c)⟩::⟨d3,o3,t3,p3,a3,some (j,c)⟩::⟨d4,o4,t4,p4,a4,some (j,c)⟩::⟨d5,o5,t5,p5,a5,some (j,c)⟩::⟨d6,o6,t6,p6,a6,some (j,c)⟩::⟨d7,o7,t7,p7,a7,some (j,c)⟩::l) fr S:=skCons h fun h=>sn7 h k
end
end Go.EL
namespace Go.EL
open Go.IntKind (i8 i16 i32 i64 u8 u16 u32 u64)
open Go Go.RowKit Go.Proofs
section
variable {P:Program}{N:Nat}{Q:Post}{fr:Fr}{w0:Bs}{G0 G:Mem}{L:Lo}{ops:Array Oper}{l:List Oper}{ty:TypeId}{pos:String}{af:Array Edge}{g:Option (Nat×Bool)}{α:Type}{r:Rp α}{e:TypeId}
theorem RowR.lenEq{r:Rp α}{e:TypeId}{G:Mem}{p:Option Addr}{n cap:Nat}{xs:List α}{tk:Option Ow}(h:RowR r e G (.slice p n cap) xs tk):n=xs.length:=by
 obtain⟨_,_,q⟩:=h.form
 cases q; rfl
theorem WL.storeF{t:TypeId}{x y:Operand}{p:Option Addr}{n cap sz off:Nat}{val:Value}{cs':List Value}{i:Int}{xs:List α}{z z':α}{tk:Option Ow}(key:Nat)(hg:guardOK ops fr ⟨none,.store t x y,ty,pos,af,g⟩ true)(ht:(P.info? t).map (·.size)=some cs'.length)(hsr:sz=r.size)
  (hoff:off+cs'.length<=r.size) (h:RowR r e G (.slice p n cap) xs tk) (hid:L.get key=tk) (hx:fr.ev x=some (.pointer (some ⟨pb p,i.toNat*sz+off,none⟩))) (hy:fr.ev y=some val) (hval:val.cells=cs'.toArray) (hone:∀ v ∈ cs',v.oneCell'=true)
  (hrep:∀ cs,r.rep G cs z->r.rep G (cs.take off++cs'++cs.drop (off+cs'.length)) z') (hi:0<=i/\xs[i.toNat]? = some z)
  (k:∀ tk',RowR r e G (.slice p n cap) (xs.set i.toNat z') tk'->WL P N ops Q l fr (St w0 G0 G ((key,tk')::L))):WL P N ops Q (⟨none,.store t x y,ty,pos,af,g⟩::l) fr (St w0 G0 G L):=by
 cases tk with
 | none=>obtain⟨rfl,_⟩:=h; simp at hi
 | some q=>
  obtain⟨cap',cs,rest,h1,h2,h3,h4,h5,h6,h7⟩:=h
  cases h1
  obtain⟨qb,qo,qm⟩:=q
  dsimp only at h2 h3
  subst h2 h3
  obtain⟨hlt,hzi⟩:=List.getElem?_eq_some_iff.1 hi.2
  have hsp:xs=xs.take i.toNat++(xs[i.toNat]::xs.drop (i.toNat+1)):=by simp
  have hcl:=h4.len
  rw[hsp] at h4
  obtain⟨c1,d1,e1,k1,k2⟩:=h4.split
  obtain⟨c2,d2,e2,k3,k4⟩:=k2
  have l1:=k1.len
  have l2:=r.len k3
  have hti:(xs.take i.toNat).length=i.toNat:=by simp; omega
  rw[hti] at l1
  rw[hzi] at k3
  have k5:=hrep c2 k3
  have l3:=r.len k5
  have hnew:RepL r G (c1++((c2.take off++cs'++c2.drop (off+cs'.length))++d2)) (xs.set i.toNat z'):=by
   rw[List.set_eq_take_append_cons_drop,if_pos hlt]
   exact k1.append ⟨_,d2,rfl,k5,k4⟩
  have hcells:((cs++rest).take (i.toNat*sz+off)++cs'++(cs++rest).drop (i.toNat*sz+off+cs'.length))=(c1++((c2.take off++cs'++c2.drop (off+cs'.length))++d2))++rest:=by
   subst e1 e2
   rw[hsr,<- l1,Nat.add_assoc]
   have a1:c1++(c2++d2)++rest=c1++(c2++(d2++rest)):=by simp only[List.append_assoc]
   rw[a1,List.take_length_add_append,List.drop_length_add_append,List.take_append_of_le_length (by omega),List.drop_append_of_le_length (by omega)]
   simp only[List.append_assoc]
  have hx':fr.ev x=some (.pointer (some ⟨qb,i.toNat*sz+off,none⟩)):=hx
  refine WL.ys' (S':=St w0 G0 G ((key,some ⟨qb,.cells ((c1++((c2.take off++cs'++c2.drop (off+cs'.length))++d2))++rest).toArray e (0,0),0⟩)::L)) hg (fun a w ha hs=>?_) (k _ ?_)
  .have hb:=(hs.loc key _ hid).1
   have hr:=run_storeCells_at P qb (i.toNat*sz+off) e cs' 0 (cs++rest).toArray w hb (by
    simp only[List.size_toArray]
    rw[List.length_append,hcl]
    have:(i.toNat+1)*r.size<=xs.length*r.size:=Nat.mul_le_mul_right _ hlt
    rw[Nat.add_mul] at this
    rw[hsr]
    omega) hone
   simp only[Nat.add_zero] at hr
   rw[hcells] at hr
   refine⟨w.setRow qb ((c1++((c2.take off++cs'++c2.drop (off+cs'.length))++d2))++rest).toArray,?_,hs.upd hid ?_ (Nat.le_refl _) (fun k _ hk _=>absurd hk (Nat.not_lt_zero k)) (fun k hk=>?_) rfl rfl rfl rfl (by simp[World.setRow])⟩
   .simp[execOp,ha.ev hx',ha.ev hy,Instr.storeAt,Instr.sureAddr,storeVar,hval,run_sizeOf ht,hr]
   .simp[World.setRow,Array.getElem?_modify,hb]
   simp only[World.setRow,Array.getElem?_modify]
   rw[if_neg (fun e=>hk e.symm)]
  refine⟨cap,_,rest,by simp,rfl,rfl,hnew,?_,h6,by simpa using h7⟩
  rw[List.length_append,hnew.len,List.length_set,<- h5,List.length_append,hcl]
theorem Rp.Zlk{α β:Type}{a:Rp α}{b:Rp β}{off:Nat}{cs':List Value}{x x':α}{y:β}(hl:off+cs'.length<=a.size)(h:∀ cs,a.rep G cs x->a.rep G (cs.take off++cs'++cs.drop (off+cs'.length)) x'):∀ cs,(Rp.pair a b).rep G cs (x,y)->(Rp.pair a b).rep G (cs.take off++cs'++cs.drop (off+cs'.length)) (x',y):=by
 rintro cs ⟨c,d,rfl,h1,h2⟩
 have l1:=a.len h1
 refine⟨_,d,?_,h c h1,h2⟩
 rw[List.take_append_of_le_length (by omega),List.drop_append_of_le_length (by omega)]
 simp only[List.append_assoc]
theorem Rp.ZeN{α β:Type}{a:Rp α}{b:Rp β}{off:Nat}{cs':List Value}{x:α}{y y':β}(h:∀ cs,b.rep G cs y->b.rep G (cs.take off++cs'++cs.drop (off+cs'.length)) y'):∀ cs,(Rp.pair a b).rep G cs (x,y)->(Rp.pair a b).rep G (cs.take (a.size+off)++cs'++cs.drop (a.size+off+cs'.length)) (x,y'):=by
 rintro cs ⟨c,d,rfl,h1,h2⟩
 have l1:=a.len h1
 refine⟨c,_,?_,h1,h d h2⟩
 rw[<- l1,Nat.add_assoc,List.take_length_add_append,List.drop_length_add_append]
 simp only[List.append_assoc]
theorem Rp.whole{a:Rp α}{cs':List Value}{x x':α}(h:a.rep G cs' x'):∀ cs,a.rep G cs x->a.rep G (cs.take 0++cs'++cs.drop (0+cs'.length)) x':=fun cs h1=>by
 have l1:=a.len h1
 have l2:=a.len h
 rw[List.take_zero,Nat.zero_add,List.drop_of_length_le (by omega),List.nil_append,List.append_nil]
 exact h
theorem Rp.ZhT{α β:Type}{a:Rp α}{f:β->α}{off:Nat}{cs':List Value}{x x':β}(h:∀ cs,a.rep G cs (f x)->a.rep G (cs.take off++cs'++cs.drop (off+cs'.length)) (f x')):∀ cs,(Rp.via a f).rep G cs x->(Rp.via a f).rep G (cs.take off++cs'++cs.drop (off+cs'.length)) x':=h
theorem Y0.slcH{S:Asrt}{dst:Option Nat}{t e:TypeId}{x y:Operand}{p:Option Addr}{n cap sz h:Nat}{k:IntKind}(ht:P.underlying t=some (.slice e))(hsz:(P.info? e).map (·.size)=some sz)(hx:fr.ev x=some (.slice p n cap))(hy:fr.ev y=some (.int k (h:Int)))(h1:h<=cap):
  Y0 P N ⟨dst,.slice t x none (some y) none,ty,pos,af,g⟩ fr S (.slice p h cap):=fun a w ha _=>by
 simp only[execOp,ha.ev hx,Option.map_none,Option.map_some,ha.ev hy]
 simp[Instr.sliceAt,run_underlying ht,Instr.slice,Instr.sliceBounds,Instr.sliceBound,asIntOf,run_sizeOf hsz,h1]
 intro _
 cases p with
 | none=>rfl
 | some q=>simp[Addr.add]
theorem RowR.ZpH{p:Option Addr}{n c:Nat}{xs:List α}{tk:Option Ow}(h:RowR r e G (.slice p n c) xs tk):xs.length<=c:=by
 cases tk with
 | none=>obtain⟨rfl,_⟩:=h; simp
 | some q=>
  obtain⟨cap',cs,rest,h1,h2,h3,h4,h5,h6,h7⟩:=h
  cases h1
  exact h7
theorem WL.cutRow{dst:Option Nat}{t:TypeId}{x y:Operand}{p:Option Addr}{n cap sz i:Nat}{xs:List α}{tk:Option Ow}(key:Nat)(hg:guardOK ops fr ⟨dst,.call ⟨.builtin .append,#[x,y],#[t,t]⟩,ty,pos,af,g⟩ true)(hd:dstOK N dst)(ht:P.underlying t=some (.slice e))(hsz:(P.info? e).map (·.size)=some sz)(hsr:sz=r.size)
  (h:RowR r e G (.slice p n cap) xs tk) (hid:L.get key=tk) (hx:fr.ev x=some (.slice p i cap)) (hy:fr.ev y=some (.slice (if cap=i+1 then p else p.map (·.add ((i+1)*sz))) (n-(i+1)) (cap-(i+1)))) (hi:i<xs.length)
  (k:∀ tk',RowR r e G (.slice p (xs.take i++xs.drop (i+1)).length cap) (xs.take i++xs.drop (i+1)) tk'->WL P N ops Q l (putFr dst (.slice p (xs.take i++xs.drop (i+1)).length cap) fr) (St w0 G0 G ((key,tk')::L))):WL P N ops Q (⟨dst,.call ⟨.builtin .append,#[x,y],#[t,t]⟩,ty,pos,af,g⟩::l) fr (St w0 G0 G L):=by
 cases tk with
 | none=>obtain⟨rfl,_⟩:=h; simp at hi
 | some q=>
  obtain⟨cap',cs,rest,h1,h2,h3,h4,h5,h6,h7⟩:=h
  cases h1
  obtain⟨qb,qo,qm⟩:=q
  dsimp only at h2 h3
  subst h2 h3
  obtain⟨ca,cb,hcab,hra,hrb⟩:=RepL.split (l:=xs.take i) (m:=xs.drop i) (by rw[List.take_append_drop]; exact h4)
  subst hcab
  obtain⟨cd,ce,hcde,hrd,hre⟩:=RepL.split (l:=(xs.drop i).take 1) (m:=xs.drop (i+1)) (by
   have:xs.drop (i+1)=(xs.drop i).drop 1:=by rw[List.drop_drop]
   rw[this,List.take_append_drop]; exact hrb)
  subst hcde
  have hla:=hra.len
  have hld:=hrd.len
  have hle2:=hre.len
  rw[List.length_take,Nat.min_eq_left (by omega),<- hsr] at hla
  rw[List.length_take,List.length_drop,Nat.min_eq_left (by omega),<- hsr,Nat.one_mul] at hld
  rw[List.length_drop,<- hsr] at hle2
  rw[<- hsr] at h5
  have h5':=h5
  simp only[List.length_append] at h5'
  have e0:(ca++(cd++ce)++rest)=ca++cd++(ce++rest):=by simp only[List.append_assoc]
  rw[e0] at hid h5
  have hkk:(ca++cd).length=(i+1)*sz:=by rw[List.length_append,hla,hld,Nat.add_mul,Nat.one_mul]
  have hy':fr.ev y=some (.slice (some ⟨qb,if cap=i+1 then 0 else (i+1)*sz,none⟩) (xs.length-(i+1)) (cap-(i+1))):=by
   rw[hy]
   by_cases c:cap=i+1
   .rw[if_pos c,if_pos c]
   rw[if_neg c,if_neg c]
   show some (Value.slice (some ((⟨qb,0,none⟩:Addr).add ((i+1)*sz))) _ _)=_
   rw[Za2,Nat.zero_add]
  have e4:spl (ca++cd++(ce++rest)) (i*sz) ce=(ca++ce)++(spl (ca++cd++(ce++rest)) (i*sz) ce).drop (ca++ce).length:=by
   have e5:∃ q,spl (ca++cd++(ce++rest)) (i*sz) ce=(ca++ce)++q:=⟨_,by rw[<- hla]; simp only[spl]; rw[List.append_assoc ca cd,List.take_left]⟩
   obtain⟨q,hq⟩:=e5
   rw[hq,List.drop_left]
  have hlen:(xs.take i++xs.drop (i+1)).length=i+(xs.length-(i+1)):=by simp only[List.length_append,List.length_take,List.length_drop]; omega
  refine WL.appendOwn (sz:=sz) (ds:=ce) (b:=qb) (n:=i) (cap:=cap) (m:=xs.length-(i+1)) key hg hd ht hsz hid hx hy' hle2 (fun w hs q u hu=>?_) (by omega) (by simp only[List.length_append]; omega) hre.one ?_
  .have hql:=(List.getElem?_eq_some_iff.1 hu).1
   have hck:¬ cap=i+1:=fun e=>by rw[hle2] at hql; rw[show xs.length-(i+1)=0 by omega,Nat.zero_mul] at hql; omega
   rw[if_neg hck,hs.cellOwn hid,List.getElem?_append_right (by omega),<- hkk,Nat.add_sub_cancel_left,List.getElem?_append_left hql]
   exact hu
  have key2:=k (some ⟨qb,.cells (spl (ca++cd++(ce++rest)) (i*sz) ce).toArray e (0,0),0⟩) ⟨cap,ca++ce,(spl (ca++cd++(ce++rest)) (i*sz) ce).drop (ca++ce).length,rfl,by rw[<- e4],rfl,hra.append hre,by rw[<- e4,Zc0 (by simp only[List.length_append]; omega),<- hsr]; exact h5,h6,by rw[hlen]; omega⟩
  rw[hlen] at key2
  exact key2
end
end Go.EL

namespace Go.Proofs
open Go.IntKind (i8 i16 i32 i64 u8 u16 u32 u64)
open Go.Shelf
def Tryz.Zn2:Go.Shelf.Ren:=⟨fun|14=>219|20=>222|21=>223|22=>224|23=>225|24=>226|25=>227|26=>228|27=>229|46=>231|47=>232|48=>233|49=>234|50=>235|15=>220|57=>236|28=>214|29=>230|n=>n,fun|24=>133|22=>45|3=>3|25=>234|4=>4|0=>0|46=>244|45=>243|50=>207|66=>250|39=>157|55=>175|70=>254|76=>256|77=>257|53=>202|5=>5|9=>9|n=>n,fun|n=>n⟩
theorem Tryz.sortL:Go.Proofs.SlLaysF0.n14 Tryz.prog Tryz.Zn2:={
 mixed:=by kernel_rfl
 f14:=⟨Tryz.f219.name,by decide,Tryz.func219.trans (congrArg some (by kernel_rfl))⟩
 f15:=Tryz.func220.trans (congrArg some (by kernel_rfl))
 f20:=⟨Tryz.f222.name,by decide,Tryz.func222.trans (congrArg some (by kernel_rfl))⟩
 f21:=⟨Tryz.f223.name,by decide,Tryz.func223.trans (congrArg some (by kernel_rfl))⟩
 f22:=⟨Tryz.f224.name,by decide,Tryz.func224.trans (congrArg some (by kernel_rfl))⟩
 f23:=⟨Tryz.f225.name,by decide,Tryz.func225.trans (congrArg some (by kernel_rfl))⟩
 f24:=⟨Tryz.f226.name,by decide,Tryz.func226.trans (congrArg some (by kernel_rfl))⟩
 f25:=⟨Tryz.f227.name,by decide,Tryz.func227.trans (congrArg some (by kernel_rfl))⟩
 f26:=⟨Tryz.f228.name,by decide,Tryz.func228.trans (congrArg some (by kernel_rfl))⟩
 f27:=⟨Tryz.f229.name,by decide,Tryz.func229.trans (congrArg some (by kernel_rfl))⟩
 f28:=Tryz.func214.trans (congrArg some (by kernel_rfl))
 f29:=Tryz.func230.trans (congrArg some (by kernel_rfl))
 f46:=⟨Tryz.f231.name,by decide,Tryz.func231.trans (congrArg some (by kernel_rfl))⟩
 f47:=Tryz.func232.trans (congrArg some (by kernel_rfl))
 f48:=Tryz.func233.trans (congrArg some (by kernel_rfl))
 f49:=⟨Tryz.f234.name,by decide,Tryz.func234.trans (congrArg some (by kernel_rfl))⟩
 f50:=⟨Tryz.f235.name,by decide,Tryz.func235.trans (congrArg some (by kernel_rfl))⟩
 f57:=⟨Tryz.f236.name,by decide,Tryz.func236.trans (congrArg some (by kernel_rfl))⟩
 t0:=Tryz.underlying0
 a0:=Tryz.isAgg0
 z0:=Tryz.sizeOf0
 v0:=Tryz.zeroValue0
 t3:=Tryz.underlying3
 a3:=Tryz.isAgg3
 z3:=Tryz.sizeOf3
 v3:=Tryz.zeroValue3
 t4:=Tryz.underlying4
 a4:=Tryz.isAgg4
 z4:=Tryz.sizeOf4
 v4:=Tryz.zeroValue4
 t5:=Tryz.underlying5
 a5:=Tryz.isAgg5
 z5:=Tryz.sizeOf5
 v5:=Tryz.zeroValue5
 t9:=Tryz.underlying9
 a9:=Tryz.isAgg9
 z9:=Tryz.sizeOf9
 v9:=Tryz.zeroValue9
 t22:=Tryz.underlying45
 a22:=Tryz.isAgg45
 z22:=Tryz.sizeOf45
 v22:=Tryz.zeroValue45
 t25:=Tryz.underlying234
 a25:=Tryz.isAgg234
 z25:=Tryz.sizeOf234
 v25:=Tryz.zeroValue234
 t39:=Tryz.underlying157
 a39:=Tryz.isAgg157
 z39:=Tryz.sizeOf157
 v39:=Tryz.zeroValue157
 t45:=Tryz.underlying243
 a45:=Tryz.isAgg243
 z45:=Tryz.sizeOf243
 v45:=Tryz.zeroValue243
 t46:=Tryz.underlying244
 a46:=Tryz.isAgg244
 z46:=Tryz.sizeOf244
 v46:=Tryz.zeroValue244
 t50:=Tryz.underlying207
 a50:=Tryz.isAgg207
 z50:=Tryz.sizeOf207
 v50:=Tryz.zeroValue207
 t53:=Tryz.underlying202
 a53:=Tryz.isAgg202
 z53:=Tryz.sizeOf202
 v53:=Tryz.zeroValue202
 t55:=Tryz.underlying175
 a55:=Tryz.isAgg175
 z55:=Tryz.sizeOf175
 v55:=Tryz.zeroValue175
 t66:=Tryz.underlying250
 a66:=Tryz.isAgg250
 z66:=Tryz.sizeOf250
 v66:=Tryz.zeroValue250
 t70:=Tryz.underlying254
 a70:=Tryz.isAgg254
 z70:=Tryz.sizeOf254
 v70:=Tryz.zeroValue254
 t76:=Tryz.underlying256
 a76:=Tryz.isAgg256
 z76:=Tryz.sizeOf256
 v76:=Tryz.zeroValue256
 t77:=Tryz.underlying257
 a77:=Tryz.isAgg257
 z77:=Tryz.sizeOf257
 v77:=Tryz.zeroValue257 }
end Go.Proofs

namespace Go.Proofs.YtnjiloaolgjedaaGreat
open Go.IntKind (i8 i16 i32 i64 u8 u16 u32 u64)
open Go.Proofs.Tryz
open Go Go.EL Go.RowKit Go.Proofs
abbrev i'(x:Int):Value:=.int .i64 x
abbrev sl{α:Type}(r:Rp α)(G:Mem)(p:Option Addr)(c:Nat)(xs:List α):Prop:=SlR r G (.slice p xs.length c) xs
abbrev v54'(x:Zw)(ptp:Option Addr)(ptc:Nat):List Value:=[.int .u8 x.kind,.int .u8 x.a,.int .u8 x.b,.int .u8 x.n,.slice ptp x.p.t.length ptc]
abbrev v25'(x:ZF)(sp:Option Addr)(sc:Nat)(vp:Option Addr)(vc:Nat):List Value:=[.slice sp x.s.length sc,.slice vp x.v.length vc]
abbrev v128'(x:Zj)(magp:Option Addr)(magc:Nat):List Value:=[.bool x.neg,.slice magp x.mag.length magc]
abbrev w128'(x:Zj):Mem->Value->Prop:=fun G v=>∃ q0 q1,v = .agg ((v128' x q0 q1)).toArray/\sl (Rp.int .u32) G q0 q1 x.mag
abbrev v130'(x:Zm)(nummagp:Option Addr)(nummagc:Nat)(denmagp:Option Addr)(denmagc:Nat):List Value:=[.bool x.num.neg,.slice nummagp x.num.mag.length nummagc,.bool x.den.neg,.slice denmagp x.den.mag.length denmagc]
abbrev w130'(x:Zm):Mem->Value->Prop:=fun G v=>∃ q0 q1 q2 q3,v = .agg ((v130' x q0 q1 q2 q3)).toArray/\sl (Rp.int .u32) G q0 q1 x.num.mag/\sl (Rp.int .u32) G q2 q3 x.den.mag
abbrev v110'{α:Type}(i:Int)(p:Option Addr)(xs:List α)(c:Nat):List Value:=[.int .i64 i,.slice p xs.length c]
abbrev v31'(x:Za)(varsp:Option Addr)(varsc:Nat)(eqsp:Option Addr)(eqsc:Nat)(neqsp:Option Addr)(neqsc:Nat):List Value:=[.slice varsp x.vars.length varsc,.slice eqsp x.eqs.length eqsc,.slice neqsp x.neqs.length neqsc,.int .i64 x.next]
abbrev w31'(x:Za):Mem->Value->Prop:=fun G v=>∃ q0 q1 q2 q3 q4 q5,v = .agg ((v31' x q0 q1 q2 q3 q4 q5)).toArray/\sl Rp.str G q0 q1 x.vars/\sl Zq G q2 q3 x.eqs/\sl Zq G q4 q5 x.neqs
abbrev w31t'(x:Za×Int):Mem->Value->Prop:=fun G v=>∃ q0 q1 q2 q3 q4 q5,v = .tuple #[.agg ((v31' x.1 q0 q1 q2 q3 q4 q5)).toArray,i' x.2]/\sl Rp.str G q0 q1 x.1.vars/\sl Zq G q2 q3 x.1.eqs/\sl Zq G q4 q5 x.1.neqs
abbrev w31u'(x:Za×Int×Int):Mem->Value->Prop:=fun G v=>∃ q0 q1 q2 q3 q4 q5,v = .tuple #[.agg ((v31' x.1 q0 q1 q2 q3 q4 q5)).toArray,i' x.2.1,i' x.2.2]/\sl Rp.str G q0 q1 x.1.vars/\sl Zq G q2 q3 x.1.eqs/\sl Zq G q4 q5 x.1.neqs
abbrev v48'(x:Zc)(pp:Option Addr)(pc:Nat):List Value:=[.int .i64 x.kind,.string x.name,.int .i64 x.at',.int .i64 x.to',.int .i64 x.id,.slice pp x.p.length pc,.bool x.neq]
abbrev w48'(x:Zc):Mem->Value->Prop:=fun G v=>∃ q0 q1,v = .agg ((v48' x q0 q1)).toArray/\sl Zar G q0 q1 x.p
abbrev w48t'(x:Zc×Int):Mem->Value->Prop:=fun G v=>∃ q0 q1,v = .tuple #[.agg ((v48' x.1 q0 q1)).toArray,i' x.2]/\sl Zar G q0 q1 x.1.p
abbrev v63'(x:Zf)(ep:Option Addr)(ec:Nat):List Value:=[.int .i64 x.parent,.int .i64 x.other,.slice ep x.e.length ec]
abbrev v34'(x:Zg)(rootvarsp:Option Addr)(rootvarsc:Nat)(rooteqsp:Option Addr)(rooteqsc:Nat)(rootneqsp:Option Addr)(rootneqsc:Nat)(vp:Option Addr)(vc:Nat):List Value:=[.slice rootvarsp x.root.vars.length rootvarsc,.slice rooteqsp x.root.eqs.length rooteqsc,.slice rootneqsp x.root.neqs.length rootneqsc,.int .i64 x.root.next,.slice vp x.v.length vc]
abbrev w34'(x:Zg):Mem->Value->Prop:=fun G v=>∃ q0 q1 q2 q3 q4 q5 q6 q7,v = .agg ((v34' x q0 q1 q2 q3 q4 q5 q6 q7)).toArray/\sl Rp.str G q0 q1 x.root.vars/\sl Zq G q2 q3 x.root.eqs/\sl Zq G q4 q5 x.root.neqs/\sl Zac G q6 q7 x.v
abbrev w34t'(x:Zg×Int):Mem->Value->Prop:=fun G v=>∃ q0 q1 q2 q3 q4 q5 q6 q7,v = .tuple #[.agg ((v34' x.1 q0 q1 q2 q3 q4 q5 q6 q7)).toArray,i' x.2]/\sl Rp.str G q0 q1 x.1.root.vars/\sl Zq G q2 q3 x.1.root.eqs/\sl Zq G q4 q5 x.1.root.neqs/\sl Zac G q6 q7 x.1.v
abbrev w34u'(x:Zg×Int×Int):Mem->Value->Prop:=fun G v=>∃ q0 q1 q2 q3 q4 q5 q6 q7,v = .tuple #[.agg ((v34' x.1 q0 q1 q2 q3 q4 q5 q6 q7)).toArray,i' x.2.1,i' x.2.2]/\sl Rp.str G q0 q1 x.1.root.vars/\sl Zq G q2 q3 x.1.root.eqs/\sl Zq G q4 q5 x.1.root.neqs/\sl Zac G q6 q7 x.1.v
abbrev v72'(x:Zx)(svarsp:Option Addr)(svarsc:Nat)(seqsp:Option Addr)(seqsc:Nat)(sneqsp:Option Addr)(sneqsc:Nat):List Value:=[.slice svarsp x.s.vars.length svarsc,.slice seqsp x.s.eqs.length seqsc,.slice sneqsp x.s.neqs.length sneqsc,.int .i64 x.s.next,.int .i64 x.n,.int .i64 x.e]
abbrev w72'(x:Zx):Mem->Value->Prop:=fun G v=>∃ q0 q1 q2 q3 q4 q5,v = .agg ((v72' x q0 q1 q2 q3 q4 q5)).toArray/\sl Rp.str G q0 q1 x.s.vars/\sl Zq G q2 q3 x.s.eqs/\sl Zq G q4 q5 x.s.neqs
abbrev v84'(x:ZR)(hrootvarsp:Option Addr)(hrootvarsc:Nat)(hrooteqsp:Option Addr)(hrooteqsc:Nat)(hrootneqsp:Option Addr)(hrootneqsc:Nat)(hvp:Option Addr)(hvc:Nat):List Value:=[.slice hrootvarsp x.h.root.vars.length hrootvarsc,.slice hrooteqsp x.h.root.eqs.length hrooteqsc,.slice hrootneqsp x.h.root.neqs.length hrootneqsc,.int .i64 x.h.root.next,.slice hvp x.h.v.length hvc,.int .i64 x.n,.int .i64 x.e]
abbrev w84'(x:ZR):Mem->Value->Prop:=fun G v=>∃ q0 q1 q2 q3 q4 q5 q6 q7,v = .agg ((v84' x q0 q1 q2 q3 q4 q5 q6 q7)).toArray/\sl Rp.str G q0 q1 x.h.root.vars/\sl Zq G q2 q3 x.h.root.eqs/\sl Zq G q4 q5 x.h.root.neqs/\sl Zac G q6 q7 x.h.v
abbrev wl'{α:Type}(R:Rp α)(x:List α):Mem->Value->Prop:=fun G v=>∃ q0 q1,v = .slice q0 x.length q1/\sl @R G q0 q1 x
abbrev wlt'{α:Type}(R:Rp α)(x:List α×Int):Mem->Value->Prop:=fun G v=>∃ q0 q1,v = .tuple #[.slice q0 x.1.length q1,i' x.2]/\sl @R G q0 q1 x.1
abbrev ff:=false
abbrev tt:=true
theorem k0'{P:Program}{N:Nat}{fn:Func}{w0:Bs}{G0 G:Mem}{L:Lo}{fr:Fr}{r1:ResultVar}{α:Type}{f:α->Value}{x r:α}(e:x=r)(hr:fn.results = #[r1])(h1:RV P fr L r1 (f x)):WE N (bodyPost P fn (RetL w0 G0 fun _ _ v=>v=f r)) .ret fr (St w0 G0 G L):=e ▸ WE.ret1 hr h1 rfl
abbrev bk0(b:Nat)(c:List Value)(t:TypeId):Option Ow:=some ⟨b,.cells c.toArray t (0,0),0⟩
abbrev pt0(b:Nat):Value:=.pointer (some ⟨b,0,none⟩)
theorem sx0{P:Program}{N:Nat}{Q:Post}{fr:Fr}{S:Asrt}{ops:Array Oper}{dst:Option Nat}{ty:TypeId}{pos:String}{af:Array Edge}{y:Code}{v:Value}{x:Operand}(h:fr.ev x=some v)(hd:dstOK N dst)(k:WC P N y Q (putFr dst v fr) S):WL P N ops (Exit.then (y.wp P Q) Q) [⟨dst,.assign x,ty,pos,af,none⟩] fr S:=sg h hd (nx k)
abbrev y31'(G:Mem)(p:Option Addr)(c:Nat)(q:Option Addr)(d:Nat)(r:Option Addr)(e:Nat)(x:Za):Prop:=sl Rp.str G p c x.vars/\sl Zq G q d x.eqs/\sl Zq G r e x.neqs
abbrev y34'(G:Mem)(p:Option Addr)(c:Nat)(q:Option Addr)(d:Nat)(r:Option Addr)(e:Nat)(s:Option Addr)(f:Nat)(x:Zg):Prop:=sl Rp.str G p c x.root.vars/\sl Zq G q d x.root.eqs/\sl Zq G r e x.root.neqs/\sl Zac G s f x.v
theorem f1{f:Fr}{a0:Nat}{b0:Value}(h0:f.get a0=some b0):Fr.sub [(a0,b0)] f:=Fr.Zh h0 (Fr.Zs f)
theorem f2{f:Fr}{a0:Nat}{b0:Value}{a1:Nat}{b1:Value}(h0:f.get a0=some b0)(h1:f.get a1=some b1):Fr.sub [(a0,b0),(a1,b1)] f:=Fr.Zh h0 (Fr.Zh h1 (Fr.Zs f))
theorem f3{f:Fr}{a0:Nat}{b0:Value}{a1:Nat}{b1:Value}{a2:Nat}{b2:Value}(h0:f.get a0=some b0)(h1:f.get a1=some b1)(h2:f.get a2=some b2):Fr.sub [(a0,b0),(a1,b1),(a2,b2)] f:=Fr.Zh h0 (Fr.Zh h1 (Fr.Zh h2 (Fr.Zs f)))
theorem f4{f:Fr}{a0:Nat}{b0:Value}{a1:Nat}{b1:Value}{a2:Nat}{b2:Value}{a3:Nat}{b3:Value}(h0:f.get a0=some b0)(h1:f.get a1=some b1)(h2:f.get a2=some b2)(h3:f.get a3=some b3):Fr.sub [(a0,b0),(a1,b1),(a2,b2),(a3,b3)] f:=Fr.Zh h0 (Fr.Zh h1 (Fr.Zh h2 (Fr.Zh h3 (Fr.Zs f))))
theorem f5{f:Fr}{a0:Nat}{b0:Value}{a1:Nat}{b1:Value}{a2:Nat}{b2:Value}{a3:Nat}{b3:Value}{a4:Nat}{b4:Value}(h0:f.get a0=some b0)(h1:f.get a1=some b1)(h2:f.get a2=some b2)(h3:f.get a3=some b3)(h4:f.get a4=some b4):Fr.sub [(a0,b0),(a1,b1),(a2,b2),(a3,b3),(a4,b4)] f:=Fr.Zh h0 (Fr.Zh h1 (Fr.Zh h2 (Fr.Zh h3 (Fr.Zh h4 (Fr.Zs f)))))
theorem f6{f:Fr}{a0:Nat}{b0:Value}{a1:Nat}{b1:Value}{a2:Nat}{b2:Value}{a3:Nat}{b3:Value}{a4:Nat}{b4:Value}{a5:Nat}{b5:Value}(h0:f.get a0=some b0)(h1:f.get a1=some b1)(h2:f.get a2=some b2)(h3:f.get a3=some b3)(h4:f.get a4=some b4)(h5:f.get a5=some b5):Fr.sub [(a0,b0),(a1,b1),(a2,b2),(a3,b3),(a4,b4),(a5,b5)] f:=Fr.Zh h0 (Fr.Zh h1 (Fr.Zh h2 (Fr.Zh h3 (Fr.Zh h4 (Fr.Zh h5 (Fr.Zs f))))))
theorem f7{f:Fr}{a0:Nat}{b0:Value}{a1:Nat}{b1:Value}{a2:Nat}{b2:Value}{a3:Nat}{b3:Value}{a4:Nat}{b4:Value}{a5:Nat}{b5:Value}{a6:Nat}{b6:Value}(h0:f.get a0=some b0)(h1:f.get a1=some b1)(h2:f.get a2=some b2)(h3:f.get a3=some b3)(h4:f.get a4=some b4)(h5:f.get a5=some b5)(h6:f.get a6=some b6):Fr.sub [(a0,b0),(a1,b1),(a2,b2),(a3,b3),(a4,b4),(a5,b5),(a6,b6)] f:=Fr.Zh h0 (Fr.Zh h1 (Fr.Zh h2 (Fr.Zh h3 (Fr.Zh h4 (Fr.Zh h5 (Fr.Zh h6 (Fr.Zs f)))))))
theorem f8{f:Fr}{a0:Nat}{b0:Value}{a1:Nat}{b1:Value}{a2:Nat}{b2:Value}{a3:Nat}{b3:Value}{a4:Nat}{b4:Value}{a5:Nat}{b5:Value}{a6:Nat}{b6:Value}{a7:Nat}{b7:Value}(h0:f.get a0=some b0)(h1:f.get a1=some b1)(h2:f.get a2=some b2)(h3:f.get a3=some b3)(h4:f.get a4=some b4)(h5:f.get a5=some b5)(h6:f.get a6=some b6)(h7:f.get a7=some b7):Fr.sub [(a0,b0),(a1,b1),(a2,b2),(a3,b3),(a4,b4),(a5,b5),(a6,b6),(a7,b7)] f:=Fr.Zh h0 (Fr.Zh h1 (Fr.Zh h2 (Fr.Zh h3 (Fr.Zh h4 (Fr.Zh h5 (Fr.Zh h6 (Fr.Zh h7 (Fr.Zs f))))))))
theorem f9{f:Fr}{a0:Nat}{b0:Value}{a1:Nat}{b1:Value}{a2:Nat}{b2:Value}{a3:Nat}{b3:Value}{a4:Nat}{b4:Value}{a5:Nat}{b5:Value}{a6:Nat}{b6:Value}{a7:Nat}{b7:Value}{a8:Nat}{b8:Value}(h0:f.get a0=some b0)(h1:f.get a1=some b1)(h2:f.get a2=some b2)(h3:f.get a3=some b3)(h4:f.get a4=some b4)(h5:f.get a5=some b5)(h6:f.get a6=some b6)(h7:f.get a7=some b7)(h8:f.get a8=some b8):Fr.sub [(a0,b0),(a1,b1),(a2,b2),(a3,b3),(a4,b4),(a5,b5),(a6,b6),(a7,b7),(a8,b8)] f:=Fr.Zh h0 (Fr.Zh h1 (Fr.Zh h2 (Fr.Zh h3 (Fr.Zh h4 (Fr.Zh h5 (Fr.Zh h6 (Fr.Zh h7 (Fr.Zh h8 (Fr.Zs f)))))))))
theorem f10{f:Fr}{a0:Nat}{b0:Value}{a1:Nat}{b1:Value}{a2:Nat}{b2:Value}{a3:Nat}{b3:Value}{a4:Nat}{b4:Value}{a5:Nat}{b5:Value}{a6:Nat}{b6:Value}{a7:Nat}{b7:Value}{a8:Nat}{b8:Value}{a9:Nat}{b9:Value}(h0:f.get a0=some b0)(h1:f.get a1=some b1)(h2:f.get a2=some b2)(h3:f.get a3=some b3)(h4:f.get a4=some b4)(h5:f.get a5=some b5)(h6:f.get a6=some b6)(h7:f.get a7=some b7)(h8:f.get a8=some b8)(h9:f.get a9=some b9):Fr.sub [(a0,b0),(a1,b1),(a2,b2),(a3,b3),(a4,b4),(a5,b5),(a6,b6),(a7,b7),(a8,b8),(a9,b9)] f:=Fr.Zh h0 (Fr.Zh h1 (Fr.Zh h2 (Fr.Zh h3 (Fr.Zh h4 (Fr.Zh h5 (Fr.Zh h6 (Fr.Zh h7 (Fr.Zh h8 (Fr.Zh h9 (Fr.Zs f))))))))))
theorem f11{f:Fr}{a0:Nat}{b0:Value}{a1:Nat}{b1:Value}{a2:Nat}{b2:Value}{a3:Nat}{b3:Value}{a4:Nat}{b4:Value}{a5:Nat}{b5:Value}{a6:Nat}{b6:Value}{a7:Nat}{b7:Value}{a8:Nat}{b8:Value}{a9:Nat}{b9:Value}{a10:Nat}{b10:Value}(h0:f.get a0=some b0)(h1:f.get a1=some b1)(h2:f.get a2=some b2)(h3:f.get a3=some b3)(h4:f.get a4=some b4)(h5:f.get a5=some b5)(h6:f.get a6=some b6)(h7:f.get a7=some b7)(h8:f.get a8=some b8)(h9:f.get a9=some b9)(h10:f.get a10=some b10):Fr.sub [(a0,b0),(a1,b1),(a2,b2),(a3,b3),(a4,b4),(a5,b5),(a6,b6),(a7,b7),(a8,b8),(a9,b9),(a10,b10)] f:=Fr.Zh h0 (Fr.Zh h1 (Fr.Zh h2 (Fr.Zh h3 (Fr.Zh h4 (Fr.Zh h5 (Fr.Zh h6 (Fr.Zh h7 (Fr.Zh h8 (Fr.Zh h9 (Fr.Zh h10 (Fr.Zs f)))))))))))
theorem f12{f:Fr}{a0:Nat}{b0:Value}{a1:Nat}{b1:Value}{a2:Nat}{b2:Value}{a3:Nat}{b3:Value}{a4:Nat}{b4:Value}{a5:Nat}{b5:Value}{a6:Nat}{b6:Value}{a7:Nat}{b7:Value}{a8:Nat}{b8:Value}{a9:Nat}{b9:Value}{a10:Nat}{b10:Value}{a11:Nat}{b11:Value}(h0:f.get a0=some b0)(h1:f.get a1=some b1)(h2:f.get a2=some b2)(h3:f.get a3=some b3)(h4:f.get a4=some b4)(h5:f.get a5=some b5)(h6:f.get a6=some b6)(h7:f.get a7=some b7)(h8:f.get a8=some b8)(h9:f.get a9=some b9)(h10:f.get a10=some b10)(h11:f.get a11=some b11):Fr.sub [(a0,b0),(a1,b1),(a2,b2),(a3,b3),(a4,b4),(a5,b5),(a6,b6),(a7,b7),(a8,b8),(a9,b9),(a10,b10),(a11,b11)] f:=Fr.Zh h0 (Fr.Zh h1 (Fr.Zh h2 (Fr.Zh h3 (Fr.Zh h4 (Fr.Zh h5 (Fr.Zh h6 (Fr.Zh h7 (Fr.Zh h8 (Fr.Zh h9 (Fr.Zh h10 (Fr.Zh h11 (Fr.Zs f))))))))))))
theorem f13{f:Fr}{a0:Nat}{b0:Value}{a1:Nat}{b1:Value}{a2:Nat}{b2:Value}{a3:Nat}{b3:Value}{a4:Nat}{b4:Value}{a5:Nat}{b5:Value}{a6:Nat}{b6:Value}{a7:Nat}{b7:Value}{a8:Nat}{b8:Value}{a9:Nat}{b9:Value}{a10:Nat}{b10:Value}{a11:Nat}{b11:Value}{a12:Nat}{b12:Value}(h0:f.get a0=some b0)(h1:f.get a1=some b1)(h2:f.get a2=some b2)(h3:f.get a3=some b3)(h4:f.get a4=some b4)(h5:f.get a5=some b5)(h6:f.get a6=some b6)(h7:f.get a7=some b7)(h8:f.get a8=some b8)(h9:f.get a9=some b9)(h10:f.get a10=some b10)(h11:f.get a11=some b11)(h12:f.get a12=some b12):Fr.sub [(a0,b0),(a1,b1),(a2,b2),(a3,b3),(a4,b4),(a5,b5),(a6,b6),(a7,b7),(a8,b8),(a9,b9),(a10,b10),(a11,b11),(a12,b12)] f:=Fr.Zh h0 (Fr.Zh h1 (Fr.Zh h2 (Fr.Zh h3 (Fr.Zh h4 (Fr.Zh h5 (Fr.Zh h6 (Fr.Zh h7 (Fr.Zh h8 (Fr.Zh h9 (Fr.Zh h10 (Fr.Zh h11 (Fr.Zh h12 (Fr.Zs f)))))))))))))
theorem f14{f:Fr}{a0:Nat}{b0:Value}{a1:Nat}{b1:Value}{a2:Nat}{b2:Value}{a3:Nat}{b3:Value}{a4:Nat}{b4:Value}{a5:Nat}{b5:Value}{a6:Nat}{b6:Value}{a7:Nat}{b7:Value}{a8:Nat}{b8:Value}{a9:Nat}{b9:Value}{a10:Nat}{b10:Value}{a11:Nat}{b11:Value}{a12:Nat}{b12:Value}{a13:Nat}{b13:Value}(h0:f.get a0=some b0)(h1:f.get a1=some b1)(h2:f.get a2=some b2)(h3:f.get a3=some b3)(h4:f.get a4=some b4)(h5:f.get a5=some b5)(h6:f.get a6=some b6)(h7:f.get a7=some b7)(h8:f.get a8=some b8)(h9:f.get a9=some b9)(h10:f.get a10=some b10)(h11:f.get a11=some b11)(h12:f.get a12=some b12)(h13:f.get a13=some b13):Fr.sub [(a0,b0),(a1,b1),(a2,b2),(a3,b3),(a4,b4),(a5,b5),(a6,b6),(a7,b7),(a8,b8),(a9,b9),(a10,b10),(a11,b11),(a12,b12),(a13,b13)] f:=Fr.Zh h0 (Fr.Zh h1 (Fr.Zh h2 (Fr.Zh h3 (Fr.Zh h4 (Fr.Zh h5 (Fr.Zh h6 (Fr.Zh h7 (Fr.Zh h8 (Fr.Zh h9 (Fr.Zh h10 (Fr.Zh h11 (Fr.Zh h12 (Fr.Zh h13 (Fr.Zs f))))))))))))))
theorem f15{f:Fr}{a0:Nat}{b0:Value}{a1:Nat}{b1:Value}{a2:Nat}{b2:Value}{a3:Nat}{b3:Value}{a4:Nat}{b4:Value}{a5:Nat}{b5:Value}{a6:Nat}{b6:Value}{a7:Nat}{b7:Value}{a8:Nat}{b8:Value}{a9:Nat}{b9:Value}{a10:Nat}{b10:Value}{a11:Nat}{b11:Value}{a12:Nat}{b12:Value}{a13:Nat}{b13:Value}{a14:Nat}{b14:Value}(h0:f.get a0=some b0)(h1:f.get a1=some b1)(h2:f.get a2=some b2)(h3:f.get a3=some b3)(h4:f.get a4=some b4)(h5:f.get a5=some b5)(h6:f.get a6=some b6)(h7:f.get a7=some b7)(h8:f.get a8=some b8)(h9:f.get a9=some b9)(h10:f.get a10=some b10)(h11:f.get a11=some b11)(h12:f.get a12=some b12)(h13:f.get a13=some b13)(h14:f.get a14=some b14):Fr.sub [(a0,b0),(a1,b1),(a2,b2),(a3,b3),(a4,b4),(a5,b5),(a6,b6),(a7,b7),(a8,b8),(a9,b9),(a10,b10),(a11,b11),(a12,b12),(a13,b13),(a14,b14)] f:=Fr.Zh h0 (Fr.Zh h1 (Fr.Zh h2 (Fr.Zh h3 (Fr.Zh h4 (Fr.Zh h5 (Fr.Zh h6 (Fr.Zh h7 (Fr.Zh h8 (Fr.Zh h9 (Fr.Zh h10 (Fr.Zh h11 (Fr.Zh h12 (Fr.Zh h13 (Fr.Zh h14 (Fr.Zs f)))))))))))))))
theorem f16{f:Fr}{a0:Nat}{b0:Value}{a1:Nat}{b1:Value}{a2:Nat}{b2:Value}{a3:Nat}{b3:Value}{a4:Nat}{b4:Value}{a5:Nat}{b5:Value}{a6:Nat}{b6:Value}{a7:Nat}{b7:Value}{a8:Nat}{b8:Value}{a9:Nat}{b9:Value}{a10:Nat}{b10:Value}{a11:Nat}{b11:Value}{a12:Nat}{b12:Value}{a13:Nat}{b13:Value}{a14:Nat}{b14:Value}{a15:Nat}{b15:Value}(h0:f.get a0=some b0)(h1:f.get a1=some b1)(h2:f.get a2=some b2)(h3:f.get a3=some b3)(h4:f.get a4=some b4)(h5:f.get a5=some b5)(h6:f.get a6=some b6)(h7:f.get a7=some b7)(h8:f.get a8=some b8)(h9:f.get a9=some b9)(h10:f.get a10=some b10)(h11:f.get a11=some b11)(h12:f.get a12=some b12)(h13:f.get a13=some b13)(h14:f.get a14=some b14)(h15:f.get a15=some b15):Fr.sub [(a0,b0),(a1,b1),(a2,b2),(a3,b3),(a4,b4),(a5,b5),(a6,b6),(a7,b7),(a8,b8),(a9,b9),(a10,b10),(a11,b11),(a12,b12),(a13,b13),(a14,b14),(a15,b15)] f:=Fr.Zh h0 (Fr.Zh h1 (Fr.Zh h2 (Fr.Zh h3 (Fr.Zh h4 (Fr.Zh h5 (Fr.Zh h6 (Fr.Zh h7 (Fr.Zh h8 (Fr.Zh h9 (Fr.Zh h10 (Fr.Zh h11 (Fr.Zh h12 (Fr.Zh h13 (Fr.Zh h14 (Fr.Zh h15 (Fr.Zs f))))))))))))))))
theorem w1{w0:Bs}{G0 G:Mem}{L:Lo}{a0:Nat}{b0:Option Ow}(h0:L.get a0=b0):∀ w,St w0 G0 G L w->St w0 G0 G [(a0,b0)] w:=wk (Lo.Zh h0 (Lo.Zs L))
theorem w2{w0:Bs}{G0 G:Mem}{L:Lo}{a0:Nat}{b0:Option Ow}{a1:Nat}{b1:Option Ow}(h0:L.get a0=b0)(h1:L.get a1=b1):∀ w,St w0 G0 G L w->St w0 G0 G [(a0,b0),(a1,b1)] w:=wk (Lo.Zh h0 (Lo.Zh h1 (Lo.Zs L)))
theorem w3{w0:Bs}{G0 G:Mem}{L:Lo}{a0:Nat}{b0:Option Ow}{a1:Nat}{b1:Option Ow}{a2:Nat}{b2:Option Ow}(h0:L.get a0=b0)(h1:L.get a1=b1)(h2:L.get a2=b2):∀ w,St w0 G0 G L w->St w0 G0 G [(a0,b0),(a1,b1),(a2,b2)] w:=wk (Lo.Zh h0 (Lo.Zh h1 (Lo.Zh h2 (Lo.Zs L))))
theorem w4{w0:Bs}{G0 G:Mem}{L:Lo}{a0:Nat}{b0:Option Ow}{a1:Nat}{b1:Option Ow}{a2:Nat}{b2:Option Ow}{a3:Nat}{b3:Option Ow}(h0:L.get a0=b0)(h1:L.get a1=b1)(h2:L.get a2=b2)(h3:L.get a3=b3):∀ w,St w0 G0 G L w->St w0 G0 G [(a0,b0),(a1,b1),(a2,b2),(a3,b3)] w:=wk (Lo.Zh h0 (Lo.Zh h1 (Lo.Zh h2 (Lo.Zh h3 (Lo.Zs L)))))
theorem w5{w0:Bs}{G0 G:Mem}{L:Lo}{a0:Nat}{b0:Option Ow}{a1:Nat}{b1:Option Ow}{a2:Nat}{b2:Option Ow}{a3:Nat}{b3:Option Ow}{a4:Nat}{b4:Option Ow}(h0:L.get a0=b0)(h1:L.get a1=b1)(h2:L.get a2=b2)(h3:L.get a3=b3)(h4:L.get a4=b4):∀ w,St w0 G0 G L w->St w0 G0 G [(a0,b0),(a1,b1),(a2,b2),(a3,b3),(a4,b4)] w:=wk (Lo.Zh h0 (Lo.Zh h1 (Lo.Zh h2 (Lo.Zh h3 (Lo.Zh h4 (Lo.Zs L))))))
theorem w6{w0:Bs}{G0 G:Mem}{L:Lo}{a0:Nat}{b0:Option Ow}{a1:Nat}{b1:Option Ow}{a2:Nat}{b2:Option Ow}{a3:Nat}{b3:Option Ow}{a4:Nat}{b4:Option Ow}{a5:Nat}{b5:Option Ow}(h0:L.get a0=b0)(h1:L.get a1=b1)(h2:L.get a2=b2)(h3:L.get a3=b3)(h4:L.get a4=b4)(h5:L.get a5=b5):∀ w,St w0 G0 G L w->St w0 G0 G [(a0,b0),(a1,b1),(a2,b2),(a3,b3),(a4,b4),(a5,b5)] w:=wk (Lo.Zh h0 (Lo.Zh h1 (Lo.Zh h2 (Lo.Zh h3 (Lo.Zh h4 (Lo.Zh h5 (Lo.Zs L)))))))
abbrev a':=@WE.thenRet
abbrev b':=@Zq
abbrev e':=@Y0.move
abbrev f':=@Y0.loadL
abbrev g':=@WE.then
abbrev h':=@Y0.pickT
abbrev j':=@WC.ret
abbrev k':=@WE.ret1
abbrev l':=@Y0.pickF
abbrev m':=@WE.inBlockRet
abbrev n':=@WC.seq
abbrev o':=@Y0.loadLA
abbrev q':=@WC.skip
abbrev r':=@WE.thenExit
abbrev s':=@WL.storeLA
abbrev t':=@YC.of
abbrev u':=@Zid
abbrev v':=@WL.nil
abbrev w':=@Zhk
abbrev x':=@Y0.extract
abbrev y':=@underlying29
abbrev A':=@WC.region
abbrev B':=@underlying32
abbrev C':=@WC.block
abbrev D':=@underlying126
abbrev E':=@WL.call0
abbrev F':=@underlying28
abbrev H':=@Ctr.enter
abbrev I':=@WE.inBlock
abbrev J':=@At.mono
abbrev K':=@Zar
abbrev L':=@WC.cr
abbrev M':=@Y0.lenR
abbrev N':=@WL.skip
abbrev O':=@WE.exitHere
abbrev P':=@WL.call
abbrev Q':=@WL.alloc
abbrev R':=@SlR.nil
abbrev T':=@Chain.tail0
abbrev U':=@WC.condT
abbrev V':=@Y0.idxR
abbrev W':=@Y0.add
abbrev X':=@Zac
abbrev Y':=@WE.backR
abbrev Z':=@ZdE
abbrev aa':=@Y0.loadG
abbrev ab':=@WE.endRet
abbrev ac':=@WL.cr
abbrev ad':=@RV.cellA
abbrev ae':=@Zoh
abbrev af':=@SlR.at
abbrev ag':=@WL.box
abbrev ah':=@WC.drawn
abbrev ai':=@Y0.ZpP
abbrev aj':=@Y0.lss
abbrev ak':=@underlying46
abbrev al':=@Y0.not
abbrev am':=@WC.meetH
abbrev an':=@WC.loopR
abbrev ao':=@underlying44
abbrev ap':=@WC.exit
abbrev aq':=@WE.endH
abbrev ar':=@WE.nx
abbrev as':=@WE.midH
abbrev at':=@Y0.eql
abbrev au':=@ag31
abbrev av':=@Y0.build
abbrev aw':=@Y0.neq
abbrev ax':=@AtK.snd
abbrev ay':=@AtK.via
abbrev az':=@underlying175
abbrev aA':=@underlying3
abbrev aB':=@ag34
abbrev aC':=@Y0.loadGA
abbrev aD':=@WL.storeL
abbrev aE':=@WE.conseq
abbrev aF':=@Y0.ZpK
abbrev aG':=@underlying202
abbrev aH':=@WE.ret2
abbrev aI':=@AtK.int
abbrev aJ':=@Y0.loadLP
abbrev aK':=@Y0.ZpS
abbrev aL':=@WC.crB
abbrev aM':=@WC.seqH
abbrev aN':=@Y0.conv
abbrev aO':=@underlying120
abbrev aP':=@underlying5
abbrev aQ':=@Y0.idxRow
abbrev aR':=@Zd1
abbrev aS':=@Y0.ZpU
abbrev aT':=@sz110
abbrev aU':=@ZpB
abbrev aV':=@sz31
abbrev aW':=@AtK.fst
abbrev aX':=@Chain.callU
abbrev aY':=@Y0.ZpL
abbrev aZ':=@sc32
abbrev ba':=@Y0.Zpj
abbrev bb':=@Y0.ZpM
abbrev bc':=@WL.litR
abbrev bd':=@WC.condF
abbrev be':=@Y0.gtr
abbrev bf':=@Y0.geq
abbrev bg':=@underlying119
abbrev bh':=@CtrL.enter
abbrev bi':=@Zmy
abbrev bj':=@Y0.idxA0
abbrev bk':=@Y0.sub
abbrev bl':=@underlying9
abbrev bm':=@Chain.y0UU
abbrev bn':=@Y0.Zpg
abbrev bp':=@Zi1
abbrev bq':=@sc29
abbrev br':=@Y0.Zpi
abbrev bs':=@sz202
abbrev bt':=@ag128
abbrev bu':=@Chain.floatUD
abbrev bv':=@Chain.call0
abbrev bw':=@Y0.ZpN
abbrev bx':=@WL.storeT
abbrev by':=@Chain.cr
abbrev bA':=@Y0.rem
abbrev bB':=@sc28
abbrev bC':=@sz34
abbrev bD':=@Y0.Zpn
abbrev bE':=@WL.freezeT
abbrev bF':=@Chain.alloc
abbrev bG':=@AtK.sl
abbrev bH':=@WL.conseq
abbrev bI':=@WC.knowBox
abbrev bJ':=@Y0.Zp0
abbrev bL':=@Y0.leq
abbrev bM':=@Y0.idxArr
abbrev bN':=@sc126
abbrev bO':=@ag110
abbrev bP':=@ag48
abbrev bR':=@underlying4
abbrev bT':=@WL.appendR
abbrev bU':=@Y0.makeFunc
abbrev bV':=@sz63
abbrev bW':=@ag120
abbrev bX':=@Y0.ZpY
abbrev bY':=@sc202
abbrev bZ':=@Y0.Zph
abbrev ca':=@Chain.appendOwn
abbrev cb':=@underlying138
abbrev cc':=@Y0.ZpR
abbrev cd':=@AtK.str
abbrev cf':=@sz48
abbrev cg':=@WL.unX
abbrev ch':=@sz133
abbrev ci':=@FnRd.form
abbrev cj':=@ZoZ
abbrev ck':=@Y0.Zpl
abbrev cm':=@At.box
abbrev cn':=@underlying117
abbrev co':=@Chain.floatB
abbrev cp':=@Chain.tailX4
abbrev cq':=@ZaK
abbrev cr':=@WL.appendT
abbrev cv':=@Chain.float
abbrev cw':=@WL.callT
abbrev cx':=@WL.adopt
abbrev cz':=@Y0.ZpT
abbrev cA':=@RowR.at
abbrev cB':=@Y0.ZpQ
abbrev cC':=@Y0.ZpZ
abbrev cE':=@Chain.callUU
abbrev cF':=@Y0.Zpk
abbrev cG':=@sc46
abbrev cI':=@underlying90
abbrev cJ':=@Y0.ZpO
abbrev cK':=@Y0.eq
abbrev cO':=@ZjH
abbrev cQ':=@Y0.Zpm
abbrev cR':=@ag130
abbrev cU':=@Chain.tailU1
abbrev cW':=@WE.ret3
abbrev cX':=@Tok.full
abbrev cY':=@Zkz
abbrev da':=@underlying22
abbrev db':=@underlying97
abbrev dc':=@WL.forget
abbrev dd':=@Zl0
abbrev de':=@Y0.slcN
abbrev df':=@SlR.std
abbrev di':=@WE.retW1
abbrev dj':=@YC.ofV
abbrev dk':=@Y0.loadT
abbrev dm':=@SlR.eqv
abbrev dn':=@Zbz
abbrev do':=@sz128
abbrev dp':=@Y0.ZpV
abbrev dr':=@Zl1
abbrev dt':=@underlying23
abbrev du':=@FnR.of0
abbrev dv':=@Ctr.pre
abbrev dx':=@Chain.tailU2
abbrev dy':=@AtK.vec
abbrev dz':=@Rp.vec
abbrev dB':=@Chain.litOwn
abbrev dD':=@Y0.lenRow
abbrev dE':=@Y0.ZpW
abbrev dF':=@WC.condD
abbrev dG':=@WL.copyOwn
abbrev dO':=@WL.mapIns
abbrev dQ':=@Y0.indexS
abbrev dR':=@underlying157
abbrev dS':=@underlying216
abbrev dT':=@WL.makeT
abbrev dZ':=@Y0.quo
abbrev ed':=@Y0.lenC
abbrev eh':=@Zee
abbrev ei':=@Chain.tailX2
abbrev ek':=@Chain.tailX5
abbrev el':=@ZmT
abbrev eo':=@Y0.max2
abbrev er':=@Y0.neqB
abbrev ex':=@underlying223
abbrev ey':=@Y0.loadTA
abbrev ez':=@underlying122
abbrev eB':=@Chain.callROU
abbrev eE':=@underlying50
abbrev eF':=@underlying60
abbrev eH':=@Chain.litU
end Go.Proofs.YtnjiloaolgjedaaGreat

