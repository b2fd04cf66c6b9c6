/- The law MergeSolutions holds for every input: a part of its proof (what the code does, plain models, and what they return). No condition. -/
import Derived.Test.YtnbpjambcagjcaaGreatXS14c
import Derived.Test.YtnbpjambcagjcaaGreatXS14b
import Derived.Shelf.SlGeneric
import Derived.Shelf.SlLaysF0
import Derived.Ground.SlsfProg
import Derived.Shelf.SortG.Plain
import Derived.Shelf.SortG.SortNone
import Derived.Ground.SlgnProg
import Derived.Test.YtnbpjambcagjcaaGreatProg
set_option linter.unusedVariables false
set_option linter.unusedSimpArgs false
namespace Go.EL
open Go.IntKind (i8 i16 i32 i64 u8 u16 u32 u64)
open Go Go.RowKit
def isV(s:Za)(i:Int):Bool:=decide (0<=i/\i<(s.vars.length:Int))
def usedAt(s:Za)(i:Int):Bool:=usedS ⟨i.toNat % 8,Nat.mod_lt _ (by decide)⟩ s
def hasB(s:Za)(id:Int):Bool:=decide (0<=findI s.eqs id) || decide (0<=findI s.neqs id)
def addC(s:Za)(e:Zh):Int:=
 if e.id<0\/999999<e.id\/(0<e.id/\hasB s e.id=true) then 332
 else if (e.neq=false/\12<=s.eqs.length)\/(e.neq=true/\12<=s.neqs.length)\/(e.id=0/\1000000<=s.next) then 2
 else if fitB e.p (s.vars.length:Int)=true then 0 else 320
def idC(s:Za)(e:Zh):Int:=
 if hasB s e.id=false then 332
 else if e.kind=7/\fitB e.p (s.vars.length:Int)=false then 320
 else if e.kind=8/\((0<=findI s.eqs e.id/\12<=s.neqs.length)\/(¬ 0<=findI s.eqs e.id/\12<=s.eqs.length)) then 2 else 0
def checkF(s:Za)(e:Zh):Int:=
 if e.kind=1 then (if 4<=s.vars.length then 2 else if ¬ (0<=e.at'/\e.at'<=(s.vars.length:Int)) then 330 else if nameB e.name=true/\idxI s.vars e.name<0 then 0 else 331)
 else if e.kind=2 then (if isV s e.at'=true then (if usedAt s e.at'=true then 333 else 0) else 330)
 else if e.kind=3 then (if isV s e.at'=true then (if nameB e.name=true/\(idxI s.vars e.name<0\/idxI s.vars e.name=e.at') then 0 else 331) else 330)
 else if e.kind=4 then (if isV s e.at'=true/\isV s e.to'=true then 0 else 330)
 else if e.kind=5 then addC s e
 else if e.kind=6\/e.kind=7\/e.kind=8 then idC s e else 1
theorem Zjl(s:Za)(i:Int):(Zei s i).Ret (isV s i):=by
 unfold Zei isV
 by_cases h:0<=i
 .rw[if_pos h]
  exact decide_eq_decide.2 ⟨fun k=>⟨h,k⟩,fun k=>k.2⟩
 rw[if_neg h]
 exact (decide_eq_false fun k=>h k.1).symm
theorem ZkX{s:Za}{i:Int}(hv:s.vars.length<=4)(h:isV s i=true):∃ j:Fin 8,i=(j.val:Int)/\usedAt s i=usedS j s:=by
 have:=of_decide_eq_true h
 refine⟨⟨i.toNat,by omega⟩,by simp; omega,?_⟩
 unfold usedAt
 congr 1
 exact Fin.ext (Nat.mod_eq_of_lt (by omega))
theorem Zm9{s:Za}(h:Good s)(id:Int):(ZhC s id).Ret (hasB s id):=by
 have he:=h.eqs.len
 have hn:=h.neqs.len
 refine⟨_,Zaq (by omega) id,?_⟩
 rw[Cq.Zd]
 unfold hasB
 split
 .rename_i h1
  show true=_
  rw[decide_eq_true h1]; rfl
 rename_i h1
 refine⟨_,Zaq (by omega) id,?_⟩
 show _=_
 rw[decide_eq_false h1]; rfl
theorem ZlF{s:Za}(h:Good s){e:Zh}(hp:PolOk e.p):(ZcK s e).Ret (addC s e):=by
 have hk1:∀ {r:Int},r=(if fitB e.p (s.vars.length:Int)=true then 0 else 320)->(ZE s e).Ret r:=by
  intro r hr
  subst hr
  refine⟨_,ZgQ hp (by omega),?_⟩
  rw[Cq.Zd]
  cases fitB e.p (s.vars.length:Int) <;> rfl
 have hk2:∀ {r:Int},r=(if (e.neq=false/\12<=s.eqs.length)\/(e.neq=true/\12<=s.neqs.length)\/(e.id=0/\1000000<=s.next) then 2 else if fitB e.p (s.vars.length:Int)=true then 0 else 320)->(ZaA s e).Ret r:=by
  intro r hr
  have hnext:¬ ((e.neq=false/\12<=s.eqs.length)\/(e.neq=true/\12<=s.neqs.length))->(if e.id=0 then (if 1000000<=s.next then (Cq.ret 2) else (ZE s e)) else (ZE s e):Cq Int).wp (fun a=>a=r):=by
   intro hno
   rw[Cq.Zd]
   split
   .rename_i h0
    rw[Cq.Zd]
    split
    .rename_i h1
     rw[if_pos (.inr (.inr ⟨h0,h1⟩))] at hr
     exact hr.symm
    rename_i h1
    exact hk1 (by rw[hr,if_neg (fun hh=>by rcases hh with hh|hh|hh; exact hno (.inl hh); exact hno (.inr hh); exact h1 hh.2)])
   rename_i h0
   exact hk1 (by rw[hr,if_neg (fun hh=>by rcases hh with hh|hh|hh; exact hno (.inl hh); exact hno (.inr hh); exact h0 hh.1)])
  unfold ZaA
  cases hn:e.neq with
  | true=>
   show (if true=true then _ else _:Cq Int).wp _
   rw[Cq.Zd,if_pos rfl,Cq.Zd,if_pos rfl,Cq.Zd]
   split
   .rename_i h1
    rw[if_pos (.inr (.inl ⟨hn,by omega⟩))] at hr
    exact hr.symm
   rename_i h1
   exact hnext (fun hh=>by rcases hh with hh|hh; rw[hn] at hh; exact absurd hh.1 (by decide); omega)
  | false=>
   show (if false=true then _ else _:Cq Int).wp _
   rw[Cq.Zd,if_neg (by decide),Cq.Zd]
   split
   .rename_i h1
    rw[if_pos (.inl ⟨hn,by omega⟩)] at hr
    exact hr.symm
   rename_i h1
   rw[Cq.Zd,if_neg (by decide)]
   exact hnext (fun hh=>by rcases hh with hh|hh; omega; rw[hn] at hh; exact absurd hh.1 (by decide))
 unfold ZcK addC
 show (if e.id<0 then _ else _:Cq Int).wp _
 rw[Cq.Zd]
 split
 .rename_i h1
  rw[if_pos (.inl h1)]; rfl
 rename_i h1
 rw[Cq.Zd]
 split
 .rename_i h2
  rw[if_pos (.inr (.inl h2))]; rfl
 rename_i h2
 rw[Cq.Zd]
 split
 .rename_i h3
  refine⟨_,Zm9 h e.id,?_⟩
  rw[Cq.Zd]
  split
  .rename_i h4
   rw[if_pos (.inr (.inr ⟨h3,h4⟩))]; rfl
  rename_i h4
  rw[if_neg (fun hh=>by rcases hh with hh|hh|hh; exact h1 hh; exact h2 hh; exact h4 hh.2)]
  exact hk2 rfl
 rename_i h3
 rw[if_neg (fun hh=>by rcases hh with hh|hh|hh; exact h1 hh; exact h2 hh; exact h3 hh.1)]
 exact hk2 rfl
theorem Zff{s:Za}(h:Good s){e:Zh}(hp:PolOk e.p):(Zba s e).Ret (idC s e):=by
 have he:=h.eqs.len
 have hn:=h.neqs.len
 have hk1:∀ {r:Int},r=(if e.kind=8/\((0<=findI s.eqs e.id/\12<=s.neqs.length)\/(¬ 0<=findI s.eqs e.id/\12<=s.eqs.length)) then 2 else 0)->(ZbT s e).Ret r:=by
  intro r hr
  refine⟨_,Zaq (by omega) e.id,?_⟩
  rw[Cq.Zd]
  split
  .rename_i h8
   rw[Cq.Zd]
   split
   .rename_i hf
    rw[Cq.Zd]
    split
    .rename_i hb
     rw[if_pos ⟨h8,.inl ⟨hf,by omega⟩⟩] at hr
     exact hr.symm
    rename_i hb
    rw[if_neg (fun hh=>by rcases hh.2 with hh|hh; omega; exact hh.1 hf)] at hr
    exact hr.symm
   rename_i hf
   split
   .rename_i hb
    rw[if_pos ⟨h8,.inr ⟨hf,by omega⟩⟩] at hr
    exact hr.symm
   rename_i hb
   rw[if_neg (fun hh=>by rcases hh.2 with hh|hh; exact hf hh.1; omega)] at hr
   exact hr.symm
  rename_i h8
  rw[if_neg (fun hh=>h8 hh.1)] at hr
  exact hr.symm
 unfold Zba idC
 refine⟨_,Zm9 h e.id,?_⟩
 cases hb:hasB s e.id with
 | false=>
  rw[Cq.Zd,if_pos (by decide),if_pos rfl]
  rfl
 | true=>
  rw[Cq.Zd,if_neg (by decide),if_neg (show ¬ (true=false) by decide),Cq.Zd]
  split
  .rename_i h7
   refine⟨_,ZgQ hp (by omega),?_⟩
   cases hf:fitB e.p (s.vars.length:Int) with
   | false=>
    rw[Cq.Zd,if_pos (by decide),if_pos ⟨h7,rfl⟩]
    rfl
   | true=>
    rw[Cq.Zd,if_neg (by decide),if_neg (fun hh=>absurd hh.2 (by decide))]
    exact hk1 rfl
  rename_i h7
  rw[if_neg (fun hh=>h7 hh.1)]
  exact hk1 rfl
theorem Zay{s:Za}(h:Good s){e:Zh}(hp:PolOk e.p):(Zey s e).Ret (checkF s e):=by
 have hv:=h.vars
 unfold Zey checkF
 show (if e.kind=1 then _ else _:Cq Int).wp _
 by_cases hk1:e.kind=1
 .rw[Cq.Zd,if_pos hk1,if_pos hk1,Cq.Zd]
  split
  .rename_i h1
   rw[if_pos (show 4<=s.vars.length by omega)]; rfl
  rename_i h1
  rw[if_neg (show ¬ 4<=s.vars.length by omega),Cq.Zd]
  split
  .rename_i h2
   rw[if_pos (show ¬ (0<=e.at'/\e.at'<=(s.vars.length:Int)) by omega)]; rfl
  rename_i h2
  rw[Cq.Zd]
  split
  .rename_i h3
   rw[if_pos (show ¬ (0<=e.at'/\e.at'<=(s.vars.length:Int)) by omega)]; rfl
  rename_i h3
  rw[if_neg (show ¬ ¬ (0<=e.at'/\e.at'<=(s.vars.length:Int)) by omega)]
  refine⟨_,Zll _,?_⟩
  cases hb:nameB e.name with
  | false=>rw[if_neg (fun hh=>absurd hh.1 (by decide))]; rfl
  | true=>
   refine⟨_,ZkA (by omega) _,?_⟩
   rw[Cq.Zd]
   split
   .rename_i h4
    rw[if_neg (fun hh=>by omega)]; rfl
   rename_i h4
   rw[if_pos ⟨rfl,by omega⟩]; rfl
 rw[Cq.Zd,if_neg hk1,if_neg hk1]
 by_cases hk2:e.kind=2
 .rw[Cq.Zd,if_pos hk2,if_pos hk2]
  refine⟨_,Zjl s e.at',?_⟩
  cases hb:isV s e.at' with
  | false=>rw[Cq.Zd,if_pos (by decide),if_neg (by decide)]; rfl
  | true=>
   obtain⟨j,hj,hu⟩:=ZkX hv hb
   rw[Cq.Zd,if_neg (by decide),if_pos rfl,hu]
   refine⟨usedS j s,hj ▸ ZpS h j,?_⟩
   rw[Cq.Zd]
   split <;> rfl
 rw[Cq.Zd,if_neg hk2,if_neg hk2]
 by_cases hk3:e.kind=3
 .rw[Cq.Zd,if_pos hk3,if_pos hk3]
  refine⟨_,Zjl s e.at',?_⟩
  cases hb:isV s e.at' with
  | false=>rw[Cq.Zd,if_pos (by decide),if_neg (by decide)]; rfl
  | true=>
   rw[Cq.Zd,if_neg (by decide),if_pos rfl]
   refine⟨_,ZkA (by omega) _,_,Zll _,?_⟩
   cases hb2:nameB e.name with
   | false=>rw[if_neg (show ¬ (false=true/\(idxI s.vars e.name<0\/idxI s.vars e.name=e.at')) from fun hh=>absurd hh.1 (by decide))]; rfl
   | true=>
    show (if 0<=idxI s.vars e.name then _ else _:Cq Int).wp _
    rw[Cq.Zd]
    split
    .rename_i h4
     rw[Cq.Zd]
     split <;> rename_i h5
     .rw[if_neg (fun hh=>by rcases hh.2 with hh|hh; omega; exact h5 hh)]; rfl
     rw[if_pos ⟨rfl,.inr (Classical.not_not.1 h5)⟩]; rfl
    rename_i h4
    rw[if_pos ⟨rfl,.inl (by omega)⟩]; rfl
 rw[Cq.Zd,if_neg hk3,if_neg hk3]
 by_cases hk4:e.kind=4
 .rw[Cq.Zd,if_pos hk4,if_pos hk4]
  refine⟨_,Zjl s e.at',?_⟩
  cases hb:isV s e.at' with
  | false=>rw[if_neg (fun hh=>absurd hh.1 (by decide))]; rfl
  | true=>
   refine⟨_,Zjl s e.to',?_⟩
   cases hb2:isV s e.to' with
   | false=>rw[Cq.Zd,if_pos (by decide),if_neg (fun hh=>absurd hh.2 (by decide))]; rfl
   | true=>rw[Cq.Zd,if_neg (by decide),if_pos ⟨rfl,rfl⟩]; rfl
 rw[Cq.Zd,if_neg hk4,if_neg hk4]
 by_cases hk5:e.kind=5
 .rw[Cq.Zd,if_pos hk5,if_pos hk5]
  exact⟨_,ZlF h hp,rfl⟩
 rw[Cq.Zd,if_neg hk5,if_neg hk5]
 by_cases hk6:e.kind=6
 .rw[Cq.Zd,if_pos hk6,Cq.Zd,if_pos hk6,if_pos (.inl hk6)]
  exact⟨_,Zff h hp,rfl⟩
 rw[Cq.Zd,if_neg hk6]
 by_cases hk7:e.kind=7
 .rw[Cq.Zd,if_pos hk7,Cq.Zd,if_pos hk7,if_pos (.inr (.inl hk7))]
  exact⟨_,Zff h hp,rfl⟩
 rw[Cq.Zd,if_neg hk7]
 by_cases hk8:e.kind=8
 .rw[Cq.Zd,if_pos hk8,if_pos (.inr (.inr hk8))]
  exact⟨_,Zff h hp,rfl⟩
 rw[Cq.Zd,if_neg hk8,if_neg (fun hh=>by rcases hh with hh|hh|hh; exact hk6 hh; exact hk7 hh; exact hk8 hh)]
 rfl
end Go.EL

namespace Go.EL
open Go.IntKind (i8 i16 i32 i64 u8 u16 u32 u64)
open Go Go.RowKit
def zeroS:Za:=⟨[],[],[],0⟩
def addV(s:Za)(e:Zh):Za:=
 ⟨s.vars.take e.at'.toNat++[e.name]++s.vars.drop e.at'.toNat,movedL (rotF s.vars.length e.at'.toNat) s.eqs,movedL (rotF s.vars.length e.at'.toNat) s.neqs,s.next⟩
theorem check1{s:Za}{e:Zh}(hk:e.kind=1)(hc:checkF s e=0):s.vars.length<4/\0<=e.at'/\e.at'<=(s.vars.length:Int)/\nameB e.name=true/\idxI s.vars e.name<0:=by
 unfold checkF at hc
 rw[if_pos hk] at hc
 by_cases c1:4<=s.vars.length
 .rw[if_pos c1] at hc; exact absurd hc (by decide)
 rw[if_neg c1] at hc
 by_cases c2:0<=e.at'/\e.at'<=(s.vars.length:Int)
 .rw[if_neg (show ¬ ¬ _ from fun k=>k c2)] at hc
  by_cases c3:nameB e.name=true/\idxI s.vars e.name<0
  .exact⟨by omega,c2.1,c2.2,c3.1,c3.2⟩
  rw[if_neg c3] at hc; exact absurd hc (by decide)
 rw[if_pos c2] at hc; exact absurd hc (by decide)
theorem Zno{s:Za}(h:Good s){e:Zh}(hp:PolOk e.p)(hk:e.kind=1):(Z1 s e).Ret (if checkF s e=0 then (addV s e,0) else (zeroS,checkF s e)):=by
 refine⟨_,Zay h hp,?_⟩
 by_cases hc:checkF s e=0
 .obtain⟨h1,h2,h3,h4,h5⟩:=check1 hk hc
  rw[if_pos hc,Cq.Zd,if_neg (fun hh=>hh hc)]
  obtain⟨a,ha⟩:=Int.eq_ofNat_of_zero_le h2
  have ha2:a<=s.vars.length:=by omega
  refine⟨by simp[small]; omega,?_⟩
  rw[Cq.Zd,if_pos hk,ha]
  have he:=h.eqs.len
  have hn:=h.neqs.len
  have hπ:=Zdq (a:=s.vars.length) (b:=a) (by omega) (by omega)
  have hr:=Zfm (a:=s.vars.length) (b:=a) (by omega) (by omega)
  refine⟨⟨by omega,by omega,by omega⟩,by simp[small]; omega,by simp[small]; omega,⟨by omega,by omega,by omega⟩,by simp[small]; omega,_,hr,_,ZcB hπ (by omega) (fun q hq=>(h.eqs.pol q hq).1),_,hr,_,ZcB hπ (by omega) (fun q hq=>(h.neqs.pol q hq).1),?_⟩
  show _=_
  unfold addV
  rw[ha]
  simp
 rw[if_neg hc,Cq.Zd,if_pos hc]
 rfl
end Go.EL

namespace Go.EL
open Go.IntKind (i8 i16 i32 i64 u8 u16 u32 u64)
open Go Go.RowKit
def renV(s:Za)(e:Zh):Za:=⟨s.vars.set e.at'.toNat e.name,s.eqs,s.neqs,s.next⟩
theorem check3{s:Za}{e:Zh}(hk:e.kind=3)(hc:checkF s e=0):isV s e.at'=true/\nameB e.name=true/\(idxI s.vars e.name<0\/idxI s.vars e.name=e.at'):=by
 unfold checkF at hc
 rw[if_neg (by omega),if_neg (by omega),if_pos hk] at hc
 by_cases c1:isV s e.at'=true
 .rw[if_pos c1] at hc
  by_cases c2:nameB e.name=true/\(idxI s.vars e.name<0\/idxI s.vars e.name=e.at')
  .exact⟨c1,c2⟩
  rw[if_neg c2] at hc; exact absurd hc (by decide)
 rw[if_neg c1] at hc; exact absurd hc (by decide)
theorem Znq{s:Za}(h:Good s){e:Zh}(hp:PolOk e.p)(hk:e.kind=3):(Z1 s e).Ret (if checkF s e=0 then (renV s e,0) else (zeroS,checkF s e)):=by
 have hv:=h.vars
 refine⟨_,Zay h hp,?_⟩
 by_cases hc:checkF s e=0
 .obtain⟨h3,h4,h5⟩:=check3 hk hc
  have h6:=of_decide_eq_true h3
  have hlt:e.at'.toNat<s.vars.length:=by omega
  rw[if_pos hc,Cq.Zd,if_neg (fun hh=>hh hc)]
  refine⟨by simp[small]; omega,?_⟩
  rw[Cq.Zd,if_neg (by omega),Cq.Zd,if_neg (by omega),Cq.Zd,if_pos hk]
  exact⟨s.vars[e.at'.toNat],⟨h6.1,List.getElem?_eq_getElem hlt⟩,rfl⟩
 rw[if_neg hc,Cq.Zd,if_pos hc]
 rfl
def swpV(s:Za)(e:Zh):Za:=
 ⟨(s.vars.set e.at'.toNat (s.vars.getD e.to'.toNat ByteArray.empty)).set e.to'.toNat (s.vars.getD e.at'.toNat ByteArray.empty),movedL (swapF e.at'.toNat e.to'.toNat) s.eqs,movedL (swapF e.at'.toNat e.to'.toNat) s.neqs,s.next⟩
theorem check4{s:Za}{e:Zh}(hk:e.kind=4)(hc:checkF s e=0):isV s e.at'=true/\isV s e.to'=true:=by
 unfold checkF at hc
 rw[if_neg (by omega),if_neg (by omega),if_neg (by omega),if_pos hk] at hc
 by_cases c1:isV s e.at'=true/\isV s e.to'=true
 .exact c1
 rw[if_neg c1] at hc; exact absurd hc (by decide)
theorem Znr{s:Za}(h:Good s){e:Zh}(hp:PolOk e.p)(hk:e.kind=4):(Z1 s e).Ret (if checkF s e=0 then (swpV s e,0) else (zeroS,checkF s e)):=by
 have hv:=h.vars
 refine⟨_,Zay h hp,?_⟩
 by_cases hc:checkF s e=0
 .obtain⟨h3,h4⟩:=check4 hk hc
  have h5:=of_decide_eq_true h3
  have h6:=of_decide_eq_true h4
  obtain⟨a,ha⟩:=Int.eq_ofNat_of_zero_le h5.1
  obtain⟨b,hb⟩:=Int.eq_ofNat_of_zero_le h6.1
  have ha2:a<s.vars.length:=by omega
  have hb2:b<s.vars.length:=by omega
  have he:=h.eqs.len
  have hn:=h.neqs.len
  have hπ:=swap_perm (a:=a) (b:=b) (by omega) (by omega)
  have hr:=Zfm (a:=0) (b:=0) (by omega) (by omega)
  rw[ZpH] at hr
  rw[if_pos hc,Cq.Zd,if_neg (fun hh=>hh hc)]
  refine⟨by simp[small]; omega,?_⟩
  rw[Cq.Zd,if_neg (by omega),Cq.Zd,if_neg (by omega),Cq.Zd,if_neg (by omega),Cq.Zd,if_pos hk,ha,hb]
  have hx:∃ x5,(s.vars.set (a:Int).toNat s.vars[b])[(b:Int).toNat]? = some x5:=⟨_,List.getElem?_eq_getElem (by simp; omega)⟩
  obtain⟨x5,hx5⟩:=hx
  refine⟨_,hr,⟨by omega,by omega⟩,⟨by omega,by omega⟩,s.vars[b],idxN hb2,s.vars[a],idxN ha2,s.vars[a],idxN ha2,x5,⟨by omega,hx5⟩,movedL (swapF a b) s.eqs,ZcB hπ (by omega) (fun q hq=>(h.eqs.pol q hq).1),movedL (swapF a b) s.neqs,ZcB hπ (by omega) (fun q hq=>(h.neqs.pol q hq).1),?_⟩
  show _=_
  unfold swpV
  rw[ha,hb]
  simp only[Int.toNat_natCast,List.getD_eq_getElem?_getD,List.getElem?_eq_getElem ha2,List.getElem?_eq_getElem hb2,Option.getD_some]
  rfl
 rw[if_neg hc,Cq.Zd,if_pos hc]
 rfl
end Go.EL

namespace Go.EL
open Go.IntKind (i8 i16 i32 i64 u8 u16 u32 u64)
open Go Go.RowKit
def dropV(s:Za)(e:Zh):Za:=
 ⟨s.vars.take e.at'.toNat++s.vars.drop (e.at'.toNat+1),movedL (rotF e.at'.toNat (s.vars.length-1)) s.eqs,movedL (rotF e.at'.toNat (s.vars.length-1)) s.neqs,s.next⟩
theorem check2{s:Za}{e:Zh}(hk:e.kind=2)(hc:checkF s e=0):isV s e.at'=true/\usedAt s e.at'=false:=by
 unfold checkF at hc
 rw[if_neg (by omega),if_pos hk] at hc
 cases c1:isV s e.at' with
 | false=>rw[c1,if_neg (by decide)] at hc; exact absurd hc (by decide)
 | true=>
  rw[c1,if_pos rfl] at hc
  cases c2:usedAt s e.at' with
  | false=>exact⟨rfl,rfl⟩
  | true=>rw[c2,if_pos rfl] at hc; exact absurd hc (by decide)
theorem Znp{s:Za}(h:Good s){e:Zh}(hp:PolOk e.p)(hk:e.kind=2):(Z1 s e).Ret (if checkF s e=0 then (dropV s e,0) else (zeroS,checkF s e)):=by
 have hv:=h.vars
 refine⟨_,Zay h hp,?_⟩
 by_cases hc:checkF s e=0
 .obtain⟨h3,h4⟩:=check2 hk hc
  have h5:=of_decide_eq_true h3
  obtain⟨a,ha⟩:=Int.eq_ofNat_of_zero_le h5.1
  have ha2:a<s.vars.length:=by omega
  have he:=h.eqs.len
  have hn:=h.neqs.len
  have hπ:=Zdq (a:=a) (b:=s.vars.length-1) (by omega) (by omega)
  have hr:=Zfm (a:=a) (b:=s.vars.length-1) (by omega) (by omega)
  have hw:i64.wrap ((s.vars.length:Int)-1)=((s.vars.length-1:Nat):Int):=by rw[wrap64 (by omega)]; omega
  rw[if_pos hc,Cq.Zd,if_neg (fun hh=>hh hc)]
  refine⟨by simp[small]; omega,?_⟩
  rw[Cq.Zd,if_neg (by omega),Cq.Zd,if_pos hk,ha,wrapN (by omega),hw]
  refine⟨⟨by omega,by omega,by omega⟩,by simp[small]; omega,⟨by omega,by omega,by omega⟩,by simp[small]; omega,_,hr,_,ZcB hπ (by omega) (fun q hq=>(h.eqs.pol q hq).1),_,hr,_,ZcB hπ (by omega) (fun q hq=>(h.neqs.pol q hq).1),?_⟩
  show _=_
  unfold dropV
  rw[ha]
  simp
 rw[if_neg hc,Cq.Zd,if_pos hc]
 rfl
end Go.EL

namespace Go.EL
open Go.IntKind (i8 i16 i32 i64 u8 u16 u32 u64)
open Go Go.RowKit
def findQ(l:List Zc)(id:Int):Option Zc:=l.find? fun q=>decide (q.id=id)
theorem Zgo(id:Int):∀ (l:List Zc) (k:Nat),(findQ l id=none/\findFrom id l k = -1)\/∃ j q,findQ l id=some q/\findFrom id l k=((k+j:Nat):Int)/\l[j]? = some q
 | [],_=>.inl ⟨rfl,rfl⟩
 | x::xs,k=>by
  unfold findQ
  simp only[findFrom,List.find?_cons]
  by_cases h:x.id=id
  .rw[if_pos h,decide_eq_true h]
   exact .inr ⟨0,x,rfl,by simp,rfl⟩
  rw[if_neg h,decide_eq_false h]
  rcases Zgo id xs (k+1) with ⟨h1,h2⟩|⟨j,q,h1,h2,h3⟩
  .exact .inl ⟨h1,h2⟩
  exact .inr ⟨j+1,q,h1,by rw[h2]; omega,by simpa using h3⟩
theorem ZcN(l:List Zc)(id:Int):(findQ l id=none/\findI l id = -1)\/∃ j q,findQ l id=some q/\findI l id=((j:Nat):Int)/\l[j]? = some q:=by
 rcases Zgo id l 0 with h|⟨j,q,h1,h2,h3⟩
 .exact .inl h
 exact .inr ⟨j,q,h1,by unfold findI; rw[h2]; simp,h3⟩
theorem Zjf{l:List Zc}{id:Int}:decide (0<=findI l id)=(findQ l id).isSome:=by
 rcases ZcN l id with ⟨h1,h2⟩|⟨j,q,h1,h2,_⟩
 .rw[h1,h2]; rfl
 rw[h1,h2,decide_eq_true (by omega)]; rfl
def findE(s:Za)(id:Int):Zc×Bool×Bool:=
 match findQ s.eqs id with
 | some q=>(q,false,true)
 | none=>match findQ s.neqs id with
  | some q=>(q,true,true)
  | none=>(⟨0,[]⟩,false,false)
end Go.EL

namespace Go.EL
open Go.IntKind (i8 i16 i32 i64 u8 u16 u32 u64)
open Go Go.RowKit
theorem Zjc{l:List Zc}{id:Int}(h:findI l id = -1):dropL l id=l:=by
 unfold dropL
 rw[List.filter_eq_self]
 intro q hq
 rcases ZcN l id with ⟨h1,_⟩|⟨j,q',_,h2,_⟩
 .unfold findQ at h1
  have:=List.find?_eq_none.1 h1 q hq
  simpa using this
 omega
end Go.EL

namespace Go.EL
open Go.IntKind (i8 i16 i32 i64 u8 u16 u32 u64)
open Go Go.RowKit
end Go.EL

namespace Go.EL
open Go.IntKind (i8 i16 i32 i64 u8 u16 u32 u64)
open Go Go.RowKit
def insS(s:Za)(q:Zc)(neq:Bool):Za:=if neq=true then ⟨s.vars,s.eqs,putL s.neqs q,s.next⟩ else ⟨s.vars,putL s.eqs q,s.neqs,s.next⟩
end Go.EL

namespace Go.EL
open Go.IntKind (i8 i16 i32 i64 u8 u16 u32 u64)
open Go Go.RowKit
theorem ZbC{l:List Zc}{id:Int}{q:Zc}(h:findQ l id=some q):q ∈ l/\q.id=id:=by
 unfold findQ at h
 exact⟨List.mem_of_find?_eq_some h,by have:=List.find?_some h; simpa using this⟩
theorem ZfY{l:List Zc}{id:Int}(h:findQ l id=none):∀ q ∈ l,q.id≠id:=fun q hq e=>by
 unfold findQ at h
 have:=List.find?_eq_none.1 h q hq
 simp at this; exact this e
theorem Zj3(s:Za)(id:Int):hasB s id=true↔(∃ q ∈ s.eqs,q.id=id)\/∃ q ∈ s.neqs,q.id=id:=by
 unfold hasB
 rw[Zjf,Zjf,Bool.or_eq_true,Option.isSome_iff_exists,Option.isSome_iff_exists]
 constructor
 .rintro (⟨q,h⟩|⟨q,h⟩)
  .exact .inl ⟨q,ZbC h⟩
  exact .inr ⟨q,ZbC h⟩
 rintro (⟨q,h1,h2⟩|⟨q,h1,h2⟩)
 .cases h:findQ s.eqs id with
  | some q=>exact .inl ⟨q,rfl⟩
  | none=>exact absurd h2 (ZfY h q h1)
 cases h:findQ s.neqs id with
 | some q=>exact .inr ⟨q,rfl⟩
 | none=>exact absurd h2 (ZfY h q h1)
theorem Zpn{s:Za}(h:Good s){id:Int}(hid:s.next<=id):hasB s id=false:=by
 cases hb:hasB s id with
 | false=>rfl
 | true=>
  rcases (Zj3 s id).1 hb with ⟨q,h1,h2⟩|⟨q,h1,h2⟩
  .have:=h.eqs.ids q h1; omega
  have:=h.neqs.ids q h1; omega
def numE(s:Za)(e:Zh):Int:=if e.id=0 then s.next else e.id
def addE(s:Za)(e:Zh):Za:=
 ⟨s.vars,if e.neq=true then s.eqs else putL s.eqs ⟨numE s e,e.p⟩,if e.neq=true then putL s.neqs ⟨numE s e,e.p⟩ else s.neqs,if s.next<numE s e+1 then numE s e+1 else s.next⟩
theorem check5{s:Za}{e:Zh}(hk:e.kind=5)(hc:checkF s e=0):0<=e.id/\e.id<=999999/\(0<e.id->hasB s e.id=false)/\(e.neq=false->s.eqs.length<12)/\(e.neq=true->s.neqs.length<12)/\(e.id=0->s.next<1000000)/\fitB e.p (s.vars.length:Int)=true:=by
 unfold checkF at hc
 rw[if_neg (by omega),if_neg (by omega),if_neg (by omega),if_neg (by omega),if_pos hk] at hc
 unfold addC at hc
 by_cases c1:e.id<0\/999999<e.id\/(0<e.id/\hasB s e.id=true)
 .rw[if_pos c1] at hc; exact absurd hc (by decide)
 rw[if_neg c1] at hc
 by_cases c2:(e.neq=false/\12<=s.eqs.length)\/(e.neq=true/\12<=s.neqs.length)\/(e.id=0/\1000000<=s.next)
 .rw[if_pos c2] at hc; exact absurd hc (by decide)
 rw[if_neg c2] at hc
 by_cases c3:fitB e.p (s.vars.length:Int)=true
 .refine⟨Int.not_lt.1 fun h=>c1 (.inl h),Int.not_lt.1 fun h=>c1 (.inr (.inl h)),fun h=>?_,fun h=>Nat.not_le.1 fun h2=>c2 (.inl ⟨h,h2⟩),fun h=>Nat.not_le.1 fun h2=>c2 (.inr (.inl ⟨h,h2⟩)),fun h=>Int.not_le.1 fun h2=>c2 (.inr (.inr ⟨h,h2⟩)),c3⟩
  cases hb:hasB s e.id with
  | false=>rfl
  | true=>exact absurd (.inr (.inr ⟨h,hb⟩)) c1
 rw[if_neg c3] at hc; exact absurd hc (by decide)
theorem Zqx{s:Za}(h:Good s){e:Zh}(h0:0<=e.id)(h1:0<e.id->hasB s e.id=false):hasB s (numE s e)=false:=by
 unfold numE
 by_cases hz:e.id=0
 .rw[if_pos hz]; exact Zpn h (Int.le_refl _)
 rw[if_neg hz]; exact h1 (by omega)
end Go.EL

namespace Go.EL
open Go.IntKind (i8 i16 i32 i64 u8 u16 u32 u64)
open Go Go.RowKit
def dropE(s:Za)(id:Int):Za:=⟨s.vars,dropL s.eqs id,dropL s.neqs id,s.next⟩
def setL(id:Int)(p:List Zb)(l:List Zc):List Zc:=l.map fun q=>if q.id=id then ⟨q.id,p⟩ else q
def setE(s:Za)(e:Zh):Za:=⟨s.vars,setL e.id e.p s.eqs,setL e.id e.p s.neqs,s.next⟩
def flipE(s:Za)(id:Int):Za:=insS (dropE s id) (findE s id).1 (!(findE s id).2.1)
theorem check678{s:Za}{e:Zh}(hk:e.kind=6\/e.kind=7\/e.kind=8):checkF s e=idC s e:=by
 unfold checkF
 rw[if_neg (by omega),if_neg (by omega),if_neg (by omega),if_neg (by omega),if_neg (by omega),if_pos hk]
end Go.EL

namespace Go.EL
open Go.IntKind (i8 i16 i32 i64 u8 u16 u32 u64)
open Go Go.RowKit
theorem Zn7{l:List Zc}(h:l.Pairwise fun a b=>a.id<b.id)(id:Int):(dropL l id).Pairwise fun a b=>a.id<b.id:=h.filter _
theorem Zn8(l:List Zc)(id:Int):(dropL l id).length<=l.length:=List.length_filter_le _ _
end Go.EL

namespace Go.EL
open Go.IntKind (i8 i16 i32 i64 u8 u16 u32 u64)
open Go Go.RowKit
theorem Zns{s:Za}(h:Good s){e:Zh}(hp:PolOk e.p)(hk:e.kind=5):(Z1 s e).Ret (if checkF s e=0 then (addE s e,0) else (zeroS,checkF s e)):=by
 have hv:=h.vars
 have he:=h.eqs.len
 have hn:=h.neqs.len
 refine⟨_,Zay h hp,?_⟩
 by_cases hc:checkF s e=0
 .obtain⟨k1,k2,k3,k4,k5,k6,k7⟩:=check5 hk hc
  have hb:numE s e<1000000/\0<=numE s e:=by
   have:=h.next
   unfold numE
   split
   .rename_i hz; have:=k6 hz; omega
   omega
  rw[if_pos hc,Cq.Zd,if_neg (fun hh=>hh hc)]
  refine⟨by simp[small]; omega,?_⟩
  rw[Cq.Zd,if_neg (by omega),Cq.Zd,if_neg (by omega),Cq.Zd,if_neg (by omega),Cq.Zd,if_neg (by omega)]
  refine⟨addE s e,?_,rfl⟩
  refine⟨_,Zaq (by omega) _,_,Zaq (by omega) _,?_⟩
  rw[Cq.Zd,if_pos hk]
  have hk1:(Zap s e (Zc.mk (numE s e) e.p)).wp fun a=>a=addE s e:=by
   unfold Zap
   rw[Cq.Zd]
   cases hq:e.neq with
   | true=>
    rw[if_pos rfl]
    refine⟨_,Zd1 (by omega) h.neqs.inc _,?_⟩
    show _=_
    unfold addE
    rw[hq,wrap64 (x:=numE s e+1) (by omega)]
    rfl
   | false=>
    rw[if_neg (by decide)]
    refine⟨_,Zd1 (by omega) h.eqs.inc _,?_⟩
    show _=_
    unfold addE
    rw[hq,wrap64 (x:=numE s e+1) (by omega)]
    rfl
  rw[Cq.Zd]
  unfold numE at hk1
  by_cases hz:e.id=0
  .rw[if_pos hz]; rw[if_pos hz] at hk1; exact hk1
  rw[if_neg hz]; rw[if_neg hz] at hk1; exact hk1
 rw[if_neg hc,Cq.Zd,if_pos hc]
 rfl
theorem Znt{s:Za}(h:Good s){e:Zh}(hp:PolOk e.p)(hk:e.kind=6):(Z1 s e).Ret (if checkF s e=0 then (dropE s e.id,0) else (zeroS,checkF s e)):=by
 have hv:=h.vars
 have he:=h.eqs.len
 have hn:=h.neqs.len
 refine⟨_,Zay h hp,?_⟩
 by_cases hc:checkF s e=0
 .rw[if_pos hc,Cq.Zd,if_neg (fun hh=>hh hc)]
  refine⟨by simp[small]; omega,?_⟩
  rw[Cq.Zd,if_neg (by omega),Cq.Zd,if_neg (by omega),Cq.Zd,if_neg (by omega),Cq.Zd,if_neg (by omega)]
  refine⟨dropE s e.id,?_,rfl⟩
  refine⟨_,Zaq (by omega) _,_,Zaq (by omega) _,?_⟩
  rw[Cq.Zd,if_neg (by omega),Cq.Zd,if_pos hk]
  exact⟨_,ZfV (by omega) _,_,ZfV (by omega) _,rfl⟩
 rw[if_neg hc,Cq.Zd,if_pos hc]
 rfl
theorem Zht{id:Int}{p:List Zb}{l:List Zc}(h:∀ q ∈ l,q.id≠id):setL id p l=l:=by
 unfold setL
 refine (List.map_congr_left (g:=fun q=>q) fun q hq=>?_).trans (List.map_id' l)
 rw[if_neg (h q hq)]
theorem ZiN{x:Zc}:∀ {l:List Zc},(l.Pairwise fun a b=>a.id<b.id)->(∃ q ∈ l,q.id=x.id)->putL l x=setL x.id x.p l
 | [],_,⟨q,hq,_⟩=>by cases hq
 | y::l,hi,⟨q,hq,e⟩=>by
  obtain⟨h1,h2⟩:=List.pairwise_cons.1 hi
  by_cases hy:y.id=x.id
  .have hn:∀ z ∈ l,z.id≠x.id:=fun z hz=>by have:=h1 z hz; omega
   have hs:setL x.id x.p (y::l)=x::setL x.id x.p l:=by
    show (if y.id=x.id then (⟨y.id,x.p⟩:Zc) else y)::_=_
    rw[if_pos hy,hy]; rfl
   rw[hs,Zht hn]
   unfold putL
   rw[filter_none (l:=y::l) (p:=fun q=>decide (q.id<x.id)) (fun z hz=>decide_eq_false (by
    rcases List.mem_cons.1 hz with rfl|hz
    .omega
    have:=h1 z hz; omega)),List.nil_append,List.filter_cons_of_neg (by simp; omega),filter_all (l:=l) (fun z hz=>decide_eq_true (by have:=h1 z hz; omega))]
  have hq2:q ∈ l:=by
   rcases List.mem_cons.1 hq with rfl|hq
   .exact absurd e hy
   exact hq
  have hlt:y.id<x.id:=by have:=h1 q hq2; omega
  have ih:=ZiN h2 ⟨q,hq2,e⟩
  have hs:setL x.id x.p (y::l)=y::setL x.id x.p l:=by
   show (if y.id=x.id then (⟨y.id,x.p⟩:Zc) else y)::_=_
   rw[if_neg hy]; rfl
  rw[hs,<- ih]
  unfold putL
  rw[List.filter_cons_of_pos (by simpa using hlt),List.filter_cons_of_neg (by simp; omega)]
  rfl
theorem Zjb{l:List Zc}{id:Int}(h:∀ q ∈ l,q.id≠id):dropL l id=l:=filter_all fun q hq=>decide_eq_true (h q hq)
theorem Zj2{s:Za}(h:Good s){id:Int}(h1:0<=findI s.eqs id):∃ j q,findQ s.eqs id=some q/\findI s.eqs id=((j:Nat):Int)/\s.eqs[j]? = some q/\q ∈ s.eqs/\q.id=id/\findQ s.neqs id=none/\∀ z ∈ s.neqs,z.id≠id:=by
 rcases ZcN s.eqs id with ⟨_,h2⟩|⟨j,q,h2,h3,h4⟩
 .omega
 obtain⟨h5,h6⟩:=ZbC h2
 have hno:∀ z ∈ s.neqs,z.id≠id:=fun z hz e=>h.apart q h5 z hz (by omega)
 refine⟨j,q,h2,h3,h4,h5,h6,?_,hno⟩
 cases hb:findQ s.neqs id with
 | none=>rfl
 | some z=>exact absurd (ZbC hb).2 (hno z (ZbC hb).1)
theorem Ziw{s:Za}{id:Int}(h0:hasB s id=true)(h1:¬ 0<=findI s.eqs id):findQ s.eqs id=none/\findI s.eqs id = -1/\(∀ z ∈ s.eqs,z.id≠id)/\∃ j q,findQ s.neqs id=some q/\findI s.neqs id=((j:Nat):Int)/\s.neqs[j]? = some q/\q ∈ s.neqs/\q.id=id:=by
 rcases ZcN s.eqs id with ⟨h2,h3⟩|⟨j,q,h2,h3,h4⟩
 .refine⟨h2,h3,ZfY h2,?_⟩
  rcases ZcN s.neqs id with ⟨h4,h5⟩|⟨j,q,h4,h5,h6⟩
  .unfold hasB at h0
   rw[h3,h5] at h0
   exact absurd h0 (by decide)
  exact⟨j,q,h4,h5,h6,(ZbC h4).1,(ZbC h4).2⟩
 omega
theorem check78{s:Za}{e:Zh}(hk:e.kind=6\/e.kind=7\/e.kind=8)(hc:checkF s e=0):hasB s e.id=true:=by
 rw[check678 hk] at hc
 unfold idC at hc
 cases hb:hasB s e.id with
 | true=>rfl
 | false=>rw[hb,if_pos rfl] at hc; exact absurd hc (by decide)
theorem Znu{s:Za}(h:Good s){e:Zh}(hp:PolOk e.p)(hk:e.kind=7):(Z1 s e).Ret (if checkF s e=0 then (setE s e,0) else (zeroS,checkF s e)):=by
 have hv:=h.vars
 have he:=h.eqs.len
 have hn:=h.neqs.len
 refine⟨_,Zay h hp,?_⟩
 by_cases hc:checkF s e=0
 .rw[if_pos hc,Cq.Zd,if_neg (fun hh=>hh hc)]
  refine⟨by simp[small]; omega,?_⟩
  rw[Cq.Zd,if_neg (by omega),Cq.Zd,if_neg (by omega),Cq.Zd,if_neg (by omega),Cq.Zd,if_neg (by omega)]
  refine⟨setE s e,?_,rfl⟩
  refine⟨_,Zaq (by omega) _,_,Zaq (by omega) _,?_⟩
  rw[Cq.Zd,if_neg (by omega),Cq.Zd,if_neg (by omega),Cq.Zd,if_pos hk,Cq.Zd]
  have hb:=check78 (.inr (.inl hk)) hc
  by_cases hf:0<=findI s.eqs e.id
  .obtain⟨j,q,_,_,_,h5,h6,_,h8⟩:=Zj2 h hf
   rw[if_pos hf]
   refine⟨_,Zd1 (by omega) h.eqs.inc _,?_⟩
   show _=_
   unfold setE
   rw[ZiN h.eqs.inc ⟨q,h5,h6⟩,Zht h8]
  obtain⟨_,_,h3,j,q,_,_,_,h5,h6⟩:=Ziw hb hf
  rw[if_neg hf]
  refine⟨_,Zd1 (by omega) h.neqs.inc _,?_⟩
  show _=_
  unfold setE
  rw[ZiN h.neqs.inc ⟨q,h5,h6⟩,Zht h3]
 rw[if_neg hc,Cq.Zd,if_pos hc]
 rfl
theorem Znv{s:Za}(h:Good s){e:Zh}(hp:PolOk e.p)(hk:e.kind=8):(Z1 s e).Ret (if checkF s e=0 then (flipE s e.id,0) else (zeroS,checkF s e)):=by
 have hv:=h.vars
 have he:=h.eqs.len
 have hn:=h.neqs.len
 refine⟨_,Zay h hp,?_⟩
 by_cases hc:checkF s e=0
 .rw[if_pos hc,Cq.Zd,if_neg (fun hh=>hh hc)]
  refine⟨by simp[small]; omega,?_⟩
  rw[Cq.Zd,if_neg (by omega),Cq.Zd,if_neg (by omega),Cq.Zd,if_neg (by omega),Cq.Zd,if_neg (by omega)]
  refine⟨flipE s e.id,?_,rfl⟩
  refine⟨_,Zaq (by omega) _,_,Zaq (by omega) _,?_⟩
  rw[Cq.Zd,if_neg (by omega),Cq.Zd,if_neg (by omega),Cq.Zd,if_neg (by omega),Cq.Zd,if_pos hk]
  refine⟨_,ZfV (by omega) _,_,ZfV (by omega) _,?_⟩
  rw[Cq.Zd]
  have hb:=check78 (.inr (.inr hk)) hc
  by_cases hf:0<=findI s.eqs e.id
  .obtain⟨j,q,h1,h2,h3,h5,h6,h7,h8⟩:=Zj2 h hf
   rw[if_pos hf,h2]
   refine⟨q,⟨by omega,h3⟩,_,Zd1 (by omega) h.neqs.inc _,?_⟩
   show _=_
   unfold flipE findE
   rw[h1]
   unfold insS dropE
   rw[if_pos (by rfl)]
   simp only
   rw[Zjb h8]
  obtain⟨h1,h2,h3,j,q,h4,h7,h8,h5,h6⟩:=Ziw hb hf
  rw[if_neg hf,h7]
  refine⟨q,⟨by omega,h8⟩,_,Zd1 (by omega) h.eqs.inc _,?_⟩
  show _=_
  unfold flipE findE
  rw[h1,h4]
  unfold insS dropE
  rw[if_neg (show ¬ (!true)=true by decide)]
  simp only
  rw[Zjc h2]
 rw[if_neg hc,Cq.Zd,if_pos hc]
 rfl
end Go.EL

namespace Go.EL
open Go.IntKind (i8 i16 i32 i64 u8 u16 u32 u64)
open Go Go.RowKit
def doF(s:Za)(e:Zh):Za:=
 if e.kind=1 then addV s e else if e.kind=2 then dropV s e else if e.kind=3 then renV s e else if e.kind=4 then swpV s e
 else if e.kind=5 then addE s e else if e.kind=6 then dropE s e.id else if e.kind=7 then setE s e else flipE s e.id
def applyF(s:Za)(e:Zh):Za×Int:=if checkF s e=0 then (doF s e,0) else (zeroS,checkF s e)
theorem doF1{s:Za}{e:Zh}(h:e.kind=1):doF s e=addV s e:=if_pos h
theorem doF2{s:Za}{e:Zh}(h:e.kind=2):doF s e=dropV s e:=by unfold doF; rw[if_neg (by omega),if_pos h]
theorem doF3{s:Za}{e:Zh}(h:e.kind=3):doF s e=renV s e:=by unfold doF; rw[if_neg (by omega),if_neg (by omega),if_pos h]
theorem doF4{s:Za}{e:Zh}(h:e.kind=4):doF s e=swpV s e:=by unfold doF; rw[if_neg (by omega),if_neg (by omega),if_neg (by omega),if_pos h]
theorem doF5{s:Za}{e:Zh}(h:e.kind=5):doF s e=addE s e:=by unfold doF; rw[if_neg (by omega),if_neg (by omega),if_neg (by omega),if_neg (by omega),if_pos h]
theorem doF6{s:Za}{e:Zh}(h:e.kind=6):doF s e=dropE s e.id:=by unfold doF; rw[if_neg (by omega),if_neg (by omega),if_neg (by omega),if_neg (by omega),if_neg (by omega),if_pos h]
theorem doF7{s:Za}{e:Zh}(h:e.kind=7):doF s e=setE s e:=by unfold doF; rw[if_neg (by omega),if_neg (by omega),if_neg (by omega),if_neg (by omega),if_neg (by omega),if_neg (by omega),if_pos h]
theorem doF8{s:Za}{e:Zh}(h:e.kind=8):doF s e=flipE s e.id:=by unfold doF; rw[if_neg (by omega),if_neg (by omega),if_neg (by omega),if_neg (by omega),if_neg (by omega),if_neg (by omega),if_neg (by omega)]
theorem Zf0{s:Za}{e:Zh}:(e.kind=1\/e.kind=2\/e.kind=3\/e.kind=4\/e.kind=5\/e.kind=6\/e.kind=7\/e.kind=8)\/(¬ (1<=e.kind/\e.kind<=8)/\checkF s e=1):=by
 by_cases h:1<=e.kind/\e.kind<=8
 .exact .inl (by omega)
 refine .inr ⟨h,?_⟩
 unfold checkF
 rw[if_neg (by omega),if_neg (by omega),if_neg (by omega),if_neg (by omega),if_neg (by omega),if_neg (by omega)]
theorem Za7{s:Za}(h:Good s){e:Zh}(hp:PolOk e.p):(Z1 s e).Ret (applyF s e):=by
 unfold applyF
 rcases Zf0 (s:=s) (e:=e) with (k|k|k|k|k|k|k|k)|⟨k,hc⟩
 .rw[doF1 k]; exact Zno h hp k
 .rw[doF2 k]; exact Znp h hp k
 .rw[doF3 k]; exact Znq h hp k
 .rw[doF4 k]; exact Znr h hp k
 .rw[doF5 k]; exact Zns h hp k
 .rw[doF6 k]; exact Znt h hp k
 .rw[doF7 k]; exact Znu h hp k
 .rw[doF8 k]; exact Znv h hp k
 rw[if_neg (show ¬ checkF s e=0 by omega)]
 refine⟨_,Zay h hp,?_⟩
 rw[Cq.Zd,if_pos (by omega)]
 rfl
def KindOk(e:Zh):Prop:=-1000<=e.kind/\e.kind<=1000
end Go.EL

namespace Go.EL
open Go.IntKind (i8 i16 i32 i64 u8 u16 u32 u64)
open Go Go.RowKit
theorem Zix(v:ByteArray):∀ (l:List ByteArray) (k:Nat),(v ∉ l/\idxFrom v l k = -1)\/∃ j,idxFrom v l k=((k+j:Nat):Int)/\l[j]? = some v
 | [],_=>.inl ⟨by simp,rfl⟩
 | x::xs,k=>by
  unfold idxFrom
  by_cases h:x=v
  .rw[if_pos h]
   exact .inr ⟨0,by simp,by simp[h]⟩
  rw[if_neg h]
  rcases Zix v xs (k+1) with ⟨h1,h2⟩|⟨j,h1,h2⟩
  .exact .inl ⟨fun hm=>by
    rcases List.mem_cons.1 hm with e|hm
    .exact h e.symm
    exact h1 hm,h2⟩
  exact .inr ⟨j+1,by rw[h1]; omega,by simpa using h2⟩
theorem Zjj{l:List ByteArray}{v:ByteArray}(h:idxI l v<0):v ∉ l:=by
 rcases Zix v l 0 with ⟨h1,_⟩|⟨j,h1,_⟩
 .exact h1
 unfold idxI at h; omega
theorem Zji{l:List ByteArray}{v:ByteArray}{k:Nat}(h:idxI l v=(k:Int)):l[k]? = some v:=by
 rcases Zix v l 0 with ⟨_,h1⟩|⟨j,h1,h2⟩
 .unfold idxI at h; omega
 unfold idxI at h
 rw[h] at h1
 rw[show k=j by omega]; exact h2
theorem Zir{π:M}(h:IsPerm π){p:List Zb}(hp:PolOk p){n n':Nat}(hn:n<=8)(hn':n'<=8)(hf:fitB p (n:Int)=true)(hv:∀ i:Fin 8,n'<=i.val->∃ j:Fin 8,(i.val:Int)=π j/\(n<=j.val\/Occurs j p=false)):fitB (permP π p) (n':Int)=true:=by
 obtain⟨h1,h2⟩:=(Zde hn).1 hf
 refine (Zde hn').2 ⟨fun t ht i hi=>?_,fun t ht=>?_⟩
 .obtain⟨y,hy,rfl⟩:=List.mem_map.1 ((ZdW h hp.ord).1.mem_iff.1 ht)
  obtain⟨j,hj,hj2⟩:=hv i hi
  show ¬ 0<permM π y.m i
  rw[ZiK h y.m j i hj]
  rcases hj2 with hj2|hj2
  .exact h1 y hy j hj2
  intro hpos
  unfold Occurs at hj2
  have:=List.any_eq_false.1 hj2 y hy
  simp only[decide_eq_true_eq] at this
  exact this hpos
 obtain⟨y,hy,rfl⟩:=List.mem_map.1 ((ZdW h hp.ord).1.mem_iff.1 ht)
 show degM (permM π y.m)<=12
 rw[Zkq h]
 exact h2 y hy
theorem Zhf(π:M)(l:List Zc){q:Zc}(h:q ∈ movedL π l):∃ y ∈ l,y.id=q.id:=by
 obtain⟨y,hy,rfl⟩:=List.mem_map.1 h
 exact⟨y,hy,rfl⟩
theorem Zdo{π:M}(h:IsPerm π){n n':Nat}{next:Int}{l:List Zc}(hl:EqsOk n next l)(hf:∀ q ∈ l,fitB (permP π q.p) (n':Int)=true):EqsOk n' next (movedL π l) where
 len:=by unfold movedL; rw[List.length_map]; exact hl.len
 ids q hq:=by
  obtain⟨y,hy,e⟩:=Zhf π l hq
  have:=hl.ids y hy; omega
 inc:=by
  unfold movedL
  exact List.pairwise_map.2 hl.inc
 pol q hq:=by
  obtain⟨y,hy,rfl⟩:=List.mem_map.1 hq
  exact⟨ZpA h (hl.pol y hy).1,hf y hy⟩
theorem Zfj{π:M}{a b:List Zc}(h:∀ x ∈ a,∀ y ∈ b,x.id≠y.id):∀ x ∈ movedL π a,∀ y ∈ movedL π b,x.id≠y.id:=fun x hx y hy=>by
 obtain⟨x',hx',e1⟩:=Zhf π a hx
 obtain⟨y',hy',e2⟩:=Zhf π b hy
 have:=h x' hx' y' hy'; omega
theorem Good.add1{s:Za}(h:Good s){e:Zh}(hk:e.kind=1)(hc:checkF s e=0):Good (addV s e):=by
 obtain⟨h1,h2,h3,h4,h5⟩:=check1 hk hc
 obtain⟨a,ha⟩:=Int.eq_ofNat_of_zero_le h2
 have ha2:a<=s.vars.length:=by omega
 have hπ:=Zdq (a:=s.vars.length) (b:=a) (by omega) (by omega)
 have hno:=Zjj h5
 have hlen:(s.vars.take a++[e.name]++s.vars.drop a).length=s.vars.length+1:=by simp; omega
 have hperm:(s.vars.take a++[e.name]++s.vars.drop a).Perm (e.name::s.vars):=by
  have h0:(s.vars.take a++([e.name]++s.vars.drop a)).Perm ([e.name]++(s.vars.take a++s.vars.drop a)):=List.perm_append_comm_assoc _ _ _
  rw[List.take_append_drop] at h0
  rw[List.append_assoc]; exact h0
 have hfit:∀ l,EqsOk s.vars.length s.next l->∀ q ∈ l,fitB (permP (rotF s.vars.length a) q.p) ((s.vars.length+1:Nat):Int)=true:=fun l hl q hq=>
  Zir hπ (hl.pol q hq).1 (n:=s.vars.length) (by omega) (by omega) (hl.pol q hq).2 fun i hi=>⟨i,by unfold rotF; rw[if_neg (by omega),if_neg (by omega),if_neg (by omega)],.inl (by omega)⟩
 unfold addV
 rw[ha,Int.toNat_natCast]
 constructor
 .show (s.vars.take a++[e.name]++s.vars.drop a).length<=4
  omega
 .intro v hv
  rcases List.mem_cons.1 (hperm.mem_iff.1 hv) with rfl|hv
  .exact h4
  exact h.name v hv
 .exact (hperm.pairwise_iff (fun hab e=>hab e.symm)).2 (List.pairwise_cons.2 ⟨fun b hb e=>hno (by rw[e]; exact hb),h.diff⟩)
 .exact h.next
 .show EqsOk (s.vars.take a++[e.name]++s.vars.drop a).length _ _
  rw[hlen]; exact Zdo hπ h.eqs (hfit _ h.eqs)
 .show EqsOk (s.vars.take a++[e.name]++s.vars.drop a).length _ _
  rw[hlen]; exact Zdo hπ h.neqs (hfit _ h.neqs)
 exact Zfj h.apart
theorem ZoQ{i:Fin 8}{l:List Zc}(h:usedL i l=false):∀ q ∈ l,Occurs i q.p=false:=fun q hq=>by
 unfold usedL at h
 have:=List.any_eq_false.1 h q hq
 simpa using this
theorem Good.drop2{s:Za}(h:Good s){e:Zh}(hk:e.kind=2)(hc:checkF s e=0):Good (dropV s e):=by
 obtain⟨h1,h2⟩:=check2 hk hc
 have hv:=h.vars
 obtain⟨j,hj,hu⟩:=ZkX h.vars h1
 have h1':=of_decide_eq_true h1
 rw[hu] at h2
 have hj2:j.val<s.vars.length:=by omega
 have hπ:=Zdq (a:=j.val) (b:=s.vars.length-1) (by omega) (by omega)
 have hlen:(s.vars.take j.val++s.vars.drop (j.val+1)).length=s.vars.length-1:=by simp; omega
 have hsub:(s.vars.take j.val++s.vars.drop (j.val+1)).Sublist s.vars:=by
  rw[<- List.eraseIdx_eq_take_drop_succ]; exact List.eraseIdx_sublist ..
 have hno:usedL j s.eqs=false/\usedL j s.neqs=false:=by
  unfold usedS at h2
  exact Bool.or_eq_false_iff.1 h2
 have hfit:∀ l,EqsOk s.vars.length s.next l->usedL j l=false->∀ q ∈ l,fitB (permP (rotF j.val (s.vars.length-1)) q.p) ((s.vars.length-1:Nat):Int)=true:=fun l hl hul q hq=>
  Zir hπ (hl.pol q hq).1 (n:=s.vars.length) (by omega) (by omega) (hl.pol q hq).2 fun i hi=>by
   by_cases hi2:i.val=s.vars.length-1
   .refine⟨j,?_,.inr (ZoQ hul q hq)⟩
    unfold rotF
    rw[if_pos rfl]; omega
   refine⟨i,?_,.inl (by omega)⟩
   unfold rotF
   rw[if_neg (by omega),if_neg (by omega),if_neg (by omega)]
 unfold dropV
 rw[hj,Int.toNat_natCast]
 constructor
 .show (s.vars.take j.val++s.vars.drop (j.val+1)).length<=4
  omega
 .exact fun v hv=>h.name v (hsub.subset hv)
 .exact h.diff.sublist hsub
 .exact h.next
 .show EqsOk (s.vars.take j.val++s.vars.drop (j.val+1)).length _ _
  rw[hlen]; exact Zdo hπ h.eqs (hfit _ h.eqs hno.1)
 .show EqsOk (s.vars.take j.val++s.vars.drop (j.val+1)).length _ _
  rw[hlen]; exact Zdo hπ h.neqs (hfit _ h.neqs hno.2)
 exact Zfj h.apart
theorem Good.ren3{s:Za}(h:Good s){e:Zh}(hk:e.kind=3)(hc:checkF s e=0):Good (renV s e):=by
 obtain⟨h1,h2,h3⟩:=check3 hk hc
 have h1':=of_decide_eq_true h1
 obtain⟨a,ha⟩:=Int.eq_ofNat_of_zero_le h1'.1
 have ha2:a<s.vars.length:=by omega
 unfold renV
 rw[ha,Int.toNat_natCast]
 have hlen:(s.vars.set a e.name).length=s.vars.length:=List.length_set
 constructor
 .show (s.vars.set a e.name).length<=4
  rw[hlen]; exact h.vars
 .intro v hv
  rcases List.mem_or_eq_of_mem_set hv with hv|rfl
  .exact h.name v hv
  exact h2
 .show (s.vars.set a e.name).Pairwise fun a b=>a≠b
  rcases h3 with h3|h3
  .have hno:=Zjj h3
   refine List.pairwise_iff_getElem.2 fun i j hi hj hij=>?_
   rw[List.getElem_set,List.getElem_set]
   rw[hlen] at hi hj
   by_cases e1:a=i
   .rw[if_pos e1,if_neg (by omega)]
    exact fun e=>hno (by rw[e]; exact List.getElem_mem hj)
   rw[if_neg e1]
   by_cases e2:a=j
   .rw[if_pos e2]
    exact fun e=>hno (by rw[<- e]; exact List.getElem_mem hi)
   rw[if_neg e2]
   exact List.pairwise_iff_getElem.1 h.diff i j hi hj hij
  have hx:=Zji (k:=a) (by rw[h3,ha])
  rw[List.getElem?_eq_getElem ha2] at hx
  rw[<- Option.some.inj hx,List.set_getElem_self]
  exact h.diff
 .exact h.next
 .show EqsOk (s.vars.set a e.name).length _ _
  rw[hlen]; exact h.eqs
 .show EqsOk (s.vars.set a e.name).length _ _
  rw[hlen]; exact h.neqs
 exact h.apart
def swapL(l:List ByteArray)(a b:Nat):List ByteArray:=(l.set a (l.getD b ByteArray.empty)).set b (l.getD a ByteArray.empty)
theorem ZdG(l:List ByteArray)(a b:Nat):(swapL l a b).length=l.length:=by unfold swapL; rw[List.length_set,List.length_set]
theorem Zhv{l:List ByteArray}{a b:Nat}(ha:a<l.length)(hb:b<l.length){i:Nat}(hi:i<(swapL l a b).length):(swapL l a b)[i]=if b=i then l[a] else if a=i then l[b] else l[i]'(by rw[ZdG] at hi; exact hi):=by
 have hi':i<((l.set a (l.getD b ByteArray.empty)).set b (l.getD a ByteArray.empty)).length:=hi
 show ((l.set a (l.getD b ByteArray.empty)).set b (l.getD a ByteArray.empty))[i]'hi'=_
 rw[List.getElem_set,List.getElem_set]
 simp[List.getD_eq_getElem?_getD,List.getElem?_eq_getElem ha,List.getElem?_eq_getElem hb]
theorem ZoL{l:List ByteArray}{a b:Nat}(ha:a<l.length)(hb:b<l.length){v:ByteArray}(hv:v ∈ swapL l a b):v ∈ l:=by
 obtain⟨i,hi,rfl⟩:=List.mem_iff_getElem.1 hv
 rw[Zhv ha hb hi]
 split
 .exact List.getElem_mem _
 split <;> exact List.getElem_mem _
theorem ZbW{l:List ByteArray}(h:l.Pairwise fun a b=>a≠b){i j:Nat}(hi:i<l.length)(hj:j<l.length)(hij:i≠j):l[i]≠l[j]:=by
 rcases Nat.lt_or_gt_of_ne hij with h1|h1
 .exact List.pairwise_iff_getElem.1 h i j hi hj h1
 exact fun e=>List.pairwise_iff_getElem.1 h j i hj hi h1 e.symm
theorem ZnV{l:List ByteArray}{a b:Nat}(ha:a<l.length)(hb:b<l.length)(h:l.Pairwise fun a b=>a≠b):(swapL l a b).Pairwise fun a b=>a≠b:=by
 refine List.pairwise_iff_getElem.2 fun i j hi hj hij=>?_
 rw[Zhv ha hb hi,Zhv ha hb hj]
 rw[ZdG] at hi hj
 by_cases e1:b=i
 .rw[if_pos e1,if_neg (by omega)]
  by_cases e2:a=j
  .rw[if_pos e2]; exact ZbW h ha hb (by omega)
  rw[if_neg e2]; exact ZbW h ha hj (by omega)
 rw[if_neg e1]
 by_cases e2:b=j
 .rw[if_pos e2]
  by_cases e3:a=i
  .rw[if_pos e3]; exact ZbW h hb ha (by omega)
  rw[if_neg e3]; exact ZbW h hi ha (by omega)
 rw[if_neg e2]
 by_cases e3:a=i
 .rw[if_pos e3,if_neg (by omega)]; exact ZbW h hb hj (by omega)
 rw[if_neg e3]
 by_cases e4:a=j
 .rw[if_pos e4]; exact ZbW h hi hb (by omega)
 rw[if_neg e4]; exact ZbW h hi hj (by omega)
theorem ZoK{a b:Nat}{i:Fin 8}(ha:a≠i.val)(hb:b≠i.val):swapF a b i=(i.val:Int):=by
 unfold swapF setF
 rw[if_neg (by omega),if_neg (by omega)]
 rfl
theorem Good.swap4{s:Za}(h:Good s){e:Zh}(hk:e.kind=4)(hc:checkF s e=0):Good (swpV s e):=by
 obtain⟨h1,h2⟩:=check4 hk hc
 have hv:=h.vars
 have h1':=of_decide_eq_true h1
 have h2':=of_decide_eq_true h2
 obtain⟨a,ha⟩:=Int.eq_ofNat_of_zero_le h1'.1
 obtain⟨b,hb⟩:=Int.eq_ofNat_of_zero_le h2'.1
 have ha2:a<s.vars.length:=by omega
 have hb2:b<s.vars.length:=by omega
 have hπ:=swap_perm (a:=a) (b:=b) (by omega) (by omega)
 have hfit:∀ l,EqsOk s.vars.length s.next l->∀ q ∈ l,fitB (permP (swapF a b) q.p) (s.vars.length:Int)=true:=fun l hl q hq=>
  Zir hπ (hl.pol q hq).1 (n:=s.vars.length) (by omega) (by omega) (hl.pol q hq).2 fun i hi=>⟨i,(ZoK (by omega) (by omega)).symm,.inl hi⟩
 unfold swpV
 rw[ha,hb,Int.toNat_natCast,Int.toNat_natCast]
 show Good ⟨swapL s.vars a b,_,_,_⟩
 constructor
 .show (swapL s.vars a b).length<=4
  rw[ZdG]; exact h.vars
 .exact fun v hv=>h.name v (ZoL ha2 hb2 hv)
 .exact ZnV ha2 hb2 h.diff
 .exact h.next
 .show EqsOk (swapL s.vars a b).length _ _
  rw[ZdG]; exact Zdo hπ h.eqs (hfit _ h.eqs)
 .show EqsOk (swapL s.vars a b).length _ _
  rw[ZdG]; exact Zdo hπ h.neqs (hfit _ h.neqs)
 exact Zfj h.apart
theorem ZpF(l:List Zc)(x:Zc):(putL l x).length<=l.length+1:=by
 have h:∀ l:List Zc,(l.filter fun q=>decide (q.id<x.id)).length+(l.filter fun q=>decide (x.id<q.id)).length<=l.length:=fun l=>by
  induction l with
  | nil=>simp
  | cons y l ih=>
   by_cases h1:y.id<x.id
   .rw[List.filter_cons_of_pos (by simpa using h1),List.filter_cons_of_neg (by simp; omega)]
    simp only[List.length_cons]; omega
   rw[List.filter_cons_of_neg (by simp; omega)]
   by_cases h2:x.id<y.id
   .rw[List.filter_cons_of_pos (by simpa using h2)]; simp only[List.length_cons]; omega
   rw[List.filter_cons_of_neg (by simp; omega)]; simp only[List.length_cons]; omega
 have:=h l
 unfold putL
 rw[List.length_append,List.length_cons]
 omega
theorem Zct{l:List Zc}{x q:Zc}(h:q ∈ putL l x):q=x\/(q ∈ l/\q.id≠x.id):=by
 unfold putL at h
 rcases List.mem_append.1 h with h|h
 .obtain⟨h1,h2⟩:=List.mem_filter.1 h
  have:=of_decide_eq_true h2
  exact .inr ⟨h1,by omega⟩
 rcases List.mem_cons.1 h with h|h
 .exact .inl h
 obtain⟨h1,h2⟩:=List.mem_filter.1 h
 have:=of_decide_eq_true h2
 exact .inr ⟨h1,by omega⟩
theorem ZpE{l:List Zc}(h:l.Pairwise fun a b=>a.id<b.id)(x:Zc):(putL l x).Pairwise fun a b=>a.id<b.id:=by
 unfold putL
 refine List.pairwise_append.2 ⟨h.filter _,List.pairwise_cons.2 ⟨fun b hb=>?_,h.filter _⟩,fun a ha b hb=>?_⟩
 .exact of_decide_eq_true (List.mem_filter.1 hb).2
 have h1:a.id<x.id:=of_decide_eq_true (List.mem_filter.1 ha).2
 rcases List.mem_cons.1 hb with rfl|hb
 .exact h1
 have h2:x.id<b.id:=of_decide_eq_true (List.mem_filter.1 hb).2
 omega
theorem Zjy{n:Nat}{next next':Int}{l:List Zc}(h:EqsOk n next l)(hl:l.length<12){x:Zc}(hx:PolOk x.p/\fitB x.p (n:Int)=true)(h1:1<=x.id/\x.id<next')(h2:next<=next'):EqsOk n next' (putL l x) where
 len:=by have:=ZpF l x; omega
 ids q hq:=by
  rcases Zct hq with rfl|⟨hq,_⟩
  .exact h1
  have:=h.ids q hq; omega
 inc:=ZpE h.inc x
 pol q hq:=by
  rcases Zct hq with rfl|⟨hq,_⟩
  .exact hx
  exact h.pol q hq
theorem EqsOk.up{n:Nat}{next next':Int}{l:List Zc}(h:EqsOk n next l)(h2:next<=next'):EqsOk n next' l where
 len:=h.len
 ids q hq:=by have:=h.ids q hq; omega
 inc:=h.inc
 pol:=h.pol
theorem ZhD{n:Nat}{next:Int}{l:List Zc}(h:EqsOk n next l)(id:Int):EqsOk n next (dropL l id) where
 len:=by have:=Zn8 l id; have:=h.len; omega
 ids q hq:=h.ids q (List.mem_filter.1 hq).1
 inc:=Zn7 h.inc id
 pol q hq:=h.pol q (List.mem_filter.1 hq).1
theorem Zd2{id:Int}{p:List Zb}{l:List Zc}{q:Zc}(h:q ∈ setL id p l):∃ y ∈ l,y.id=q.id/\(q.p=y.p\/q.p=p):=by
 obtain⟨y,hy,rfl⟩:=List.mem_map.1 h
 refine⟨y,hy,?_⟩
 split
 .exact⟨rfl,.inr rfl⟩
 exact⟨rfl,.inl rfl⟩
theorem ZoB{n:Nat}{next:Int}{l:List Zc}(h:EqsOk n next l)(id:Int){p:List Zb}(hp:PolOk p/\fitB p (n:Int)=true):EqsOk n next (setL id p l) where
 len:=by unfold setL; rw[List.length_map]; exact h.len
 ids q hq:=by
  obtain⟨y,hy,e,_⟩:=Zd2 hq
  have:=h.ids y hy; omega
 inc:=by
  unfold setL
  refine List.pairwise_map.2 (h.inc.imp fun {a b} hab=>?_)
  have e1:∀ z:Zc,(if z.id=id then (⟨z.id,p⟩:Zc) else z).id=z.id:=fun z=>by split <;> rfl
  rw[e1,e1]; exact hab
 pol q hq:=by
  obtain⟨y,hy,_,e|e⟩:=Zd2 hq
  .rw[e]; exact h.pol y hy
  rw[e]; exact hp
theorem Zq1{s:Za}(h:Good s){e:Zh}(hk:e.kind=5)(hc:checkF s e=0):1<=numE s e/\numE s e<1000000:=by
 obtain⟨k1,k2,k3,k4,k5,k6,k7⟩:=check5 hk hc
 have:=h.next
 unfold numE
 split
 .rename_i hz; have:=k6 hz; omega
 omega
theorem Good.add5{s:Za}(h:Good s){e:Zh}(hp:PolOk e.p)(hk:e.kind=5)(hc:checkF s e=0):Good (addE s e):=by
 obtain⟨k1,k2,k3,k4,k5,k6,k7⟩:=check5 hk hc
 have hnew:=Zqx h k1 k3
 have hb:=Zq1 h hk hc
 have hnx:=h.next
 have hno:(∀ q ∈ s.eqs,q.id≠numE s e)/\∀ q ∈ s.neqs,q.id≠numE s e:=⟨fun q hq e'=>absurd ((Zj3 s _).2 (.inl ⟨q,hq,e'⟩)) (by rw[hnew]; decide),fun q hq e'=>absurd ((Zj3 s _).2 (.inr ⟨q,hq,e'⟩)) (by rw[hnew]; decide)⟩
 have hnext:(if s.next<numE s e+1 then numE s e+1 else s.next)<=1000000/\s.next<=(if s.next<numE s e+1 then numE s e+1 else s.next)/\numE s e<(if s.next<numE s e+1 then numE s e+1 else s.next):=by split <;> omega
 unfold addE
 generalize (if s.next<numE s e+1 then numE s e+1 else s.next)=nx at hnext
 cases hq:e.neq with
 | false=>
  rw[if_neg (by decide),if_neg (by decide)]
  exact⟨h.vars,h.name,h.diff,⟨by show 1<=nx; omega,hnext.1⟩,Zjy h.eqs (k4 hq) ⟨hp,k7⟩ ⟨hb.1,hnext.2.2⟩ hnext.2.1,h.neqs.up hnext.2.1,fun a ha b hb=>by
   rcases Zct ha with rfl|⟨ha,_⟩
   .exact fun e=>hno.2 b hb e.symm
   exact h.apart a ha b hb⟩
 | true=>
  rw[if_pos rfl,if_pos rfl]
  exact⟨h.vars,h.name,h.diff,⟨by show 1<=nx; omega,hnext.1⟩,h.eqs.up hnext.2.1,Zjy h.neqs (k5 hq) ⟨hp,k7⟩ ⟨hb.1,hnext.2.2⟩ hnext.2.1,fun a ha b hb=>by
   rcases Zct hb with rfl|⟨hb,_⟩
   .exact hno.1 a ha
   exact h.apart a ha b hb⟩
theorem Good.drop6{s:Za}(h:Good s)(id:Int):Good (dropE s id):=
 ⟨h.vars,h.name,h.diff,h.next,ZhD h.eqs id,ZhD h.neqs id,fun a ha b hb=>h.apart a (List.mem_filter.1 ha).1 b (List.mem_filter.1 hb).1⟩
theorem check7{s:Za}{e:Zh}(hk:e.kind=7)(hc:checkF s e=0):fitB e.p (s.vars.length:Int)=true:=by
 have hb:=check78 (.inr (.inl hk)) hc
 rw[check678 (.inr (.inl hk))] at hc
 unfold idC at hc
 rw[hb,if_neg (by decide)] at hc
 cases hf:fitB e.p (s.vars.length:Int) with
 | true=>rfl
 | false=>rw[if_pos ⟨hk,hf⟩] at hc; exact absurd hc (by decide)
theorem check8{s:Za}{e:Zh}(hk:e.kind=8)(hc:checkF s e=0):(0<=findI s.eqs e.id->s.neqs.length<12)/\(¬ 0<=findI s.eqs e.id->s.eqs.length<12):=by
 have hb:=check78 (.inr (.inr hk)) hc
 rw[check678 (.inr (.inr hk))] at hc
 unfold idC at hc
 rw[hb,if_neg (by decide),if_neg (fun k=>by omega)] at hc
 by_cases c:e.kind=8/\((0<=findI s.eqs e.id/\12<=s.neqs.length)\/(¬ 0<=findI s.eqs e.id/\12<=s.eqs.length))
 .rw[if_pos c] at hc; exact absurd hc (by decide)
 exact⟨fun h1=>Nat.not_le.1 fun h2=>c ⟨hk,.inl ⟨h1,h2⟩⟩,fun h1=>Nat.not_le.1 fun h2=>c ⟨hk,.inr ⟨h1,h2⟩⟩⟩
theorem Good.set7{s:Za}(h:Good s){e:Zh}(hp:PolOk e.p)(hk:e.kind=7)(hc:checkF s e=0):Good (setE s e):=
 ⟨h.vars,h.name,h.diff,h.next,ZoB h.eqs e.id ⟨hp,check7 hk hc⟩,ZoB h.neqs e.id ⟨hp,check7 hk hc⟩,fun a ha b hb=>by
  obtain⟨a',ha',e1,_⟩:=Zd2 ha
  obtain⟨b',hb',e2,_⟩:=Zd2 hb
  have:=h.apart a' ha' b' hb'
  omega⟩
theorem Zjg{s:Za}(h:Good s){id:Int}(hb:hasB s id=true):
  (0<=findI s.eqs id/\∃ q ∈ s.eqs,q.id=id/\findE s id=(q,false,true)/\(∀ z ∈ s.neqs,z.id≠id)/\flipE s id=⟨s.vars,dropL s.eqs id,putL s.neqs q,s.next⟩)
  \/(¬ 0<=findI s.eqs id/\∃ q ∈ s.neqs,q.id=id/\findE s id=(q,true,true)/\(∀ z ∈ s.eqs,z.id≠id)/\flipE s id=⟨s.vars,putL s.eqs q,dropL s.neqs id,s.next⟩):=by
 by_cases hf:0<=findI s.eqs id
 .obtain⟨j,q,h1,h2,h3,h5,h6,h7,h8⟩:=Zj2 h hf
  have he:findE s id=(q,false,true):=by unfold findE; rw[h1]
  refine .inl ⟨hf,q,h5,h6,he,h8,?_⟩
  unfold flipE
  rw[he]
  unfold insS dropE
  rw[if_pos (by rfl)]
  simp only
  rw[Zjb h8]
 obtain⟨h1,h2,h3,j,q,h4,h7,h8,h5,h6⟩:=Ziw hb hf
 have he:findE s id=(q,true,true):=by unfold findE; rw[h1,h4]
 refine .inr ⟨hf,q,h5,h6,he,h3,?_⟩
 unfold flipE
 rw[he]
 unfold insS dropE
 rw[if_neg (show ¬ (!true)=true by decide)]
 simp only
 rw[Zjc h2]
theorem Good.flip8{s:Za}(h:Good s){e:Zh}(hk:e.kind=8)(hc:checkF s e=0):Good (flipE s e.id):=by
 obtain⟨c1,c2⟩:=check8 hk hc
 rcases Zjg h (check78 (.inr (.inr hk)) hc) with ⟨hf,q,hq,e1,_,hno,e2⟩|⟨hf,q,hq,e1,_,hno,e2⟩
 .rw[e2]
  exact⟨h.vars,h.name,h.diff,h.next,ZhD h.eqs _,Zjy h.neqs (c1 hf) (h.eqs.pol q hq) (h.eqs.ids q hq) (Int.le_refl _),fun a ha b hb=>by
   obtain⟨ha1,ha2⟩:=List.mem_filter.1 ha
   rcases Zct hb with rfl|⟨hb,_⟩
   .rw[e1]; exact of_decide_eq_true ha2
   exact h.apart a ha1 b hb⟩
 rw[e2]
 exact⟨h.vars,h.name,h.diff,h.next,Zjy h.eqs (c2 hf) (h.neqs.pol q hq) (h.neqs.ids q hq) (Int.le_refl _),ZhD h.neqs _,fun a ha b hb=>by
  obtain⟨hb1,hb2⟩:=List.mem_filter.1 hb
  rcases Zct ha with rfl|⟨ha,_⟩
  .rw[e1]; exact fun k=>of_decide_eq_true hb2 k.symm
  exact h.apart a ha b hb1⟩
theorem Good.edit{s:Za}(h:Good s){e:Zh}(hp:PolOk e.p)(hc:checkF s e=0):Good (doF s e):=by
 rcases Zf0 (s:=s) (e:=e) with (k|k|k|k|k|k|k|k)|⟨_,k⟩
 .rw[doF1 k]; exact h.add1 k hc
 .rw[doF2 k]; exact h.drop2 k hc
 .rw[doF3 k]; exact h.ren3 k hc
 .rw[doF4 k]; exact h.swap4 k hc
 .rw[doF5 k]; exact h.add5 hp k hc
 .rw[doF6 k]; exact h.drop6 e.id
 .rw[doF7 k]; exact h.set7 hp k hc
 .rw[doF8 k]; exact h.flip8 k hc
 omega
end Go.EL

namespace Go.EL
open Go.IntKind (i8 i16 i32 i64 u8 u16 u32 u64)
open Go Go.RowKit
theorem kinds0{s:Za}{e:Zh}(hc:checkF s e=0):e.kind=1\/e.kind=2\/e.kind=3\/e.kind=4\/e.kind=5\/e.kind=6\/e.kind=7\/e.kind=8:=by
 rcases Zf0 (s:=s) (e:=e) with k|⟨_,k⟩
 .exact k
 omega
theorem Zlx{t:Zb}(h:TermOk t):(ZcG t t).Ret true:=by
 obtain⟨⟨c,e,h0,h1,h2⟩,_⟩:=h
 have:=Zr ZpJ (x:=c) h1 h2
 unfold ZcG
 rw[if_pos rfl]
 refine⟨true,?_,rfl⟩
 rw[e]
 exact ZA (by simpa [h0] using this)
theorem Zn0{p:List Zb}(h:PolOk p):(ZfQ p p).Ret true:=by
 have hl:=h.len
 unfold ZfQ
 rw[if_neg (fun k=>k rfl)]
 refine Cq.Zm p.length (fun k s=>s=(k:Int)) (fun k s hk hs=>?_) (fun s hs=>?_) rfl
 .subst hs
  rw[Cq.Zd,if_pos (by omega)]
  refine⟨p[k],idxN hk,p[k],idxN hk,true,Zlx (h.at hk),?_⟩
  rw[Cq.Zd,if_neg (by decide)]
  exact wrapN (by omega)
 subst hs
 rw[Cq.Zd,if_neg (by omega)]
 rfl
theorem ZgR{l:List Zc}(hl:l.length<=100)(h:∀ q ∈ l,PolOk q.p):(Zbz l l).Ret true:=by
 unfold Zbz
 rw[if_neg (fun k=>k rfl)]
 refine Cq.Zm l.length (fun k s=>s=(k:Int)) (fun k s hk hs=>?_) (fun s hs=>?_) rfl
 .subst hs
  rw[Cq.Zd,if_pos (by omega)]
  refine⟨l[k],idxN hk,l[k],idxN hk,?_⟩
  rw[Cq.Zd,if_neg (fun k=>k rfl)]
  refine⟨l[k],idxN hk,l[k],idxN hk,true,Zn0 (h _ (List.getElem_mem hk)),?_⟩
  rw[Cq.Zd,if_neg (by decide)]
  exact wrapN (by omega)
 subst hs
 rw[Cq.Zd,if_neg (by omega)]
 rfl
structure SysPol (s:Za):Prop where
 v:s.vars.length<=100
 e:s.eqs.length<=100/\∀ q ∈ s.eqs,PolOk q.p
 n:s.neqs.length<=100/\∀ q ∈ s.neqs,PolOk q.p
theorem Good.sys{s:Za}(h:Good s):SysPol s:=
 ⟨by have:=h.vars; omega,⟨by have:=h.eqs.len; omega,fun q hq=>(h.eqs.pol q hq).1⟩,⟨by have:=h.neqs.len; omega,fun q hq=>(h.neqs.pol q hq).1⟩⟩
theorem Zly{s:Za}(h:SysPol s):(Zee s s).Ret true:=by
 have hv:=h.v
 unfold Zee
 rw[if_neg (fun k=>k rfl),if_neg (fun k=>k rfl)]
 refine⟨true,ZgR h.e.1 h.e.2,true,ZgR h.n.1 h.n.2,?_⟩
 rw[Cq.Zd,if_neg (by decide)]
 refine Cq.Zm s.vars.length (fun k st=>st=(k:Int)) (fun k st hk hs=>?_) (fun st hs=>?_) rfl
 .subst hs
  rw[Cq.Zd,if_pos (by omega)]
  refine⟨s.vars[k],idxN hk,s.vars[k],idxN hk,?_⟩
  rw[Cq.Zd,if_neg (fun k=>k rfl)]
  exact wrapN (by omega)
 subst hs
 rw[Cq.Zd,if_neg (by omega)]
 rfl
theorem ZlY:PolOk []:=⟨List.Pairwise.nil,fun t ht=>absurd ht List.not_mem_nil,by decide⟩
end Go.EL

namespace Go.EL
open Go.IntKind (i8 i16 i32 i64 u8 u16 u32 u64)
open Go Go.RowKit
def allF:Za->List Zh->Nat->Zy
 | s,[],k=>⟨s,(k:Int),0⟩
 | s,e::l,k=>if checkF s e=0 then allF (doF s e) l (k+1) else ⟨zeroS,(k:Int),checkF s e⟩
theorem Zqa{s:Za}{l:List Zh}{k:Nat}(hk:k<l.length):allF s (l.drop k) k=if checkF s l[k]=0 then allF (doF s l[k]) (l.drop (k+1)) (k+1) else ⟨zeroS,(k:Int),checkF s l[k]⟩:=by
 rw[List.drop_eq_getElem_cons hk]; rfl
theorem ZqJ{l:List Zh}(hl:l.length<=1000)(hp:∀ e ∈ l,PolOk e.p){s:Za}(h:Good s):(Zlt s l).Ret (allF s l 0):=by
 show (Cq.next _ _).wp _
 refine Cq.Zm l.length (fun k st=>∃ t,st=((k:Int),t,Zy.mk zeroS 0 0)/\Good t/\allF s l 0=allF t (l.drop k) k) (fun k st hk hs=>?_) (fun st hs=>?_) ⟨s,rfl,h,rfl⟩
 .obtain⟨t,rfl,hg,he⟩:=hs
  have hpk:=hp l[k] (List.getElem_mem hk)
  rw[Zqa hk] at he
  refine Cq.wp.yes (p:=(k:Int)<(l.length:Int)) (by omega) ?_
  refine⟨l[k],idxN hk,_,Za7 hg hpk,?_⟩
  rw[Cq.Zd]
  unfold applyF
  by_cases hc:checkF t l[k]=0
  .rw[if_pos hc] at he
   rw[if_pos hc,if_neg (fun hh=>hh rfl)]
   refine⟨doF t l[k],?_,hg.edit hpk hc,he⟩
   show _=_
   rw[wrapN (by omega)]
  rw[if_neg hc] at he
  rw[if_neg hc,if_pos hc]
  show _=_
  rw[he]; rfl
 obtain⟨t,rfl,hg,he⟩:=hs
 rw[List.drop_length] at he
 refine Cq.wp.no (p:=((l.length:Nat):Int)<(l.length:Int)) (by omega) ?_
 show _=_
 rw[he]; rfl
structure DescOk (x:Zv):Prop where
 kind:0<=x.kind/\x.kind<=255
 a:0<=x.a/\x.a<=255
 b:0<=x.b/\x.b<=255
 n:0<=x.n/\x.n<=255
 p:RawOk x.p
def SmallP(p:List Zb):Prop:=p.length<=3/\∀ t ∈ p,(∃ c:Int,t.c=ratI c/\-9<=c/\c<=9)/\degM t.m<=2
structure EditOk (s:Za) (e:Zh):Prop where
 kind:1<=e.kind/\e.kind<=8
 p:PolOk e.p
 small:SmallP e.p
 id:0<=e.id/\e.id<=s.next
theorem EditOk.k{s:Za}{e:Zh}(h:EditOk s e):KindOk e:=by have:=h.kind; exact⟨by omega,by omega⟩
structure Fit (s:Za):Prop where
 vars:s.vars.length<=4
 next:0<=s.next/\s.next<=1000000
theorem Good.fit{s:Za}(h:Good s):Fit s:=⟨h.vars,by have:=h.next; omega,h.next.2⟩
theorem ZjJ{s:Za}(h:Fit s){x:Zv}(hx:DescOk x)(b:Zh):∃ e,(Zca s x b).Ret e/\e.kind=b.kind/\e.id=b.id/\PolOk e.p/\SmallP e.p:=by
 have hv:=h.vars
 have e1:(if 3<(s.vars.length:Int) then 3 else (s.vars.length:Int))=((min s.vars.length 3:Nat):Int):=by split <;> omega
 refine⟨⟨b.kind,b.name,b.at',b.to',b.id,madeP x.p (min s.vars.length 3) 2 3,b.neq⟩,⟨_,by rw[e1]; exact Zo0 hx.p (by omega) (by decide) (by decide) (by decide),rfl⟩,rfl,rfl,?_⟩
 have hm:=Zpo hx.p (n:=min s.vars.length 3) (by omega) (d:=2) (by decide) 3
 refine⟨hm.pol (by decide) (by decide) (by decide),hm.len,fun t ht=>⟨?_,(hm.mon t ht).2.2⟩⟩
 obtain⟨c,k1,_,k3,k4⟩:=hm.cof t ht
 exact⟨c,k1,by omega,by omega⟩
theorem Zp3{s:Za}(h:Fit s){x:Zv}(hx:DescOk x)(b:Zh)(hb:0<=b.id/\b.id<=s.next):∃ e,(ZaM s x b).Ret e/\e.kind=b.kind/\(0<=e.id/\e.id<=s.next)/\PolOk e.p/\SmallP e.p:=by
 have hn:=h.next
 unfold ZaM
 by_cases c1:b.kind=5
 .rw[if_pos c1]
  by_cases c2:0<Int.tmod x.n 4
  .rw[if_pos c2]
   obtain⟨e,h1,h2,h3,h4⟩:=ZjJ h hx (Zh.mk b.kind b.name b.at' b.to' 0 b.p b.neq)
   have h3':e.id=0:=h3
   exact⟨e,h1,h2,by omega,h4⟩
  rw[if_neg c2]
  obtain⟨e,h1,h2,h3,h4⟩:=ZjJ h hx b
  exact⟨e,h1,h2,by omega,h4⟩
 rw[if_neg c1]
 obtain⟨e,h1,h2,h3,h4⟩:=ZjJ h hx b
 exact⟨e,h1,h2,by omega,h4⟩
theorem ZmS{s:Za}(h:Fit s){x:Zv}(hx:DescOk x):∃ e,(Zef s x).Ret e/\EditOk s e:=by
 have hv:=h.vars
 have hn:=h.next
 obtain⟨k1,k2⟩:=hx.kind
 have ka:=hx.a
 have kn:=hx.n
 have w1:i64.wrap ((s.vars.length:Int)+1)=(s.vars.length:Int)+1:=wrap64 (by omega)
 have w2:i64.wrap (s.next+1)=s.next+1:=wrap64 (by omega)
 have w3:i64.wrap x.n=x.n:=wrap64 (by omega)
 have t6:=Zbf (a:=x.n) (b:=6) (by omega) (by omega)
 have t16:=Zbf (a:=x.kind) (b:=16) (by omega) (by omega)
 have t4:=Zbf (a:=x.a) (b:=4) (by omega) (by omega)
 have tn:=Zbf (a:=x.n) (b:=s.next+1) (by omega) (by omega)
 have hname:∃ v,0<=Int.tmod x.n 6/\([Zp,ZY,Zaf,Z6,ZZ,ZS]:List ByteArray)[(Int.tmod x.n 6).toNat]? = some v:=⟨_,t6.1,List.getElem?_eq_getElem (show (Int.tmod x.n 6).toNat<6 by omega)⟩
 obtain⟨v,hv2⟩:=hname
 have key:∀ b:Zh,1<=b.kind/\b.kind<=8->b.id=Int.tmod (i64.wrap x.n) (i64.wrap (s.next+1))->∃ e,(ZaM s x b).Ret e/\EditOk s e:=fun b hb hid=>by
  rw[w2,w3] at hid
  obtain⟨e,h1,h2,h3,h4⟩:=Zp3 h hx b (by omega)
  exact⟨e,h1,⟨by omega,h4.1,h4.2,h3⟩⟩
 have wrap:∀ {e:Zh}{c:Cq Zh},(c).Ret e->(Cq.chk ((i64.wrap ((s.vars.length:Int)+1))≠0) (Cq.chk ((i64.wrap ((s.vars.length:Int)+1))≠0) (Cq.chk ((i64.wrap (s.next+1))≠0) c))).Ret e:=fun {e c} hc=>⟨by rw[w1]; omega,by rw[w1]; omega,by rw[w2]; omega,hc⟩
 unfold Zef
 by_cases c1:8<=Int.tmod x.kind 16
 .by_cases c2:Int.tmod x.a 8<5
  .obtain⟨e,h1,h2⟩:=key (Zh.mk 5 v (Int.tmod (i64.wrap x.a) (i64.wrap ((s.vars.length:Int)+1))) (Int.tmod (i64.wrap x.b) (i64.wrap ((s.vars.length:Int)+1))) (Int.tmod (i64.wrap x.n) (i64.wrap (s.next+1))) [] (decide ((Int.tmod x.b 4)=3))) (by show 1<=(5:Int)/\(5:Int)<=8; decide) rfl
   refine⟨e,wrap ⟨_,rfl,v,hv2,?_⟩,h2⟩
   rw[Cq.Zd,if_pos c1,Cq.Zd,if_pos c2]; exact h1
  have w4:i64.wrap (5+(i64.wrap (Int.tmod x.a 4)))=5+Int.tmod x.a 4:=by rw[wrap64 (x:=Int.tmod x.a 4) (by omega),wrap64 (by omega)]
  obtain⟨e,h1,h2⟩:=key (Zh.mk (i64.wrap (5+(i64.wrap (Int.tmod x.a 4)))) v (Int.tmod (i64.wrap x.a) (i64.wrap ((s.vars.length:Int)+1))) (Int.tmod (i64.wrap x.b) (i64.wrap ((s.vars.length:Int)+1))) (Int.tmod (i64.wrap x.n) (i64.wrap (s.next+1))) [] (decide ((Int.tmod x.b 4)=3))) (by show 1<=i64.wrap (5+(i64.wrap (Int.tmod x.a 4)))/\i64.wrap (5+(i64.wrap (Int.tmod x.a 4)))<=8; rw[w4]; omega) rfl
  refine⟨e,wrap ⟨_,rfl,v,hv2,?_⟩,h2⟩
  rw[Cq.Zd,if_pos c1,Cq.Zd,if_neg c2]; exact h1
 have w4:i64.wrap (1+(i64.wrap (Int.tmod x.kind 16)))=1+Int.tmod x.kind 16:=by rw[wrap64 (x:=Int.tmod x.kind 16) (by omega),wrap64 (by omega)]
 obtain⟨e,h1,h2⟩:=key (Zh.mk (i64.wrap (1+(i64.wrap (Int.tmod x.kind 16)))) v (Int.tmod (i64.wrap x.a) (i64.wrap ((s.vars.length:Int)+1))) (Int.tmod (i64.wrap x.b) (i64.wrap ((s.vars.length:Int)+1))) (Int.tmod (i64.wrap x.n) (i64.wrap (s.next+1))) [] (decide ((Int.tmod x.b 4)=3))) (by show 1<=i64.wrap (1+(i64.wrap (Int.tmod x.kind 16)))/\i64.wrap (1+(i64.wrap (Int.tmod x.kind 16)))<=8; rw[w4]; omega) rfl
 refine⟨e,wrap ⟨_,rfl,v,hv2,?_⟩,h2⟩
 rw[Cq.Zd,if_neg c1]; exact h1
def oneS:Za:=⟨[],[],[],1⟩
theorem Zpy:Good oneS:=⟨by decide,fun v hv=>absurd hv List.not_mem_nil,List.Pairwise.nil,by decide,⟨by decide,fun q hq=>absurd hq List.not_mem_nil,List.Pairwise.nil,fun q hq=>absurd hq List.not_mem_nil⟩,⟨by decide,fun q hq=>absurd hq List.not_mem_nil,List.Pairwise.nil,fun q hq=>absurd hq List.not_mem_nil⟩,fun a ha=>absurd ha List.not_mem_nil⟩
def RunOk:Za->List Zh->Prop
 | _,[]=>True
 | s,e::l=>EditOk s e/\checkF s e=0/\RunOk (doF s e) l
theorem ZfD{l:List Zv}(hx:∀ x ∈ l,DescOk x){m:Nat}(hm:m<=12):∀ (d k:Nat) (s:Za) (out:List Zh),k+d=min l.length m->out.length<=k->Good s->∃ r,(ZgO l (m:Int) (out,(k:Int),s)).Ret (out++r)/\r.length<=d/\RunOk s r
 | 0,k,s,out,hk,ho,hg=>by
  refine⟨[],Cq.Zad ?_,by simp,trivial⟩
  show (if (k:Int)<(l.length:Int) then _ else _:Cq _).wp _
  rw[Cq.Zd,List.append_nil]
  by_cases c:(k:Int)<(l.length:Int)
  .rw[if_pos c,Cq.Zd,if_neg (by omega)]; rfl
  rw[if_neg c]; rfl
 | d+1,k,s,out,hk,ho,hg=>by
  have hkl:k<l.length:=by omega
  obtain⟨e,h1,h2⟩:=ZmS hg.fit (hx l[k] (List.getElem_mem hkl))
  by_cases hc:checkF s e=0
  .obtain⟨r,h3,h4,h5⟩:=ZfD hx hm d (k+1) (doF s e) (out++[e]) (by omega) (by simp; omega) (hg.edit h2.p hc)
   refine⟨e::r,Cq.Zad ?_,by simp; omega,h2,hc,h5⟩
   show (if (k:Int)<(l.length:Int) then _ else _:Cq _).wp _
   rw[Cq.Zd,if_pos (by omega),Cq.Zd,if_pos (by omega)]
   refine⟨l[k],idxN hkl,e,h1,_,Za7 hg h2.p,?_⟩
   unfold applyF
   rw[Cq.Zd,if_pos hc,if_pos rfl]
   refine⟨by simp[small]; omega,?_⟩
   show (Cq.loop _ _).wp _
   rw[wrapN (by omega)]
   rw[List.append_assoc] at h3
   exact h3
  obtain⟨r,h3,h4,h5⟩:=ZfD hx hm d (k+1) s out (by omega) (by omega) hg
  refine⟨r,Cq.Zad ?_,by omega,h5⟩
  show (if (k:Int)<(l.length:Int) then _ else _:Cq _).wp _
  rw[Cq.Zd,if_pos (by omega),Cq.Zd,if_pos (by omega)]
  refine⟨l[k],idxN hkl,e,h1,_,Za7 hg h2.p,?_⟩
  unfold applyF
  rw[Cq.Zd,if_neg hc,if_neg hc]
  show (Cq.loop _ _).wp _
  rw[wrapN (by omega)]
  exact h3
theorem Zlh{l:List Zv}(hx:∀ x ∈ l,DescOk x){m:Nat}(hm:m<=12){s:Za}(hg:Good s):∃ r,(Zez s l (m:Int)).Ret r/\r.length<=m/\RunOk s r:=by
 obtain⟨r,h1,h2,h3⟩:=ZfD hx hm (min l.length m) 0 s [] (by omega) (by simp) hg
 refine⟨r,?_,by omega,h3⟩
 show (Cq.next _ _).wp _
 exact h1
theorem Znh:∀ {l:List Zh}{s:Za},RunOk s l->∀ e ∈ l,PolOk e.p/\KindOk e
 | [],_,_,_,he=>by cases he
 | x::l,s,⟨h1,_,h3⟩,e,he=>by
  rcases List.mem_cons.1 he with rfl|he
  .exact⟨h1.p,h1.k⟩
  exact Znh h3 e he
end Go.EL

namespace Go.EL
open Go.IntKind (i8 i16 i32 i64 u8 u16 u32 u64)
open Go Go.RowKit
theorem EqsOk.pols{n:Nat}{next:Int}{l:List Zc}(h:EqsOk n next l):∀ q ∈ l,PolOk q.p:=fun q hq=>(h.pol q hq).1
theorem ZeJ{l:List Zc}{id:Int}{q:Zc}:q ∈ dropL l id↔q ∈ l/\q.id≠id:=by
 unfold dropL
 rw[List.mem_filter,decide_eq_true_eq]
end Go.EL

namespace Go.EL
open Go.IntKind (i8 i16 i32 i64 u8 u16 u32 u64)
open Go Go.RowKit
instance decTerm:DecidableEq Zb:=fun ⟨a1,a2⟩ ⟨b1,b2⟩=>decidable_of_iff (a1=b1/\a2=b2) (by simp)
theorem Zo6{x y:Zb}(hx:TermOk x)(hy:TermOk y):∃ v,(ZbQ x.c y.c).Ret v/\(v=0↔x.c=y.c):=by
 obtain⟨⟨a,e1,a0,a1,a2⟩,_⟩:=hx
 obtain⟨⟨b,e2,b0,b1,b2⟩,_⟩:=hy
 have h1:=Zr ZpG (x:=a) a1 a2
 have h2:(between (-12) 12 fun b=>b == 0 || runs 30 (ZbQ (ratI a) (ratI b)) (if a<b then -1 else if a=b then 0 else 1))=true:=by simpa [a0] using h1
 have h3:=Zr h2 (x:=b) b1 b2
 refine⟨_,by rw[e1,e2]; exact ZA (by simpa [b0] using h3),?_⟩
 rw[e1,e2]
 by_cases c1:a<b
 .rw[if_pos c1]
  exact⟨fun k=>absurd k (by decide),fun k=>by have:=Zl4 k; omega⟩
 rw[if_neg c1]
 by_cases c2:a=b
 .rw[if_pos c2,c2]; exact⟨fun _=>rfl,fun _=>rfl⟩
 rw[if_neg c2]
 exact⟨fun k=>absurd k (by decide),fun k=>absurd (Zl4 k) c2⟩
theorem ZmQ{x y:Zb}(hx:TermOk x)(hy:TermOk y):(ZaH x y).Ret (decide (x=y)):=by
 unfold ZaH
 by_cases hm:x.m=y.m
 .rw[if_pos hm]
  obtain⟨v,h1,h2⟩:=Zo6 hx hy
  refine⟨v,h1,?_⟩
  refine decide_eq_decide.2 (h2.trans ⟨fun k=>?_,fun k=>by rw[k]⟩)
  cases x; cases y
  simp only at hm k
  rw[hm,k]
 rw[if_neg hm]
 exact (decide_eq_false fun k=>hm (by rw[k])).symm
theorem Zkj{p q:List Zb}(hp:PolOk p)(hq:PolOk q):(ZaG p q).Ret (decide (p=q)):=by
 have hl:=hp.len
 refine⟨_,?_,rfl⟩
 unfold Zw
 by_cases hlen:p.length=q.length
 .rw[if_neg (fun k=>k (by omega))]
  refine Cq.Zm p.length (fun k s=>s=(k:Int)/\p.take k=q.take k) (fun k s hk hs=>?_) (fun s hs=>?_) ⟨rfl,rfl⟩
  .obtain⟨rfl,he⟩:=hs
   have hk2:k<q.length:=by omega
   rw[Cq.Zd,if_pos (by omega)]
   refine⟨p[k],idxN hk,q[k],idxN hk2,_,ZmQ (hp.at hk) (hq.at hk2),?_⟩
   rw[Cq.Zd]
   by_cases e:p[k]=q[k]
   .rw[decide_eq_true e,if_neg (by decide)]
    refine⟨wrapN (by omega),?_⟩
    rw[<- List.take_append_getElem hk,<- List.take_append_getElem hk2,he,e]
   rw[decide_eq_false e,if_pos (by decide)]
   show _=_
   refine (decide_eq_false fun k'=>e ?_).symm
   simp only[k']
  obtain⟨rfl,he⟩:=hs
  rw[Cq.Zd,if_neg (by omega)]
  show _=_
  refine (decide_eq_true ?_).symm
  rw[List.take_length,hlen,List.take_length] at he
  exact he
 rw[if_pos (fun k=>hlen (by omega))]
 exact (decide_eq_false fun k=>hlen (by rw[k])).symm
theorem Zkh{a b:List ByteArray}(ha:a.length<=100):(ZM a b).Ret (decide (a=b)):=by
 unfold ZM
 by_cases hlen:a.length=b.length
 .rw[if_neg (fun k=>k (by omega))]
  refine Cq.Zm a.length (fun k s=>s=(k:Int)/\a.take k=b.take k) (fun k s hk hs=>?_) (fun s hs=>?_) ⟨rfl,rfl⟩
  .obtain⟨rfl,he⟩:=hs
   have hk2:k<b.length:=by omega
   rw[Cq.Zd,if_pos (by omega)]
   refine⟨a[k],idxN hk,b[k],idxN hk2,?_⟩
   rw[Cq.Zd]
   by_cases e:a[k]=b[k]
   .rw[if_neg (fun k=>k e)]
    refine⟨wrapN (by omega),?_⟩
    rw[<- List.take_append_getElem hk,<- List.take_append_getElem hk2,he,e]
   rw[if_pos e]
   show _=_
   refine (decide_eq_false fun k'=>e ?_).symm
   simp only[k']
  obtain⟨rfl,he⟩:=hs
  rw[Cq.Zd,if_neg (by omega)]
  show _=_
  refine (decide_eq_true ?_).symm
  rw[List.take_length,hlen,List.take_length] at he
  exact he
 rw[if_pos (fun k=>hlen (by omega))]
 exact (decide_eq_false fun k=>hlen (by rw[k])).symm
end Go.EL

namespace Go.EL
open Go.IntKind (i8 i16 i32 i64 u8 u16 u32 u64)
open Go Go.RowKit
structure DescsOk (l:List Zv):Prop where
 ok:∀ x ∈ l,DescOk x
end Go.EL

namespace Go.EL
open Go.IntKind (i8 i16 i32 i64 u8 u16 u32 u64)
open Go Go.RowKit
def runF:Za->List Zh->Za
 | s,[]=>s
 | s,e::l=>runF (doF s e) l
theorem ZiR:∀ {l:List Zh}{s:Za},Good s->RunOk s l->Good (runF s l)
 | [],_,h,_=>h
 | e::l,s,h,⟨h1,h2,h3⟩=>ZiR (l:=l) (s:=doF s e) (h.edit h1.p h2) h3
theorem ZmW:∀ {l:List Zh}{s:Za},RunOk s l->∀ (m:List Zh) (k:Nat),allF s (l++m) k=allF (runF s l) m (k+l.length)
 | [],_,_,_,_=>rfl
 | e::l,s,⟨h1,h2,h3⟩,m,k=>by
  have e1:allF s (e::l++m) k=allF (doF s e) (l++m) (k+1):=if_pos h2
  rw[e1,ZmW h3 m (k+1),show k+1+l.length=k+(e::l).length by simp only[List.length_cons]; omega]
  rfl
theorem Zo2{l:List Zh}{s:Za}(h:RunOk s l):allF s l 0=⟨runF s l,(l.length:Int),0⟩:=by
 have:=ZmW h [] 0
 rw[List.append_nil,Nat.zero_add] at this
 exact this
end Go.EL

namespace Go.EL
open Go.IntKind (i8 i16 i32 i64 u8 u16 u32 u64)
open Go Go.RowKit
end Go.EL

namespace Go.EL
open Go.IntKind (i8 i16 i32 i64 u8 u16 u32 u64)
open Go Go.RowKit
theorem ZdH{x:Int}(h:0<=x/\x<18446744073709551616):u64.wrap x=x:=by
 simp only[IntKind.wrap,IntKind.bits,IntKind.signed,Bool.false_and,Bool.false_eq_true,if_false]
 omega
theorem ZoN{x:Int}(h:0<=x/\x<4294967296):u32.wrap x=x:=by
 simp only[IntKind.wrap,IntKind.bits,IntKind.signed,Bool.false_and,Bool.false_eq_true,if_false]
 omega
def magI(x:Int):List Int:=if x=0 then [] else [x]
theorem mag1{x:Int}(h:x≠0):magI x=[x]:=if_neg h
def intI(n:Int):Zj:=⟨decide (n<0),magI (n.natAbs:Int)⟩
theorem ZiP(n:Int):ratI n=⟨intI n,⟨false,[1]⟩⟩:=by
 unfold ratI intI magI
 by_cases h:n=0
 .subst h; rfl
 rw[if_neg h,if_neg (by omega)]
theorem Zcl(n:Int):(intI n).neg=decide (n<0):=rfl
theorem ZlR(n:Int):(intI n).mag=magI (n.natAbs:Int):=rfl
end Go.EL

namespace Go.EL
open Go.IntKind (i8 i16 i32 i64 u8 u16 u32 u64)
open Go Go.RowKit
def ptL(X:Nat->Int):List Ze:=(List.range 8).map fun j=>ratI (X j)
theorem Zq3(X:Nat->Int){i:Nat}(h:i<8):(0:Int)<=(i:Int)/\(ptL X)[(i:Int).toNat]? = some (ratI (X i)):=by
 refine⟨by omega,?_⟩
 rw[Int.toNat_natCast]
 unfold ptL
 rw[List.getElem?_map,List.getElem?_range h]
 rfl
def prodE(X:Nat->Int)(m:M):Nat->Int
 | 0=>1
 | k+1=>prodE X m k*(if h:k<8 then X k ^ (m ⟨k,h⟩).toNat else 1)
def evalT(X:Nat->Int)(t:Zb):Int:=valR t.c*prodE X t.m 8
def sumI:List Int->Int
 | []=>0
 | x::l=>x+sumI l
theorem Zic:∀ (a b:List Int),sumI (a++b)=sumI a+sumI b
 | [],b=>by simp[sumI]
 | x::a,b=>by simp only[List.cons_append,sumI,Zic a b]; omega
theorem ZoI{a b:List Int}(h:a.Perm b):sumI a=sumI b:=by
 induction h with
 | nil=>rfl
 | cons x _ ih=>simp only[sumI,ih]
 | swap x y l=>simp only[sumI]; omega
 | trans _ _ h1 h2=>exact h1.trans h2
def evalP(X:Nat->Int)(p:List Zb):Int:=sumI (p.map (evalT X))
theorem Zja{m:M}(hm:Ok m):∀ {k j:Nat},k<=j->degTo m k<=degTo m j
 | k,0,h=>by
  obtain rfl:k=0:=(by omega)
  exact Int.le_refl _
 | k,j+1,h=>by
  by_cases e:k=j+1
  .rw[e]; exact Int.le_refl _
  have ih:=Zja hm (k:=k) (j:=j) (by omega)
  simp only[degTo]
  split
  .rename_i hj; have:=hm ⟨j,hj⟩; omega
  omega
theorem ZnK{m:M}(hm:Ok m)(hd:degM m<=2)(i:Fin 8):0<=m i/\m i<=2:=by
 have:=(Zek (fun i=>(hm i).1) 8 (by decide)).2 i i.isLt
 have h2:=hm i
 unfold degM at hd
 omega
theorem ZkO(Y:Nat->Int):∀ k,prodE Y (fun _=>0) k=1
 | 0=>rfl
 | k+1=>by
  simp only[prodE,ZkO Y k]
  split <;> simp
theorem ZnU{π:M}(h:IsPerm π){p:List Zb}(hp:PolOk p)(hs:SmallP p):SmallP (permP π p):=by
 have hpm:=(ZdW h hp.ord).1
 refine⟨by rw[hpm.length_eq,List.length_map]; exact hs.1,fun t ht=>?_⟩
 obtain⟨y,hy,rfl⟩:=List.mem_map.1 (hpm.mem_iff.1 ht)
 obtain⟨h1,h2⟩:=hs.2 y hy
 exact⟨h1,by show degM (permM π y.m)<=2; rw[Zkq h]; exact h2⟩
end Go.EL

namespace Go.EL
open Go.IntKind (i8 i16 i32 i64 u8 u16 u32 u64)
open Go Go.RowKit
def SmallS(s:Za):Prop:=(∀ q ∈ s.eqs,SmallP q.p)/\∀ q ∈ s.neqs,SmallP q.p
theorem Zbd{π:M}(h:IsPerm π){l:List Zc}(hp:∀ q ∈ l,PolOk q.p)(hs:∀ q ∈ l,SmallP q.p):∀ q ∈ movedL π l,SmallP q.p:=fun q hq=>by
 obtain⟨y,hy,rfl⟩:=List.mem_map.1 hq
 exact ZnU h (hp y hy) (hs y hy)
theorem ZeQ{l:List Zc}{x:Zc}(hs:∀ q ∈ l,SmallP q.p)(hx:SmallP x.p):∀ q ∈ putL l x,SmallP q.p:=fun q hq=>by
 rcases Zct hq with rfl|⟨hq,_⟩
 .exact hx
 exact hs q hq
theorem ZjA{s:Za}(h:Good s)(hs:SmallS s){e:Zh}(he:SmallP e.p)(hc:checkF s e=0):SmallS (doF s e):=by
 have hv:=h.vars
 rcases kinds0 hc with k|k|k|k|k|k|k|k
 .obtain⟨h1,h2,h3,_,_⟩:=check1 k hc
  have hπ:=Zdq (a:=s.vars.length) (b:=e.at'.toNat) (by omega) (by omega)
  rw[doF1 k]
  exact⟨Zbd hπ h.eqs.pols hs.1,Zbd hπ h.neqs.pols hs.2⟩
 .have h1':=of_decide_eq_true (check2 k hc).1
  have hπ:=Zdq (a:=e.at'.toNat) (b:=s.vars.length-1) (by omega) (by omega)
  rw[doF2 k]
  exact⟨Zbd hπ h.eqs.pols hs.1,Zbd hπ h.neqs.pols hs.2⟩
 .rw[doF3 k]; exact hs
 .obtain⟨h1,h2⟩:=check4 k hc
  have h1':=of_decide_eq_true h1
  have h2':=of_decide_eq_true h2
  have hπ:=swap_perm (a:=e.at'.toNat) (b:=e.to'.toNat) (by omega) (by omega)
  rw[doF4 k]
  exact⟨Zbd hπ h.eqs.pols hs.1,Zbd hπ h.neqs.pols hs.2⟩
 .rw[doF5 k]
  unfold addE
  cases e.neq with
  | true=>exact⟨hs.1,ZeQ hs.2 he⟩
  | false=>exact⟨ZeQ hs.1 he,hs.2⟩
 .rw[doF6 k]
  exact⟨fun q hq=>hs.1 q (ZeJ.1 hq).1,fun q hq=>hs.2 q (ZeJ.1 hq).1⟩
 .rw[doF7 k]
  refine⟨fun q hq=>?_,fun q hq=>?_⟩
  .obtain⟨y,hy,_,e1|e1⟩:=Zd2 hq
   .rw[e1]; exact hs.1 y hy
   rw[e1]; exact he
  obtain⟨y,hy,_,e1|e1⟩:=Zd2 hq
  .rw[e1]; exact hs.2 y hy
  rw[e1]; exact he
 rw[doF8 k]
 rcases Zjg h (check78 (.inr (.inr k)) hc) with ⟨_,q,hq,_,_,_,e3⟩|⟨_,q,hq,_,_,_,e3⟩
 .rw[e3]
  exact⟨fun z hz=>hs.1 z (ZeJ.1 hz).1,ZeQ hs.2 (hs.1 q hq)⟩
 rw[e3]
 exact⟨ZeQ hs.1 (hs.2 q hq),fun z hz=>hs.2 z (ZeJ.1 hz).1⟩
theorem ZmZ(v:ByteArray)(i:Nat):0<=byteAt v (i:Int)/\byteAt v (i:Int)<=255:=by
 have h:=Zit v i
 have h2:=(v.get! i).toNat_lt
 omega
theorem Zow{α:Type}(f:Nat->α)(n k:Nat)(y:α):((List.range n).map f).set k y=(List.range n).map fun j=>if j=k then y else f j:=by
 refine List.ext_getElem (by simp) fun j h1 h2=>?_
 rw[List.getElem_set]
 simp only[List.getElem_map,List.getElem_range]
 by_cases e:k=j
 .rw[if_pos e,if_pos e.symm]
 rw[if_neg e,if_neg fun k=>e k.symm]
end Go.EL

namespace Go.EL
open Go.IntKind (i8 i16 i32 i64 u8 u16 u32 u64)
open Go Go.RowKit
theorem ZpB:(between (-12) 12 fun a=>runs 60 (Zae (ratI a) (ratI 1)) (ratI a))=true:=by decide +kernel
theorem ZpC{a:Int}(h1:-12<=a)(h2:a<=12):(Zae (ratI a) (ratI 1)).Ret (ratI a):=ZA (Zr ZpB h1 h2)
theorem ZoZ{a b:M}(ha:Ok a)(hb:Ok b)(hab:Ok (mulM a b)):(Zep a b).Ret (mulM a b,0):=by
 show (Cq.next _ _).wp _
 refine Cq.Zm 8 (fun k s=>s=((k:Int),mixM k (mulM a b) a)) (fun k s hk hs=>?_) (fun s hs=>?_) (by rw[ZlW]; rfl)
 .subst hs
  have h1:=ha ⟨k,hk⟩
  have h2:=hb ⟨k,hk⟩
  rw[Cq.Zd,if_pos (by omega)]
  refine⟨by omega,by omega,by omega,?_⟩
  show _=_
  rw[wrapN (by omega),getFN hk,getFN hk,Zon,wrap64 (by omega)]
  exact congrArg (Prod.mk _) (ZlV (mulM a b) a hk)
 subst hs
 rw[Cq.Zd,if_neg (by omega),Znb _ _ (by omega)]
 exact⟨true,Zko hab,rfl⟩
theorem ZhY{D:List (M×Ze)}{c:Ze}{m:M}(hm:Ok m)(hn:∀ p ∈ D,p.1≠m)(hl:D.length<=1000):(ZaI D c m).Ret (D++[(m,c)]):=by
 refine⟨Zp2 hm,_,rfl,?_⟩
 rw[Cq.Zd,if_neg (by rw[Zdn hn]; decide),ZaP hn]
 exact⟨⟨Zp2 hm,by simp[small]; omega⟩,rfl⟩
theorem Znd{a:Int}(h0:a≠0)(h1:-12<=a)(h2:a<=12){m:M}(hm:Ok m):PolOk [⟨ratI a,m⟩]:=
 ⟨List.pairwise_singleton _ _,fun t ht=>by rw[List.mem_singleton.1 ht]; exact⟨⟨a,rfl,h0,h1,h2⟩,hm⟩,by simp⟩
theorem ZmT{a:Int}(h0:a≠0)(h1:-12<=a)(h2:a<=12){m n:M}(hm:Ok m)(hn:Ok n)(hmn:Ok (mulM m n)):(Zab [⟨ratI a,m⟩] [⟨ratI 1,n⟩]).Ret ([⟨ratI a,mulM m n⟩],0):=by
 show (Cq.next _ _).wp _
 refine Cq.Zm 1 (fun k s=>(k=0/\s=((0:Int),[]))\/(k=1/\s=((1:Int),[(mulM m n,ratI a)]))) (fun k s hk hs=>?_) (fun s hs=>?_) (.inl ⟨rfl,rfl⟩)
 .obtain⟨rfl,rfl⟩:=hs.resolve_right (by omega)
  rw[Cq.Zd,if_pos (by simp)]
  refine⟨⟨ratI a,m⟩,⟨by decide,rfl⟩,?_⟩
  show (Cq.next _ _).wp _
  refine Cq.Zm 1 (fun k s=>(k=0/\s=((0:Int),[]))\/(k=1/\s=((1:Int),[(mulM m n,ratI a)]))) (fun k s hk hs=>?_) (fun s hs=>?_) (.inl ⟨rfl,rfl⟩)
  .obtain⟨rfl,rfl⟩:=hs.resolve_right (by omega)
   rw[Cq.Zd,if_pos (by simp)]
   refine⟨⟨ratI 1,n⟩,⟨by decide,rfl⟩,_,ZoZ hm hn hmn,?_⟩
   rw[Cq.Zd,if_neg (by simp)]
   exact⟨_,ZpC h1 h2,_,ZhY hmn (fun p hp=>by cases hp) (by simp),.inr ⟨rfl,rfl⟩⟩
  obtain⟨_,rfl⟩:=hs.resolve_left (by omega)
  rw[Cq.Zd,if_neg (by simp)]
  exact .inr ⟨rfl,rfl⟩
 obtain⟨_,rfl⟩:=hs.resolve_left (by omega)
 rw[Cq.Zd,if_neg (by simp)]
 exact⟨_,Zgf (Znd h0 h1 h2 hmn) (List.Perm.refl _),rfl⟩
theorem Zp4(q:List Zb):(Zab [] q).Ret ([],0):=by
 show (Cq.next _ _).wp _
 refine Cq.Zm 0 (fun k s=>s=((0:Int),[])) (fun k s hk hs=>absurd hk (Nat.not_lt_zero k)) (fun s hs=>?_) rfl
 subst hs
 rw[Cq.Zd,if_neg (by simp)]
 exact⟨_,Zgf ZlY (List.Perm.refl _),rfl⟩
def varM(j:Nat)(e:Int):M:=fun i=>if i.val=j then e else 0
theorem ZfA{j:Nat}{e:Int}(h0:0<=e)(h1:e<=65535):Ok (varM j e):=fun i=>by
 unfold varM; split <;> omega
theorem Zmk(j:Nat)(a b:Int):mulM (varM j a) (varM j b)=varM j (a+b):=by
 funext i; unfold mulM varM; split <;> rfl
theorem Zp6:(between 0 7 fun j=>runs 60 (Zb1 j) ([⟨ratI 1,varM j.toNat 1⟩],0))=true:=by decide +kernel
theorem Zp7{j:Nat}(h:j<8):(Zb1 (j:Int)).Ret ([⟨ratI 1,varM j 1⟩],0):=by
 have:=ZA (Zr Zp6 (x:=(j:Int)) (by omega) (by omega))
 simpa using this
end Go.EL

namespace Go.EL
open Go.IntKind (i8 i16 i32 i64 u8 u16 u32 u64)
open Go Go.RowKit
def genP(g:M->M)(p:List Zb):List Zb:=p.foldl (fun acc t=>addT acc ⟨t.c,g t.m⟩) []
def genT(g:M->M)(t:Zb):Zb:=⟨t.c,g t.m⟩
theorem Zof(g:M->M)(l:List Zb)(t:Zb):genP g (l++[t])=addT (genP g l) (genT g t):=by simp[genP,genT,List.foldl_append]
def InjOn(g:M->M)(p:List Zb):Prop:=∀ x ∈ p,∀ y ∈ p,g x.m=g y.m->x.m=y.m
theorem Zm7{g:M->M}{p:List Zb}(hg:InjOn g p)(hd:Desc p):∀ k,k<=p.length->(genP g (p.take k)).Perm ((p.take k).map (genT g))/\Desc (genP g (p.take k))
 | 0,_=>by simp[genP]
 | k+1,hk=>by
  obtain⟨h1,h2⟩:=Zm7 hg hd k (by omega)
  have hk':k<p.length:=by omega
  rw[<- List.take_append_getElem hk',Zof]
  refine⟨?_,(ZgS h2).1⟩
  have hnew:∀ x ∈ genP g (p.take k),x.m≠(genT g p[k]).m:=by
   intro x hx e
   obtain⟨y,hy,rfl⟩:=List.mem_map.1 (h1.mem_iff.1 hx)
   have hm:=hg _ (List.mem_of_mem_take hy) _ (List.getElem_mem hk') e
   obtain⟨i,hi,rfl⟩:=List.mem_iff_getElem.1 hy
   simp only[List.length_take] at hi
   rw[List.getElem_take] at hm
   exact List.pairwise_iff_getElem.1 (Za0 hd) i k (by omega) hk' (by omega) hm
  refine (ZlC hnew).trans ?_
  rw[List.map_append]
  exact (h1.cons _).trans (List.perm_append_comm (l₁:=[genT g p[k]]))
theorem Zdy{g:M->M}{p:List Zb}(hg:InjOn g p)(hd:Desc p):(genP g p).Perm (p.map (genT g))/\Desc (genP g p):=by
 have:=Zm7 hg hd p.length (by omega)
 rwa [List.take_length] at this
theorem Zpk{g:M->M}{p:List Zb}(hg:InjOn g p)(hp:PolOk p)(ho:∀ t ∈ p,Ok (g t.m)):PolOk (genP g p):=by
 obtain⟨h1,h2⟩:=Zdy hg hp.ord
 refine⟨h2,fun t ht=>?_,by rw[h1.length_eq,List.length_map]; exact hp.len⟩
 obtain⟨y,hy,rfl⟩:=List.mem_map.1 (h1.mem_iff.1 ht)
 exact⟨(hp.trm y hy).c,ho y hy⟩
theorem Zem{g:M->M}{p:List Zb}(hg:InjOn g p)(hd:Desc p){t:Zb}:t ∈ genP g p↔∃ y ∈ p,t=⟨y.c,g y.m⟩:=by
 rw[(Zdy hg hd).1.mem_iff,List.mem_map]
 exact⟨fun ⟨y,h1,h2⟩=>⟨y,h1,h2.symm⟩,fun ⟨y,h1,h2⟩=>⟨y,h1,h2.symm⟩⟩
def sigTo(σ:Nat->Option Nat)(m:M):Nat->M
 | 0=>fun _=>0
 | k+1=>if h:k<8 then (match σ k with|some j=>mulM (sigTo σ m k) (varM j (m ⟨k,h⟩))|none=>sigTo σ m k) else sigTo σ m k
def sigM(σ:Nat->Option Nat)(m:M):M:=sigTo σ m 8
structure SigOk (σ:Nat->Option Nat):Prop where
 rng:∀ i j,σ i=some j->j<8
 inj:∀ a b j,a<8->b<8->σ a=some j->σ b=some j->a=b
theorem Zgc{σ:Nat->Option Nat}{m:M}{j:Fin 8}:∀ k,k<=8->(∀ i,i<k->σ i≠some j.val)->sigTo σ m k j=0
 | 0,_,_=>rfl
 | k+1,hk,h=>by
  have ih:=Zgc (σ:=σ) (m:=m) (j:=j) k (by omega) fun i hi=>h i (by omega)
  have h0:=h k (by omega)
  have hk':k<8:=by omega
  simp only[sigTo,dif_pos hk']
  cases hs:σ k with
  | none=>exact ih
  | some q=>
   show sigTo σ m k j+varM q _ j=0
   rw[ih]
   unfold varM
   rw[if_neg fun e=>h0 (by rw[hs,e])]
   rfl
theorem Zmc{σ:Nat->Option Nat}(hσ:SigOk σ){m:M}{j:Fin 8}{i:Fin 8}(hi:σ i.val=some j.val):∀ k,k<=8->i.val<k->sigTo σ m k j=m i
 | 0,_,h=>by omega
 | k+1,hk,h=>by
  have hk':k<8:=by omega
  simp only[sigTo,dif_pos hk']
  by_cases e:i.val=k
  .have h0:=Zgc (σ:=σ) (m:=m) (j:=j) k (by omega) fun b hb hc=>by
    have:=hσ.inj _ _ _ i.isLt (by omega) hi hc
    omega
   have ei:(⟨k,hk'⟩:Fin 8)=i:=Fin.ext e.symm
   rw[show σ k=some j.val by rw[<- e]; exact hi]
   show sigTo σ m k j+varM j.val (m ⟨k,hk'⟩) j=m i
   rw[h0,ei]
   unfold varM
   rw[if_pos rfl]
   omega
  have ih:=Zmc hσ (m:=m) hi k (by omega) (by omega)
  cases hs:σ k with
  | none=>exact ih
  | some q=>
   show sigTo σ m k j+varM q _ j=m i
   rw[ih]
   unfold varM
   rw[if_neg fun e2=>e (hσ.inj _ _ _ i.isLt hk' hi (by rw[hs,e2]))]
   omega
theorem Zkc{σ:Nat->Option Nat}(hσ:SigOk σ)(m:M){i:Fin 8}{j:Nat}(hi:σ i.val=some j):sigM σ m ⟨j,hσ.rng _ _ hi⟩=m i:=Zmc hσ (j:=⟨j,hσ.rng _ _ hi⟩) hi 8 (by omega) i.isLt
theorem ZkQ(σ:Nat->Option Nat)(m:M){j:Fin 8}(h:∀ i,i<8->σ i≠some j.val):sigM σ m j=0:=Zgc 8 (by omega) h
theorem ZgY(a b:M):∀ k,degTo (mulM a b) k=degTo a k+degTo b k
 | 0=>by simp[degTo]
 | k+1=>by
  simp only[degTo]
  split
  .rw[ZgY a b k]; unfold mulM; omega
  rw[ZgY a b k]; omega
theorem Zks(j:Nat)(e:Int):∀ k,k<=8->degTo (varM j e) k=if j<k then e else 0
 | 0,_=>by simp[degTo]
 | k+1,hk=>by
  have hk':k<8:=by omega
  simp only[degTo,dif_pos hk']
  rw[Zks j e k (by omega)]
  unfold varM
  by_cases h1:j<k
  .rw[if_pos h1,if_neg (by simp only; omega),if_pos (by omega)]; omega
  by_cases h2:k=j
  .rw[if_neg h1,if_pos h2,if_pos (by omega)]; omega
  rw[if_neg h1,if_neg h2,if_neg (by omega)]; omega
theorem ZeP{σ:Nat->Option Nat}(hσ:SigOk σ){m:M}(h:∀ i,0<=m i):∀ k,k<=8->(∀ i,0<=sigTo σ m k i)/\degM (sigTo σ m k)<=degTo m k
 | 0,_=>⟨fun _=>Int.le_refl 0,by simp[sigTo,degM,degTo]⟩
 | k+1,hk=>by
  have hk':k<8:=by omega
  obtain⟨h1,h2⟩:=ZeP hσ h k (by omega)
  have h0:=h ⟨k,hk'⟩
  simp only[sigTo,degTo,dif_pos hk']
  cases hs:σ k with
  | none=>exact⟨h1,by simp only; omega⟩
  | some q=>
   have hq:=hσ.rng _ _ hs
   refine⟨fun i=>?_,?_⟩
   .show 0<=sigTo σ m k i+varM q _ i
    have:=h1 i
    unfold varM
    split <;> omega
   show degM (mulM _ _)<=_
   unfold degM
   rw[ZgY,Zks _ _ 8 (by omega),if_pos hq]
   have:degM (sigTo σ m k)<=degTo m k:=h2
   unfold degM at this
   omega
theorem Zmb{σ:Nat->Option Nat}(hσ:SigOk σ){m:M}(h:∀ i,0<=m i):(∀ i,0<=sigM σ m i)/\degM (sigM σ m)<=degM m:=ZeP hσ h 8 (by omega)
def vP:Option Nat->List Zb
 | none=>[]
 | some j=>[⟨ratI 1,varM j 1⟩]
def qOf(σ:Nat->Option Nat):List (List Zb):=(List.range 8).map fun i=>vP (σ i)
theorem Zov(σ:Nat->Option Nat){i:Nat}(h:i<8):(qOf σ)[i]? = some (vP (σ i)):=by simp[qOf,h]
theorem Zne(σ:Nat->Option Nat){i:Nat}(h:i<8):(0:Int)<=(i:Int)/\(qOf σ)[((i:Nat):Int).toNat]? = some (vP (σ i)):=⟨by omega,by rw[Int.toNat_natCast]; exact Zov σ h⟩
def Mapped(σ:Nat->Option Nat)(m:M):Prop:=∀ i:Fin 8,0<m i->∃ j,σ i.val=some j
theorem ZpK{σ:Nat->Option Nat}(hσ:SigOk σ){a b:M}(ha:∀ i,0<=a i)(hb:∀ i,0<=b i)(ma:Mapped σ a)(mb:Mapped σ b)(e:sigM σ a=sigM σ b):a=b:=by
 funext i
 cases hs:σ i.val with
 | some j=>rw[<- Zkc hσ a hs,<- Zkc hσ b hs,e]
 | none=>
  have h1:¬ 0<a i:=fun h=>by obtain⟨j,hj⟩:=ma i h; rw[hs] at hj; cases hj
  have h2:¬ 0<b i:=fun h=>by obtain⟨j,hj⟩:=mb i h; rw[hs] at hj; cases hj
  have:=ha i
  have:=hb i
  omega
theorem ZmF:(between 0 7 fun j=>runs 80 (ZaJ [⟨ratI 1,varM j.toNat 1⟩]) (varM j.toNat 1))=true:=by decide +kernel
theorem ZmG{σ:Nat->Option Nat}(hσ:SigOk σ)(i:Nat):∃ d,(ZaJ (vP (σ i))).Ret d/\∀ i,0<=d i/\d i<=1:=by
 cases hs:σ i with
 | none=>exact⟨_,ZA (n:=20) (a:=fun _=>0) (by decide +kernel),fun i=>by simp⟩
 | some j=>
  have:=ZA (Zr ZmF (x:=(j:Int)) (by omega) (by have:=hσ.rng _ _ hs; omega))
  rw[Int.toNat_natCast] at this
  exact⟨_,this,fun i=>by unfold varM; split <;> omega⟩
def Bits(b:Fin 64->Int):Prop:=∀ i,0<=b i/\b i<=1
theorem ZmD{σ:Nat->Option Nat}(hσ:SigOk σ){p:(Fin 64->Int)->Prop}(h:∀ b,Bits b->p b):(ZcZ (qOf σ) (0,fun _=>0)).wp p:=by
 refine Cq.Zm 8 (fun k s=>s.1=(k:Int)/\Bits s.2) (fun k s hk hs=>?_) (fun s hs=>?_) ⟨rfl,fun i=>by simp⟩
 .obtain⟨i,b⟩:=s
  obtain⟨rfl,hb⟩:=hs
  refine Cq.wp.yes (p:=(k:Int)<8) (by omega) ?_
  obtain⟨d,hd,hd1⟩:=ZmG hσ k
  refine⟨_,Zne σ hk,d,hd,by omega,wrapN (by omega),fun j=>?_⟩
  simp only[setB]
  split
  .exact hd1 _
  exact hb j
 obtain⟨i,b⟩:=s
 obtain⟨rfl,hb⟩:=hs
 refine Cq.wp.no (p:=((8:Nat):Int)<8) (by omega) ?_
 exact h b hb
theorem getBits{b:Fin 64->Int}(h:Bits b)(i:Int):0<=getF b i/\getF b i<=1:=by
 unfold getF
 split
 .exact h _
 exact⟨by decide,by decide⟩
theorem Zqv{a b:Int}(ha:0<=a/\a<=12)(hb:0<=b/\b<=1):0<=a*b/\a*b<=12:=by
 rcases (by omega:b=0\/b=1) with rfl|rfl <;> omega
theorem ZnX{m:M}(hm:∀ i,0<=m i/\m i<=12){b:Fin 64->Int}(hb:Bits b):(Zb9 m b).Ret false:=by
 show (Cq.next _ _).wp _
 refine Cq.Zm 8 (fun k s=>s=(k:Int)) (fun k s hk hs=>?_) (fun s hs=>?_) rfl
 .subst hs
  refine Cq.wp.yes (p:=(k:Int)<8) (by omega) ?_
  show (Cq.next _ _).wp _
  refine Cq.Zm 8 (fun j s=>s.2=(j:Int)/\0<=s.1/\s.1<=12*(j:Int)) (fun j s hj hs=>?_) (fun s hs=>?_) ⟨rfl,by simp,by simp⟩
  .obtain⟨sum,i⟩:=s
   obtain⟨rfl,h1,h2⟩:=hs
   refine Cq.wp.yes (p:=(j:Int)<8) (by omega) ?_
   refine⟨by omega,by omega,by omega,?_⟩
   have h1':0<=sum:=h1
   have h2':sum<=12*(j:Int):=h2
   rw[getFN hj]
   have q:=Zqv (hm ⟨j,hj⟩) (getBits hb ((j:Int)*8+(k:Int)))
   generalize hq:m ⟨j,hj⟩*getF b ((j:Int)*8+(k:Int))=x at q ⊢
   refine⟨wrapN (by omega),?_,?_⟩
   .show 0<=i64.wrap (sum+i64.wrap x)
    rw[wrap64 (x:=x) (by omega),wrap64 (by omega)]; omega
   show i64.wrap (sum+i64.wrap x)<=_
   rw[wrap64 (x:=x) (by omega),wrap64 (by omega)]; omega
  obtain⟨sum,i⟩:=s
  obtain⟨rfl,h1,h2⟩:=hs
  have h2':sum<=12*((8:Nat):Int):=h2
  refine Cq.wp.no (p:=((8:Nat):Int)<8) (by omega) ?_
  show (if 65535<sum then _ else _:Cq _).wp _
  rw[Cq.Zd,if_neg (by omega),wrapN (by omega)]
  rfl
 subst hs
 refine Cq.wp.no (p:=((8:Nat):Int)<8) (by omega) ?_
 rfl
theorem ZqG{j:Nat}:¬ ((vP (some j)).length:Int)=0:=by simp[vP]
theorem Zhy{σ:Nat->Option Nat}{m:M}(hm:Mapped σ m):(Zax m (qOf σ)).Ret false:=by
 show (Cq.next _ _).wp _
 refine Cq.Zm 8 (fun k s=>s=(k:Int)) (fun k s hk hs=>?_) (fun s hs=>?_) rfl
 .subst hs
  refine Cq.wp.yes (p:=(k:Int)<8) (by omega) ?_
  refine⟨by omega,?_⟩
  rw[getFN hk,Cq.Zd]
  split
  .rename_i h
   obtain⟨j,hj⟩:=hm ⟨k,hk⟩ h
   refine⟨_,Zne σ hk,?_⟩
   rw[show σ k=some j from hj,Cq.Zd,if_neg ZqG,wrapN (by omega)]
   rfl
  rw[wrapN (by omega)]; rfl
 subst hs
 refine Cq.wp.no (p:=((8:Nat):Int)<8) (by omega) ?_
 rfl
def powW(σ:Nat->Option Nat)(i k:Nat):List Zb:=match σ i with|none=>[]|some j=>[⟨ratI 1,varM j (k:Int)⟩]
theorem Zq2{σ:Nat->Option Nat}:PowOk Zab (qOf σ) (powW σ):=by
 refine⟨fun i hi=>?_,fun i hi k h1 h2=>?_⟩
 .rw[Zov σ hi]; unfold powW vP
  cases σ i <;> rfl
 unfold powW
 cases σ i with
 | none=>exact⟨0,Zp4 _⟩
 | some j=>
  refine⟨0,?_⟩
  have:=ZmT (a:=1) (by decide) (by decide) (by decide) (m:=varM j (k:Int)) (n:=varM j ((1:Nat):Int)) (ZfA (by omega) (by omega)) (ZfA (by decide) (by decide)) (by rw[Zmk]; exact ZfA (by omega) (by omega))
  rw[Zmk] at this
  simpa using this
theorem Zoq{c:Ze}(h:∃ a:Int,c=ratI a/\a≠0/\-12<=a/\a<=12):(Zbj c).Ret [⟨c,fun _=>0⟩]:=by
 obtain⟨a,rfl,h0,h1,h2⟩:=h
 have:=Zr ZkP (x:=a) h1 h2
 simp only[Bool.or_eq_true,beq_iff_eq,h0,false_or] at this
 refine⟨_,ZA this,?_⟩
 rw[Cq.Zd,if_neg (by split <;> first|decide|(split <;> first|contradiction|decide))]
 rfl
structure MonOk (σ:Nat->Option Nat) (m:M):Prop where
 nn:∀ i,0<=m i
 deg:degM m<=12
 map:Mapped σ m
theorem MonOk.le{σ:Nat->Option Nat}{m:M}(h:MonOk σ m)(i:Fin 8):0<=m i/\m i<=12:=⟨h.nn i,Int.le_trans ((Zek h.nn 8 (by omega)).2 i i.isLt) h.deg⟩
theorem Zgd{σ:Nat->Option Nat}(hσ:SigOk σ){m:M}(h:MonOk σ m){k:Nat}(hk:k<=8):Ok (sigTo σ m k):=by
 obtain⟨h1,h2⟩:=ZeP hσ h.nn k hk
 have hle:degTo m k<=degM m:=by
  have:∀ d,k+d<=8->degTo m k<=degTo m (k+d):=fun d=>by
   induction d with
   | zero=>intro _; exact Int.le_refl _
   | succ d ih=>
    intro hd
    have:=ih (by omega)
    have h3:=h.nn ⟨k+d,by omega⟩
    rw[<- Nat.add_assoc]
    simp only[degTo,dif_pos (show k+d<8 by omega)]
    omega
  have:=this (8-k) (by omega)
  rwa [show k+(8-k)=8 by omega] at this
 have:=h.deg
 exact Zhi h1 h2 (by omega)
theorem ZoT(a:M)(j:Nat):mulM a (varM j 0)=a:=by
 funext i; unfold mulM varM; split <;> omega
theorem Zou{σ:Nat->Option Nat}(hσ:SigOk σ){t:Zb}(hc:∃ a:Int,t.c=ratI a/\a≠0/\-12<=a/\a<=12)(h:MonOk σ t.m):(Zc5 (powW σ) t ([⟨t.c,fun _=>0⟩],0)).Ret [⟨t.c,sigM σ t.m⟩]:=by
 refine Cq.Zm 8 (fun k s=>s=([⟨t.c,sigTo σ t.m k⟩],(k:Int))) (fun k s hk hs=>?_) (fun s hs=>?_) rfl
 .subst hs
  refine Cq.wp.yes (p:=(k:Int)<8) (by omega) ?_
  refine⟨by omega,?_⟩
  have hl:=h.le ⟨k,hk⟩
  rw[getFN hk,Cq.Zd]
  split
  .rename_i hp
   obtain⟨j,hj⟩:=h.map ⟨k,hk⟩ hp
   have hj:σ k=some j:=hj
   have hj8:=hσ.rng _ _ hj
   refine⟨⟨by omega,by omega,by omega⟩,?_⟩
   obtain⟨a,ea,h0,h1,h2⟩:=hc
   have hn:=Zgd hσ h (k:=k+1) (by omega)
   have es:sigTo σ t.m (k+1)=mulM (sigTo σ t.m k) (varM j (t.m ⟨k,hk⟩)):=by simp only[sigTo,dif_pos hk,hj]
   have e2:powW σ ((k:Int)).toNat (t.m ⟨k,hk⟩).toNat=[⟨ratI 1,varM j (t.m ⟨k,hk⟩)⟩]:=by
    unfold powW; rw[Int.toNat_natCast,hj]; simp only; rw[Int.toNat_of_nonneg hl.1]
   rw[e2,es,ea,wrapN (by omega)]
   rw[es] at hn
   exact⟨_,ZmT h0 h1 h2 (Zgd hσ h (by omega)) (ZfA hl.1 (by omega)) hn,rfl⟩
  rename_i hp
  have es:sigTo σ t.m (k+1)=sigTo σ t.m k:=by
   simp only[sigTo,dif_pos hk]
   rw[show t.m ⟨k,hk⟩=0 by omega]
   cases σ k with
   | none=>rfl
   | some j=>exact ZoT _ _
  rw[es,wrapN (by omega)]
  rfl
 subst hs
 refine Cq.wp.no (p:=((8:Nat):Int)<8) (by omega) ?_
 rfl
structure SubOk (σ:Nat->Option Nat) (p:List Zb):Prop where
 pol:PolOk p
 mon:∀ t ∈ p,MonOk σ t.m
theorem SubOk.inj{σ:Nat->Option Nat}(hσ:SigOk σ){p:List Zb}(h:SubOk σ p):InjOn (sigM σ) p:=fun x hx y hy e=>
 ZpK hσ (h.mon x hx).nn (h.mon y hy).nn (h.mon x hx).map (h.mon y hy).map e
theorem SubOk.gen{σ:Nat->Option Nat}(hσ:SigOk σ){p:List Zb}(h:SubOk σ p):PolOk (genP (sigM σ) p):=Zpk (h.inj hσ) h.pol fun t ht=>Zgd hσ (h.mon t ht) (Nat.le_refl 8)
theorem SubOk.deg64{σ:Nat->Option Nat}{p:List Zb}(h:SubOk σ p):degP p<=12:=(Zm3 (by decide)).2 fun t ht=>(h.mon t ht).deg
theorem Zn2{σ:Nat->Option Nat}(hσ:SigOk σ){p:List Zb}(h:SubOk σ p):(Zcq p (qOf σ)).Ret (genP (sigM σ) p,0):=by
 have hl:=h.pol.len
 refine⟨_,ZhO h.pol,?_⟩
 have:=h.deg64
 rw[Cq.Zd,if_neg (by omega)]
 refine ZmD hσ fun b hb=>?_
 show (Cq.next _ _).wp _
 refine Cq.Zm p.length (fun k s=>s=(k:Int)) (fun k s hk hs=>?_) (fun s hs=>?_) rfl
 .subst hs
  show (if (k:Int)<(p.length:Int) then _ else _:Cq _).wp _
  have hm:=h.mon _ (List.getElem_mem hk)
  rw[Cq.Zd,if_pos (by omega)]
  refine⟨p[k],idxN hk,false,Zhy hm.map,false,ZnX hm.le hb,?_⟩
  rw[Cq.Zd,if_neg (by decide),wrapN (by omega)]
  rfl
 subst hs
 refine Cq.wp.no (p:=(p.length:Int)<(p.length:Int)) (by omega) ?_
 refine⟨powW σ,Zq2,?_⟩
 show (Cq.next _ _).wp _
 refine Cq.Zm p.length (fun k s=>s=((k:Int),(p.take k).map fun t=>(sigM σ t.m,t.c))) (fun k s hk hs=>?_) (fun s hs=>?_) (by simp)
 .subst hs
  show (if (k:Int)<(p.length:Int) then _ else _:Cq _).wp _
  have hm:=h.mon _ (List.getElem_mem hk)
  have hc:=(h.pol.at hk).c
  rw[Cq.Zd,if_pos (by omega)]
  refine⟨p[k],idxN hk,false,Zhy hm.map,?_⟩
  rw[Cq.Zd,if_neg (by decide)]
  refine⟨_,Zoq hc,?_⟩
  refine (Zou hσ hc hm).then ?_
  show (Cq.next _ _).wp _
  have hnew:∀ q ∈ (p.take k).map fun t=>(sigM σ t.m,t.c),q.1≠sigM σ p[k].m:=by
   intro q hq e
   obtain⟨y,hy,rfl⟩:=List.mem_map.1 hq
   have hm:=h.inj hσ _ (List.mem_of_mem_take hy) _ (List.getElem_mem hk) e
   obtain⟨i,hi,rfl⟩:=List.mem_iff_getElem.1 hy
   simp only[List.length_take] at hi
   rw[List.getElem_take] at hm
   exact List.pairwise_iff_getElem.1 (Za0 h.pol.ord) i k (by omega) hk (by omega) hm
  refine Cq.Zm 1 (fun j s=>(j=0/\s=((0:Int),(p.take k).map fun t=>(sigM σ t.m,t.c)))\/(j=1/\s=((1:Int),(p.take (k+1)).map fun t=>(sigM σ t.m,t.c)))) (fun j s hj hs=>?_) (fun s hs=>?_) (.inl ⟨rfl,rfl⟩)
  .obtain⟨rfl,rfl⟩:=hs.resolve_right (by omega)
   rw[Cq.Zd,if_pos (by simp)]
   refine⟨_,⟨by decide,rfl⟩,_,ZhY (Zgd hσ hm (Nat.le_refl 8)) hnew (by rw[List.length_map,List.length_take]; omega),.inr ⟨rfl,?_⟩⟩
   rw[<- List.take_append_getElem hk,List.map_append]
   rfl
  obtain⟨_,rfl⟩:=hs.resolve_left (by omega)
  rw[Cq.Zd,if_neg (by simp)]
  show _=_
  rw[wrapN (by omega)]
 subst hs
 refine Cq.wp.no (p:=(p.length:Int)<(p.length:Int)) (by omega) ?_
 refine⟨_,Zgf (h.gen hσ) ?_,rfl⟩
 rw[List.take_length,List.map_map]
 exact (Zdy (h.inj hσ) h.pol.ord).1.symm
end Go.EL

namespace Go.EL
open Go.IntKind (i8 i16 i32 i64 u8 u16 u32 u64)
open Go Go.RowKit
def idxS(fr to:List ByteArray)(i:Nat):Option Nat:=match fr[i]? with
 | none=>none
 | some v=>if 0<=idxI to v then some (idxI to v).toNat else none
theorem ZbD{fr to:List ByteArray}{i j:Nat}(h:idxS fr to i=some j):∃ v,fr[i]? = some v/\to[j]? = some v:=by
 unfold idxS at h
 cases hv:fr[i]? with
 | none=>rw[hv] at h; cases h
 | some v=>
  rw[hv] at h
  simp only at h
  split at h
  .rename_i h0
   cases h
   exact⟨v,rfl,Zji (by omega)⟩
  cases h
theorem Zdg{fr to:List ByteArray}(hf:fr.Pairwise fun a b=>a≠b)(ht:to.length<=8):SigOk (idxS fr to) where
 rng i j h:=by
  obtain⟨v,_,h2⟩:=ZbD h
  have:=(List.getElem?_eq_some_iff.1 h2).1
  omega
 inj a b j _ _ h1 h2:=by
  obtain⟨v,k1,k2⟩:=ZbD h1
  obtain⟨u,k3,k4⟩:=ZbD h2
  rw[k2] at k4
  cases k4
  obtain⟨q1,e1⟩:=List.getElem?_eq_some_iff.1 k1
  obtain⟨q2,e2⟩:=List.getElem?_eq_some_iff.1 k3
  by_cases hab:a=b
  .exact hab
  exact absurd (e1.trans e2.symm) (ZbW hf q1 q2 hab)
theorem Zj4{fr to:List ByteArray}{i:Nat}(hi:i<fr.length)(h:0<=idxI to fr[i]):idxS fr to i=some (idxI to fr[i]).toNat:=by
 unfold idxS
 rw[List.getElem?_eq_getElem hi]
 simp only
 rw[if_pos h]
def missB2(fr to:List ByteArray)(p:List Zb)(k:Nat):Bool:=if h:k<fr.length/\k<8 then Occurs ⟨k,h.2⟩ p && decide (idxI to fr[k]<0) else false
def missTo(fr to:List ByteArray)(p:List Zb):Nat->List ByteArray
 | 0=>[]
 | k+1=>missTo fr to p k++(if missB2 fr to p k=true then [fr.getD k ByteArray.empty] else [])
def missP(fr to:List ByteArray)(p:List Zb):List ByteArray:=missTo fr to p fr.length
theorem Zf4(fr to:List ByteArray)(p:List Zb):∀ k,(missTo fr to p k).length<=k
 | 0=>Nat.le_refl 0
 | k+1=>by
  have:=Zf4 fr to p k
  simp only[missTo,List.length_append]
  split <;> simp <;> omega
theorem Zjp{fr to:List ByteArray}{p:List Zb}:∀ k,missTo fr to p k=[]->∀ i,i<k->missB2 fr to p i=false
 | 0,_,i,hi=>by omega
 | k+1,h,i,hi=>by
  simp only[missTo] at h
  obtain⟨h1,h2⟩:=List.append_eq_nil_iff.1 h
  by_cases e:i=k
  .subst e
   cases hm:missB2 fr to p i with
   | false=>rfl
   | true=>rw[if_pos hm] at h2; cases h2
  exact Zjp k h1 i (by omega)
theorem Zm8{l:List ByteArray}{k:Nat}(h:k<l.length):l.getD k ByteArray.empty=l[k]:=by rw[List.getD_eq_getElem?_getD,List.getElem?_eq_getElem h]; rfl
theorem ZkG{fr to:List ByteArray}{p:List Zb}{v:ByteArray}:∀ k,k<=fr.length->v ∈ missTo fr to p k->v ∈ fr
 | 0,_,h=>by simp[missTo] at h
 | k+1,hk,h=>by
  simp only[missTo] at h
  rcases List.mem_append.1 h with h|h
  .exact ZkG k (by omega) h
  split at h
  .rw[List.mem_singleton.1 h,Zm8 (by omega)]; exact List.getElem_mem _
  cases h
theorem Zh6{fr to:List ByteArray}{p:List Zb}(hf:fr.length<=8)(ht:to.length<=100)(hp:p.length<=100):(_eliminant_merge_translation_missing ⟨fr,to⟩ p).Ret (missP fr to p):=by
 show (Cq.next _ _).wp _
 refine Cq.Zm fr.length (fun k s=>s=(missTo fr to p k,(k:Int))) (fun k s hk hs=>?_) (fun s hs=>?_) rfl
 .subst hs
  refine Cq.wp.yes (p:=(k:Int)<(fr.length:Int)) (by omega) ?_
  refine⟨fr[k],idxN hk,_,ZlA hp,by omega,?_⟩
  have key:=ZoR p ⟨k,by omega⟩
  have hl:=Zf4 fr to p k
  rw[Cq.Zd]
  have e0:missB2 fr to p k=(Occurs ⟨k,by omega⟩ p && decide (idxI to fr[k]<0)):=by unfold missB2; rw[dif_pos ⟨hk,by omega⟩]
  have e1:missTo fr to p (k+1)=missTo fr to p k++(if missB2 fr to p k=true then [fr[k]] else []):=by simp only[missTo,Zm8 hk]
  by_cases ho:Occurs ⟨k,by omega⟩ p=true
  .rw[if_pos (key.2 ho)]
   refine⟨_,Zby ht fr[k],?_⟩
   rw[Cq.Zd]
   rw[ho,Bool.true_and] at e0
   by_cases hi:0<=idxI to fr[k]
   .rw[decide_eq_true hi,if_neg (by decide),wrapN (by omega),e1,e0,decide_eq_false (by omega),if_neg (by decide),List.append_nil]
    rfl
   rw[decide_eq_false hi,if_pos (by decide),wrapN (by omega),e1,e0,decide_eq_true (by omega),if_pos rfl]
   exact⟨by simp[small]; omega,rfl⟩
  rw[if_neg fun h=>ho (key.1 h),wrapN (by omega),e1,e0,(Bool.not_eq_true _).mp ho,Bool.false_and,if_neg (by decide),List.append_nil]
  rfl
 subst hs
 refine Cq.wp.no (p:=(fr.length:Int)<(fr.length:Int)) (by omega) ?_
 rfl
def PolFit(n:Nat)(p:List Zb):Prop:=PolOk p/\fitB p (n:Int)=true
theorem Zcu{fr to:List ByteArray}{p:List Zb}(hl:fr.length<=8)(hp:PolFit fr.length p)(hm:missP fr to p=[]):SubOk (idxS fr to) p:=by
 obtain⟨h1,h2⟩:=(Zde hl).1 hp.2
 refine⟨hp.1,fun t ht=>⟨fun i=>((hp.1.trm t ht).m i).1,h2 t ht,fun i hi=>?_⟩⟩
 have hlt:i.val<fr.length:=by
  by_cases h:i.val<fr.length
  .exact h
  exact absurd hi (h1 t ht i (by omega))
 have:=Zjp _ hm i.val hlt
 unfold missB2 at this
 rw[dif_pos ⟨hlt,i.isLt⟩] at this
 have ho:Occurs i p=true:=List.any_eq_true.2 ⟨t,ht,decide_eq_true hi⟩
 rw[show (⟨i.val,i.isLt⟩:Fin 8)=i from rfl,ho,Bool.true_and] at this
 have:=of_decide_eq_false this
 exact⟨_,Zj4 hlt (by omega)⟩
def trP(fr to:List ByteArray)(p:List Zb):List Zb:=genP (sigM (idxS fr to)) p
def trF(fr to:List ByteArray)(p:List Zb):List Zb×Bool:=if missP fr to p=[] then (trP fr to p,true) else ([],false)
def mixQ(fr to:List ByteArray)(k:Nat):List (List Zb):=(List.range 8).map fun i=>if i<k then vP (idxS fr to i) else []
theorem Zol(fr to:List ByteArray):mixQ fr to 0=List.replicate 8 []:=by simp[mixQ]; rfl
theorem Zj8(fr to:List ByteArray)(k:Nat){i:Nat}(h:i<8):(mixQ fr to k)[i]? = some (if i<k then vP (idxS fr to i) else []):=by simp[mixQ,h]
theorem ZiF(fr to:List ByteArray)(k:Nat):(mixQ fr to k).length=8:=by simp[mixQ]
theorem Zps(fr to:List ByteArray){k:Nat}(_h:k<8):(mixQ fr to k).set k (vP (idxS fr to k))=mixQ fr to (k+1):=by
 apply List.ext_getElem?
 intro i
 by_cases hi:i<8
 .rw[Zj8 _ _ _ hi,List.getElem?_set]
  by_cases e:k=i
  .subst e; rw[if_pos rfl,ZiF,if_pos hi,if_pos (by omega)]
  rw[if_neg e,Zj8 _ _ _ hi]
  by_cases h2:i<k
  .rw[if_pos h2,if_pos (by omega)]
  rw[if_neg h2,if_neg (by omega)]
 rw[List.getElem?_eq_none (by rw[List.length_set,ZiF]; omega),List.getElem?_eq_none (by rw[ZiF]; omega)]
theorem Zok(fr to:List ByteArray){k:Nat}(h:idxS fr to k=none):mixQ fr to (k+1)=mixQ fr to k:=by
 unfold mixQ
 apply List.map_congr_left
 intro i _
 by_cases e:i=k
 .subst e; rw[if_pos (by omega),if_neg (by omega),h]; rfl
 by_cases h2:i<k
 .rw[if_pos h2,if_pos (by omega)]
 rw[if_neg h2,if_neg (by omega)]
theorem Zpr{fr to:List ByteArray}(h:fr.length<=8):mixQ fr to fr.length=qOf (idxS fr to):=by
 unfold mixQ qOf
 apply List.map_congr_left
 intro i _
 by_cases h2:i<fr.length
 .rw[if_pos h2]
 rw[if_neg h2]
 unfold idxS
 rw[List.getElem?_eq_none (by omega)]
 rfl
theorem Zgq{fr to:List ByteArray}{p:List Zb}(hd:fr.Pairwise fun a b=>a≠b)(hf:fr.length<=8)(ht:to.length<=8)(hp:PolFit fr.length p):(_eliminant_merge_translation_translate ⟨fr,to⟩ p).Ret (trF fr to p):=by
 have hσ:=Zdg hd ht
 refine⟨_,Zh6 hf (by omega) hp.1.len,?_⟩
 rw[Cq.Zd]
 by_cases hm:missP fr to p=[]
 .have e0:trF fr to p=(trP fr to p,true):=by unfold trF; rw[if_pos hm]
  rw[hm,if_neg (by decide),e0]
  show (Cq.next _ _).wp _
  refine Cq.Zm fr.length (fun k s=>s=((k:Int),mixQ fr to k)) (fun k s hk hs=>?_) (fun s hs=>?_) (by rw[Zol]; rfl)
  .subst hs
   refine Cq.wp.yes (p:=(k:Int)<(fr.length:Int)) (by omega) ?_
   refine⟨fr[k],idxN hk,_,Zki (by show to.length<=100; omega) fr[k],?_⟩
   rw[Cq.Zd]
   by_cases hi:0<=idxI to fr[k]
   .rw[if_pos hi]
    have hs:=Zj4 hk hi
    have hj:=hσ.rng _ _ hs
    have hv:=Zp7 hj
    rw[Int.toNat_of_nonneg hi] at hv
    refine⟨_,hv,_,⟨by omega,by rw[Int.toNat_natCast]; exact Zj8 _ _ _ (by omega)⟩,?_⟩
    show _=_
    rw[wrapN (by omega),Int.toNat_natCast,<- Zps fr to (by omega:k<8),hs]
    rfl
   rw[if_neg hi]
   have hs:idxS fr to k=none:=by
    unfold idxS
    rw[List.getElem?_eq_getElem hk]
    simp only
    rw[if_neg hi]
   show _=_
   rw[wrapN (by omega),Zok fr to hs]
  subst hs
  show (if (fr.length:Int)<(fr.length:Int) then _ else _:Cq _).wp _
  rw[Cq.Zd,if_neg (by omega),Zpr hf]
  exact⟨_,Zn2 hσ (Zcu hf hp hm),rfl⟩
 have e0:trF fr to p=([],false):=by unfold trF; rw[if_neg hm]
 have:0<(missP fr to p).length:=List.length_pos_iff.2 hm
 rw[if_pos (by omega),e0]
 rfl
theorem ZqF{fr to:List ByteArray}{p:List Zb}(hd:fr.Pairwise fun a b=>a≠b)(hf:fr.length<=8)(ht:to.length<=8)(hp:PolFit fr.length p):PolOk (trF fr to p).1:=by
 unfold trF
 split
 .rename_i hm
  exact (Zcu hf hp hm).gen (Zdg hd ht)
 exact ZlY
theorem Zg0{fr to:List ByteArray}{p:List Zb}(hd:fr.Pairwise fun a b=>a≠b)(ht:to.length<=8)(h:SubOk (idxS fr to) p):PolFit to.length (trP fr to p):=by
 have hσ:=Zdg hd ht
 refine⟨h.gen hσ,(Zde ht).2 ⟨fun t hm i hi=>?_,fun t hm=>?_⟩⟩
 .obtain⟨y,hy,rfl⟩:=(Zem (h.inj hσ) h.pol.ord).1 hm
  show ¬ 0<sigM _ y.m i
  rw[ZkQ _ _ fun j _ hj=>?_]
  .decide
  obtain⟨v,_,h2⟩:=ZbD hj
  have:=(List.getElem?_eq_some_iff.1 h2).1
  omega
 obtain⟨y,hy,rfl⟩:=(Zem (h.inj hσ) h.pol.ord).1 hm
 have h1:=(Zmb hσ (h.mon y hy).nn).2
 have h2:=(h.mon y hy).deg
 show degM (sigM _ y.m)<=12
 omega
instance decEq3:DecidableEq Zc:=fun ⟨a1,a2⟩ ⟨b1,b2⟩=>decidable_of_iff (a1=b1/\a2=b2) (by simp)
instance decSys:DecidableEq Za:=fun ⟨a1,a2,a3,a4⟩ ⟨b1,b2,b3,b4⟩=>decidable_of_iff (a1=b1/\a2=b2/\a3=b3/\a4=b4) (by simp)
theorem ZmR{x y:Zc}(hx:PolOk x.p)(hy:PolOk y.p):(Zb3 x y).Ret (decide (x=y)):=by
 unfold Zb3
 by_cases hm:x.id=y.id
 .rw[if_pos hm]
  refine⟨_,Zkj hx hy,?_⟩
  refine decide_eq_decide.2 ⟨fun k=>?_,fun k=>by rw[k]⟩
  cases x; cases y
  simp only at hm k
  rw[hm,k]
 rw[if_neg hm]
 exact (decide_eq_false fun k=>hm (by rw[k])).symm
theorem Zhs{p q:List Zc}(hl:p.length<=100)(hp:∀ x ∈ p,PolOk x.p)(hq:∀ x ∈ q,PolOk x.p):(Zo p q).Ret (decide (p=q)):=by
 unfold Zo
 by_cases hlen:p.length=q.length
 .rw[if_neg (fun k=>k (by omega))]
  refine Cq.Zm p.length (fun k s=>s=(k:Int)/\p.take k=q.take k) (fun k s hk hs=>?_) (fun s hs=>?_) ⟨rfl,rfl⟩
  .obtain⟨rfl,he⟩:=hs
   have hk2:k<q.length:=by omega
   rw[Cq.Zd,if_pos (by omega)]
   refine⟨p[k],idxN hk,q[k],idxN hk2,_,ZmR (hp _ (List.getElem_mem hk)) (hq _ (List.getElem_mem hk2)),?_⟩
   rw[Cq.Zd]
   by_cases e:p[k]=q[k]
   .rw[decide_eq_true e,if_neg (by decide)]
    refine⟨wrapN (by omega),?_⟩
    rw[<- List.take_append_getElem hk,<- List.take_append_getElem hk2,he,e]
   rw[decide_eq_false e,if_pos (by decide)]
   show _=_
   refine (decide_eq_false fun k'=>e ?_).symm
   simp only[k']
  obtain⟨rfl,he⟩:=hs
  rw[Cq.Zd,if_neg (by omega)]
  show _=_
  refine (decide_eq_true ?_).symm
  rw[List.take_length,hlen,List.take_length] at he
  exact he
 rw[if_pos (fun k=>hlen (by omega))]
 exact (decide_eq_false fun k=>hlen (by rw[k])).symm
theorem Zfe{a b:Za}(ha:SysPol a)(hb:SysPol b):(Zbe a b).Ret (decide (a=b)):=by
 unfold Zbe
 rw[Cq.Ret,Cq.Zd]
 by_cases hn:a.next=b.next
 .rw[if_pos hn]
  refine⟨_,Zkh ha.v,?_⟩
  by_cases hv:a.vars=b.vars
  .rw[decide_eq_true hv]
   refine⟨_,Zhs ha.e.1 ha.e.2 hb.e.2,?_⟩
   by_cases he:a.eqs=b.eqs
   .rw[decide_eq_true he]
    refine⟨_,Zhs ha.n.1 ha.n.2 hb.n.2,?_⟩
    refine decide_eq_decide.2 ⟨fun k=>?_,fun k=>by rw[k]⟩
    cases a; cases b
    simp only at hn hv he k
    rw[hn,hv,he,k]
   rw[decide_eq_false he]
   exact (decide_eq_false fun k=>he (by rw[k])).symm
  rw[decide_eq_false hv]
  exact (decide_eq_false fun k=>hv (by rw[k])).symm
 rw[if_neg hn]
 exact (decide_eq_false fun k=>hn (by rw[k])).symm
def entL(neq:Bool)(l:List Zc):List (Int×Zi):=l.map fun q=>(q.id,⟨q.p,neq⟩)
def entF(s:Za):List (Int×Zi):=entL false s.eqs++entL true s.neqs
theorem Zkw{neq:Bool}{l:List Zc}{k:Nat}(hk:k<l.length):entL neq (l.take (k+1))=entL neq (l.take k)++[(l[k].id,⟨l[k].p,neq⟩)]:=by
 rw[<- List.take_append_getElem hk,entL,List.map_append]; rfl
theorem ZeF{id:Int}(h:0<=id/\id<=1000000):(Lit.int i64 id).wf=true:=by
 simp only[Lit.wf,Bool.and_eq_true,decide_eq_true_eq]
 exact⟨Int.le_trans (by decide) h.1,Int.le_trans h.2 (by decide)⟩
theorem Zcb{s:Za}(h:Good s):(Zai s).Ret (entF s):=by
 have l1:=h.eqs.len
 have l2:=h.neqs.len
 have hn:=h.next
 show (Cq.next _ _).wp _
 refine Cq.Zm s.eqs.length (fun k r=>r=((k:Int),entL false (s.eqs.take k))) (fun k r hk hs=>?_) (fun r hs=>?_) rfl
 .subst hs
  refine Cq.wp.yes (p:=(k:Int)<(s.eqs.length:Int)) (by omega) ?_
  have hi:=h.eqs.ids _ (List.getElem_mem hk)
  have hnew:∀ q ∈ entL false (s.eqs.take k),q.1≠s.eqs[k].id:=fun q hq e=>by
   obtain⟨y,hy,rfl⟩:=List.mem_map.1 hq
   exact Zdf h.eqs.inc hk (List.mem_map.2 ⟨y,hy,e⟩)
  refine⟨s.eqs[k],idxN hk,⟨ZeF (by omega),?_⟩,?_⟩
  .rw[ZaP hnew]; simp[entL,small]; omega
  show _=_
  rw[ZaP hnew,wrapN (by omega),Zkw hk]
 subst hs
 show (if (s.eqs.length:Int)<(s.eqs.length:Int) then _ else _:Cq _).wp _
 rw[Cq.Zd,if_neg (by omega),List.take_length]
 show (Za1 s (entL false s.eqs)).wp _
 show (Cq.next _ _).wp _
 refine Cq.Zm s.neqs.length (fun k r=>r=((k:Int),entL false s.eqs++entL true (s.neqs.take k))) (fun k r hk hs=>?_) (fun r hs=>?_) (by simp[entL])
 .subst hs
  refine Cq.wp.yes (p:=(k:Int)<(s.neqs.length:Int)) (by omega) ?_
  have hi:=h.neqs.ids _ (List.getElem_mem hk)
  have hnew:∀ q ∈ entL false s.eqs++entL true (s.neqs.take k),q.1≠s.neqs[k].id:=fun q hq e=>by
   rcases List.mem_append.1 hq with hq|hq
   .obtain⟨y,hy,rfl⟩:=List.mem_map.1 hq
    exact h.apart y hy _ (List.getElem_mem hk) e
   obtain⟨y,hy,rfl⟩:=List.mem_map.1 hq
   exact Zdf h.neqs.inc hk (List.mem_map.2 ⟨y,hy,e⟩)
  refine⟨s.neqs[k],idxN hk,⟨ZeF (by omega),?_⟩,?_⟩
  .rw[ZaP hnew]; simp[entL,small]; omega
  show _=_
  rw[ZaP hnew,wrapN (by omega),Zkw hk,List.append_assoc]
 subst hs
 show (if (s.neqs.length:Int)<(s.neqs.length:Int) then _ else _:Cq _).wp _
 rw[Cq.Zd,if_neg (by omega),List.take_length]
 rfl
end Go.EL

namespace Go.EL
open Go.IntKind (i8 i16 i32 i64 u8 u16 u32 u64)
open Go Go.RowKit
theorem Zh7{K V:Type}[DecidableEq K](D:List (K×V))(k:K)(x:V):(mput D k x).length<=D.length+1:=by
 induction D with
 | nil=>simp[mput]
 | cons p D ih=>simp only[mput]; split <;> simp <;> omega
theorem Zhg{K V:Type}[DecidableEq K](D:List (K×V))(k:K)(x:V)(y:K):y ∈ (mput D k x).map (·.1)↔y=k\/y ∈ D.map (·.1):=by
 induction D with
 | nil=>simp[mput]
 | cons p D ih=>
  simp only[mput]
  split
  .rename_i h
   simp only[List.map_cons,List.mem_cons,h]
   constructor
   .rintro (h|h); exact .inl h; exact .inr (.inr h)
   rintro (h|h|h); exact .inl h; exact .inl h; exact .inr h
  simp only[List.map_cons,List.mem_cons,ih]
  constructor
  .rintro (h|h|h); exact .inr (.inl h); exact .inl h; exact .inr (.inr h)
  rintro (h|h|h); exact .inr (.inl h); exact .inl h; exact .inr (.inr h)
theorem Zjt{K V:Type}[DecidableEq K](D:List (K×V))(k:K)(x:V)(h:(D.map (·.1)).Nodup):((mput D k x).map (·.1)).Nodup:=by
 induction D with
 | nil=>simp[mput]
 | cons p D ih=>
  simp only[List.map_cons,List.nodup_cons] at h
  simp only[mput]
  split
  .rename_i e
   simp only[List.map_cons,List.nodup_cons]
   rw[<- e]; exact h
  rename_i e
  simp only[List.map_cons,List.nodup_cons]
  exact⟨fun hm=>((Zhg D k x p.1).1 hm).elim e h.1,ih h.2⟩
theorem Zpq{K V:Type}[DecidableEq K]{D:List (K×V)}{k:K}(h:k ∈ D.map (·.1)):∃ x,mget D k=some x/\(k,x) ∈ D:=by
 induction D with
 | nil=>simp at h
 | cons p D ih=>
  simp only[mget]
  by_cases e:p.1=k
  .rw[if_pos e]; exact⟨p.2,rfl,by rw[<- e]; simp⟩
  rw[if_neg e]
  simp only[List.map_cons,List.mem_cons] at h
  rcases h with h|h
  .exact absurd h.symm e
  obtain⟨x,h1,h2⟩:=ih h
  exact⟨x,h1,by simp[h2]⟩
def insI(x:Int):List Int->List Int
 | []=>[x]
 | y::l=>if x<y then x::y::l else if x=y then y::l else y::insI x l
def uniI(l:List Int):List Int:=l.foldr insI []
theorem Ziy(x z:Int):∀ l:List Int,z ∈ insI x l↔z=x\/z ∈ l
 | []=>by simp[insI]
 | y::l=>by
  unfold insI
  split
  .simp
  split
  .rename_i e; subst e; simp
  simp only[List.mem_cons,Ziy x z l]
  exact⟨fun h=>by rcases h with h|h|h <;> simp[h],fun h=>by rcases h with h|h|h <;> simp[h]⟩
theorem ZlP(x:Int):∀ l:List Int,l.Pairwise (· < ·)->(insI x l).Pairwise (· < ·)
 | [],_=>by simp[insI]
 | y::l,h=>by
  obtain⟨h1,h2⟩:=List.pairwise_cons.1 h
  unfold insI
  split
  .rename_i hx
   refine List.pairwise_cons.2 ⟨fun z hz=>?_,h⟩
   rcases List.mem_cons.1 hz with rfl|hz
   .exact hx
   have:=h1 z hz; omega
  split
  .exact h
  refine List.pairwise_cons.2 ⟨fun z hz=>?_,ZlP x l h2⟩
  rcases (Ziy x z l).1 hz with rfl|hz
  .omega
  exact h1 z hz
theorem ZbR{z:Int}:∀ {l:List Int},z ∈ uniI l↔z ∈ l
 | []=>Iff.rfl
 | x::l=>by
  show z ∈ insI x (uniI l)↔_
  rw[Ziy,ZbR,List.mem_cons]
theorem Zcx:∀ l:List Int,(uniI l).Pairwise (· < ·)
 | []=>List.Pairwise.nil
 | x::l=>ZlP x _ (Zcx l)
theorem ZpM(l:List Int):(srtI l).Pairwise (·<=·):=by
 have:=List.pairwise_mergeSort (le:=fun x y:Int=>decide (x<=y)) (fun a b c h1 h2=>by simp only[decide_eq_true_eq] at *; omega) (fun a b=>by simp only[Bool.or_eq_true,decide_eq_true_eq]; omega) l
 exact this.imp fun h=>of_decide_eq_true h
theorem Zmd{ks l:List Int}(hn:ks.Nodup)(hm:∀ k,k ∈ ks↔k ∈ l):srtI ks=uniI l:=by
 refine List.Perm.eq_of_pairwise (le:=fun x y:Int=>x<=y) (fun a b _ _ h1 h2=>by omega) (ZpM ks) ((Zcx l).imp fun h=>Int.le_of_lt h) ?_
 refine (List.mergeSort_perm ks _).trans ((List.perm_ext_iff_of_nodup hn ((Zcx l).imp fun h e=>by omega)).2 fun k=>?_)
 rw[hm,ZbR]
theorem Zhu{l:List Int}(h:l.length<=1000):(ZV l).Ret (srtI l):=⟨by omega,rfl⟩
def KeyOk(D:List (Int×Zi)):Prop:=∀ k ∈ D.map (·.1),1<=k/\k<=1000000
theorem Zim{dst src:List (Int×Zi)}(hd:(dst.map (·.1)).Nodup)(hs:KeyOk src)(hl:dst.length+src.length<=1000){p:List (Int×Zi)->Prop}
  (h:∀ r:List (Int×Zi),(r.map (·.1)).Nodup->(∀ k,k ∈ r.map (·.1)↔k ∈ dst.map (·.1)\/k ∈ src.map (·.1))->r.length<=dst.length+src.length->p r):(Zq dst src).wp p:=by
 show (Cq.next _ _).wp _
 refine Cq.Zf2 (fun s:List (Int×Zi)×List (Int×Zi)=>(s.1.map (·.1)).Nodup/\(∀ k,(k ∈ s.1.map (·.1)\/k ∈ s.2.map (·.1))↔(k ∈ dst.map (·.1)\/k ∈ src.map (·.1)))/\s.1.length+s.2.length<=dst.length+src.length/\KeyOk s.2) (fun s=>s.2.length) (fun s hI=>?_) (dst,src) ⟨hd,fun k=>Iff.rfl,Nat.le_refl _,hs⟩
 obtain⟨mp,R⟩:=s
 obtain⟨h1,h2,h3,h4⟩:=hI
 simp only at h1 h2 h3 h4
 refine⟨fun hR=>?_,fun R1 q R2 hR=>?_⟩
 .subst hR
  refine h mp h1 (fun k=>?_) (by simp only[List.length_nil] at h3; omega)
  rw[<- h2 k]; simp
 subst hR
 have hq:=h4 q.1 (by simp)
 have hlen:=Zh7 mp q.1 q.2
 simp only[List.length_append,List.length_cons] at h3
 refine⟨⟨ZeF (by omega),by simp only[small]; omega⟩,⟨Zjt _ _ _ h1,fun k=>?_,?_,fun k hk=>h4 k ?_⟩,?_⟩
 .rw[<- h2 k]
  show (k ∈ (mput mp q.1 q.2).map (·.1)\/k ∈ (R1++R2).map (·.1))↔_
  rw[Zhg]
  simp only[List.map_append,List.map_cons,List.mem_append,List.mem_cons]
  exact⟨fun h=>by rcases h with (h|h)|h|h <;> simp[h],fun h=>by rcases h with h|h|h|h <;> simp[h]⟩
 .show (mput mp q.1 q.2).length+(R1++R2).length<=_
  simp only[List.length_append]; omega
 .have hk:k ∈ (R1++R2).map (·.1):=hk
  simp only[List.map_append,List.map_cons,List.mem_append,List.mem_cons] at hk ⊢
  rcases hk with hk|hk <;> simp[hk]
 show (R1++R2).length<(R1++q::R2).length
 simp
def idsS(s:Za):List Int:=s.eqs.map (·.id)++s.neqs.map (·.id)
theorem Z3(s:Za):(entF s).map (·.1)=idsS s:=by
 unfold entF idsS entL
 rw[List.map_append,List.map_map,List.map_map]
 rfl
theorem Zkz{s:Za}(h:Good s):(idsS s).Nodup:=by
 refine List.nodup_append.2 ⟨?_,?_,?_⟩
 .exact List.pairwise_map.2 (h.eqs.inc.imp fun h e=>by omega)
 .exact List.pairwise_map.2 (h.neqs.inc.imp fun h e=>by omega)
 intro a ha b hb e
 obtain⟨x,hx,rfl⟩:=List.mem_map.1 ha
 obtain⟨y,hy,rfl⟩:=List.mem_map.1 hb
 exact h.apart x hx y hy e
theorem Za8{s:Za}(h:Good s){k:Int}(hk:k ∈ idsS s):1<=k/\k<s.next:=by
 rcases List.mem_append.1 hk with hk|hk
 .obtain⟨x,hx,rfl⟩:=List.mem_map.1 hk
  exact h.eqs.ids x hx
 obtain⟨x,hx,rfl⟩:=List.mem_map.1 hk
 exact h.neqs.ids x hx
theorem Zbb{s:Za}(h:Good s):(idsS s).length<=24:=by
 have:=h.eqs.len
 have:=h.neqs.len
 unfold idsS
 rw[List.length_append,List.length_map,List.length_map]; omega
theorem ZjX{s:Za}(h:Good s):KeyOk (entF s):=fun k hk=>by
 rw[Z3] at hk
 have:=Za8 h hk
 have:=h.next
 omega
theorem Zin{s:Za}(h:Good s):(entF s).length<=24:=by
 have:=Zbb h
 rw[<- Z3,List.length_map] at this; exact this
def entO(s:Za)(id:Int):Option Zi:=mget (entF s) id
theorem ZfX{s:Za}{id:Int}{u:Zi}(h:entO s id=some u):(id,u) ∈ entF s:=by
 unfold entO at h
 have:∀ {D:List (Int×Zi)},mget D id=some u->(id,u) ∈ D:=by
  intro D
  induction D with
  | nil=>intro h; cases h
  | cons p D ih=>
   intro h
   simp only[mget] at h
   split at h
   .rename_i e
    cases h
    rw[<- e]; simp
   exact List.mem_cons_of_mem _ (ih h)
 exact this h
theorem ZbB{s:Za}(hg:Good s){id:Int}{u:Zi}(h:entO s id=some u):PolFit s.vars.length u.p:=by
 have:=ZfX h
 rcases List.mem_append.1 this with h|h
 .obtain⟨q,hq,e⟩:=List.mem_map.1 h
  cases e
  exact hg.eqs.pol q hq
 obtain⟨q,hq,e⟩:=List.mem_map.1 h
 cases e
 exact hg.neqs.pol q hq
theorem Zkx{s:Za}{id:Int}(h:id ∈ idsS s):∃ u,entO s id=some u:=by
 obtain⟨u,h1,_⟩:=Zpq (D:=entF s) (k:=id) (by rw[Z3]; exact h)
 exact⟨u,h1⟩
theorem Zdx{s:Za}{id:Int}(h:id ∉ idsS s):entO s id=none:=by
 refine Zdn fun p hp e=>h ?_
 rw[<- Z3]
 exact List.mem_map.2 ⟨p,hp,e⟩
def insT(x:List UInt8):List (List UInt8)->List (List UInt8)
 | []=>[x]
 | y::l=>if x<=y then (if x=y then y::l else x::y::l) else y::insT x l
def uniS(l:List ByteArray):List ByteArray:=((l.map fun s=>s.data.toList).foldr insT []).map fun u=>⟨u.toArray⟩
theorem ZkC(a b:List UInt8):a<=b\/b<=a:=List.le_total a b
theorem ZkD{a b c:List UInt8}(h1:a<=b)(h2:b<=c):a<=c:=List.le_trans h1 h2
theorem ZlS{a b:List UInt8}(h1:a<=b)(h2:b<=a):a=b:=List.le_antisymm h1 h2
theorem Ziz(x z:List UInt8):∀ l,z ∈ insT x l↔z=x\/z ∈ l
 | []=>by simp[insT]
 | y::l=>by
  unfold insT
  split
  .split
   .rename_i e; subst e; simp
   simp
  simp only[List.mem_cons,Ziz x z l]
  exact⟨fun h=>by rcases h with h|h|h <;> simp[h],fun h=>by rcases h with h|h|h <;> simp[h]⟩
abbrev RiseS(l:List (List UInt8)):Prop:=l.Pairwise fun a b=>a<=b/\a≠b
theorem ZlQ(x:List UInt8):∀ l,RiseS l->RiseS (insT x l)
 | [],_=>by simp[insT]
 | y::l,h=>by
  obtain⟨h1,h2⟩:=List.pairwise_cons.1 h
  unfold insT
  split
  .rename_i hx
   split
   .exact h
   rename_i hne
   refine List.pairwise_cons.2 ⟨fun z hz=>?_,h⟩
   rcases List.mem_cons.1 hz with rfl|hz
   .exact⟨hx,hne⟩
   have k:=h1 z hz
   refine⟨ZkD hx k.1,fun e=>hne ?_⟩
   subst e
   exact ZlS hx k.1
  rename_i hx
  have hyx:y<=x:=(ZkC x y).resolve_left hx
  refine List.pairwise_cons.2 ⟨fun z hz=>?_,ZlQ x l h2⟩
  rcases (Ziz x z l).1 hz with rfl|hz
  .exact⟨hyx,fun e=>hx (by rw[e]; exact List.le_refl _)⟩
  exact h1 z hz
theorem Zg2{z:List UInt8}:∀ {l:List (List UInt8)},z ∈ l.foldr insT []↔z ∈ l
 | []=>Iff.rfl
 | x::l=>by
  show z ∈ insT x (l.foldr insT [])↔_
  rw[Ziz,Zg2,List.mem_cons]
theorem Zg1:∀ l:List (List UInt8),RiseS (l.foldr insT [])
 | []=>List.Pairwise.nil
 | x::l=>ZlQ x _ (Zg1 l)
theorem bytes_inj{a b:ByteArray}(h:a.data.toList=b.data.toList):a=b:=by
 cases a; cases b
 simp only[ByteArray.mk.injEq]
 exact Array.ext' h
theorem Zme{ks l:List ByteArray}(hn:ks.Nodup)(hm:∀ k,k ∈ ks↔k ∈ l):srtS ks=uniS l:=by
 unfold srtS uniS
 congr 1
 refine List.Perm.eq_of_pairwise (le:=fun x y:List UInt8=>x<=y) (fun a b _ _ h1 h2=>ZlS h1 h2) ?_ ((Zg1 _).imp fun h=>h.1) ?_
 .have:=List.pairwise_mergeSort (le:=fun x y:List UInt8=>decide (x<=y)) (fun a b c h1 h2=>by simp only[decide_eq_true_eq] at *; exact ZkD h1 h2) (fun a b=>by simp only[Bool.or_eq_true,decide_eq_true_eq]; exact ZkC a b) (ks.map fun s=>s.data.toList)
  exact this.imp fun h=>of_decide_eq_true h
 refine (List.mergeSort_perm _ _).trans ((List.perm_ext_iff_of_nodup ?_ ((Zg1 _).imp fun h e=>h.2 e)).2 fun k=>?_)
 .exact List.pairwise_map.2 (hn.imp fun h e=>h (bytes_inj e))
 rw[Zg2,List.mem_map,List.mem_map]
 exact⟨fun ⟨x,h1,h2⟩=>⟨x,(hm x).1 h1,h2⟩,fun ⟨x,h1,h2⟩=>⟨x,(hm x).2 h1,h2⟩⟩
theorem ZpR{l:List ByteArray}:uniS l=[]↔l=[]:=by
 constructor
 .intro h
  cases l with
  | nil=>rfl
  | cons x l=>
   unfold uniS at h
   have h:=List.map_eq_nil_iff.1 h
   have:x.data.toList ∈ ((x::l).map fun s=>s.data.toList).foldr insT []:=Zg2.2 (by simp)
   rw[h] at this
   cases this
 intro h; subst h; rfl
theorem ZoH{l:List ByteArray}(h:l.length<=1000):(Z4 l).Ret (srtS l):=⟨by omega,rfl⟩
end Go.EL

namespace Go.EL
open Go.IntKind (i8 i16 i32 i64 u8 u16 u32 u64)
open Go Go.RowKit
theorem ZlN{l:List ByteArray}{v:ByteArray}:0<=idxI l v↔v ∈ l:=by
 constructor
 .intro h
  exact List.mem_of_getElem? (Zji (k:=(idxI l v).toNat) (by omega))
 intro h
 by_cases h0:0<=idxI l v
 .exact h0
 exact absurd h (Zjj (by omega))
def keepA(base b:List ByteArray)(x:ByteArray):Bool:=!decide (0<=idxI base x) || decide (0<=idxI b x)
def keepB(base a:List ByteArray)(x:ByteArray):Bool:=!decide (0<=idxI a x) && !decide (0<=idxI base x)
def variablesF(base a b:List ByteArray):List ByteArray:=if a=base then b else a.filter (keepA base b)++b.filter (keepB base a)
theorem Zle{base a b:List ByteArray}(h0:base.length<=4)(h1:a.length<=4)(h2:b.length<=4):(ZcU base a b).Ret (variablesF base a b):=by
 refine⟨_,Zkh (by omega),?_⟩
 rw[Cq.Zd]
 unfold variablesF
 by_cases e:a=base
 .rw[decide_eq_true e,if_pos rfl,if_pos e]; rfl
 rw[decide_eq_false e,if_neg (by decide),if_neg e]
 show (Cq.next _ _).wp _
 refine Cq.Zm a.length (fun k s=>s=((a.take k).filter (keepA base b),(k:Int))) (fun k s hk hs=>?_) (fun s hs=>?_) (by simp)
 .subst hs
  show (if (k:Int)<(a.length:Int) then _ else _:Cq _).wp _
  have hl:=List.length_filter_le (keepA base b) (a.take k)
  rw[List.length_take] at hl
  rw[Cq.Zd,if_pos (by omega)]
  refine⟨a[k],idxN hk,_,Zby (by omega) a[k],?_⟩
  by_cases hb:0<=idxI base a[k]
  .rw[decide_eq_true hb]
   refine⟨_,Zby (by omega) a[k],?_⟩
   rw[Cq.Zd]
   by_cases hc:0<=idxI b a[k]
   .have e1:keepA base b a[k]=true:=by unfold keepA; rw[decide_eq_true hb,decide_eq_true hc]; rfl
    rw[decide_eq_true hc,if_pos rfl]
    refine⟨by simp[small]; omega,?_⟩
    show _=_
    rw[wrapN (by omega),ZF hk,if_pos e1]
   have e1:keepA base b a[k]=false:=by unfold keepA; rw[decide_eq_true hb,decide_eq_false hc]; rfl
   rw[decide_eq_false hc,if_neg (by decide)]
   show _=_
   rw[wrapN (by omega),ZF hk,e1,if_neg (by decide),List.append_nil]
  have e1:keepA base b a[k]=true:=by unfold keepA; rw[decide_eq_false hb]; rfl
  rw[decide_eq_false hb]
  refine⟨by simp[small]; omega,?_⟩
  show _=_
  rw[wrapN (by omega),ZF hk,if_pos e1]
 subst hs
 show (if (a.length:Int)<(a.length:Int) then _ else _:Cq _).wp _
 rw[Cq.Zd,if_neg (by omega),List.take_length]
 show (ZaF base a b _).wp _
 show (Cq.next _ _).wp _
 refine Cq.Zm b.length (fun k s=>s=(a.filter (keepA base b)++(b.take k).filter (keepB base a),(k:Int))) (fun k s hk hs=>?_) (fun s hs=>?_) (by simp)
 .subst hs
  show (if (k:Int)<(b.length:Int) then _ else _:Cq _).wp _
  have hl:=List.length_filter_le (keepB base a) (b.take k)
  have hl2:=List.length_filter_le (keepA base b) a
  rw[List.length_take] at hl
  rw[Cq.Zd,if_pos (by omega)]
  refine⟨b[k],idxN hk,_,Zby (by omega) b[k],?_⟩
  by_cases hb:0<=idxI a b[k]
  .have e1:keepB base a b[k]=false:=by unfold keepB; rw[decide_eq_true hb]; rfl
   rw[decide_eq_true hb]
   show _=_
   rw[wrapN (by omega),ZF hk,e1,if_neg (by decide),List.append_nil]
  rw[decide_eq_false hb]
  refine⟨_,Zby (by omega) b[k],?_⟩
  rw[Cq.Zd]
  by_cases hc:0<=idxI base b[k]
  .have e1:keepB base a b[k]=false:=by unfold keepB; rw[decide_eq_false hb,decide_eq_true hc]; rfl
   rw[decide_eq_true hc,if_neg (by decide)]
   show _=_
   rw[wrapN (by omega),ZF hk,e1,if_neg (by decide),List.append_nil]
  have e1:keepB base a b[k]=true:=by unfold keepB; rw[decide_eq_false hb,decide_eq_false hc]; rfl
  rw[decide_eq_false hc,if_pos (by decide)]
  refine⟨by simp[small]; omega,?_⟩
  show _=_
  rw[wrapN (by omega),ZF hk,if_pos e1,List.append_assoc]
 subst hs
 show (if (b.length:Int)<(b.length:Int) then _ else _:Cq _).wp _
 rw[Cq.Zd,if_neg (by omega),List.take_length]
 rfl
theorem Zgt{base a b:List ByteArray}(h1:a.length<=4)(h2:b.length<=4):(variablesF base a b).length<=8:=by
 unfold variablesF
 split
 .omega
 have:=List.length_filter_le (keepA base b) a
 have:=List.length_filter_le (keepB base a) b
 rw[List.length_append]; omega
theorem ZfB{base a b:List ByteArray}(h1:a.Pairwise fun x y=>x≠y)(h2:b.Pairwise fun x y=>x≠y):(variablesF base a b).Pairwise fun x y=>x≠y:=by
 unfold variablesF
 split
 .exact h2
 refine List.pairwise_append.2 ⟨h1.sublist List.filter_sublist,h2.sublist List.filter_sublist,fun x hx y hy e=>?_⟩
 obtain⟨k1,k2⟩:=List.mem_filter.1 hy
 unfold keepB at k2
 simp only[Bool.and_eq_true,Bool.not_eq_true',decide_eq_false_iff_not] at k2
 subst e
 exact k2.1 (ZlN.2 (List.mem_filter.1 hx).1)
def likeF(s t:Za)(x:Int):Bool:=match entO s x,entO t x with
 | some u,some v=>decide (u.neq=v.neq) && ((trF s.vars t.vars u.p).2 && decide ((trF s.vars t.vars u.p).1=v.p))
 | none,none=>true
 | some _,none=>false
 | none,some _=>false
theorem ZiC{s t:Za}(hs:Good s)(ht:Good t){x:Int}(hx:1<=x/\x<=1000000):(Zaa s (entF s) t (entF t) x).Ret (likeF s t x):=by
 have l1:=hs.vars
 have l2:=ht.vars
 refine⟨ZeF (by omega),_,rfl,ZeF (by omega),_,rfl,?_⟩
 unfold likeF
 cases h1:entO s x with
 | none=>
  have e1:mget (entF s) x=none:=h1
  rw[e1,Cq.Zd,if_neg (by decide)]
  cases h2:entO t x with
  | none=>
   have e2:mget (entF t) x=none:=h2
   rw[e2]; rfl
  | some v=>
   have e2:mget (entF t) x=some v:=h2
   rw[e2]; rfl
 | some u=>
  have e1:mget (entF s) x=some u:=h1
  rw[e1,Cq.Zd,if_pos (show (some u).isSome=true from rfl)]
  cases h2:entO t x with
  | none=>
   have e2:mget (entF t) x=none:=h2
   rw[e2]; rfl
  | some v=>
   have e2:mget (entF t) x=some v:=h2
   rw[e2,Cq.Zd,if_neg (show ¬ (!(some v).isSome)=true from fun h=>nomatch h)]
   have hu:=ZbB hs h1
   have hv:=ZbB ht h2
   refine⟨_,Zgq hs.diff (by omega) (by omega) hu,?_⟩
   show (if u.neq=v.neq then (if (trF s.vars t.vars u.p).2=true then (Cq.bind (ZaG (trF s.vars t.vars u.p).1 v.p) fun yv2=>Cq.ret yv2) else (Cq.ret false)) else (Cq.ret false):Cq _).wp fun a=>a=(decide (u.neq=v.neq) && ((trF s.vars t.vars u.p).2 && decide ((trF s.vars t.vars u.p).1=v.p)))
   rw[Cq.Zd]
   by_cases hn:u.neq=v.neq
   .rw[if_pos hn,decide_eq_true hn,Cq.Zd]
    cases hb:(trF s.vars t.vars u.p).2 with
    | false=>rw[if_neg (by decide)]; rfl
    | true=>
     rw[if_pos rfl]
     refine⟨_,Zkj (ZqF hs.diff (by omega) (by omega) hu) hv.1,?_⟩
     rw[Bool.true_and,Bool.true_and]
     rfl
   rw[if_neg hn,decide_eq_false hn]; rfl
def pickO(s:Za)(x:Int):List Zg:=match entO s x with
 | some u=>[⟨x,u,s⟩]
 | none=>[]
def stepO(a0 a1 a2:Za)(x:Int):List Zg×List Zk:=
 if likeF a1 a0 x=true then (pickO a2 x,[]) else if likeF a2 a0 x=true then (pickO a1 x,[]) else if likeF a1 a2 x=true then (pickO a1 x,[]) else ([],[⟨x,ByteArray.empty⟩])
def oldTo(a0 a1 a2:Za):List Int->List Zg×List Zk
 | []=>([],[])
 | x::l=>if a0.next<=x then ([],[]) else ((stepO a0 a1 a2 x).1++(oldTo a0 a1 a2 l).1,(stepO a0 a1 a2 x).2++(oldTo a0 a1 a2 l).2)
def oldF(a0 a1 a2:Za):List Zg×List Zk:=oldTo a0 a1 a2 (uniI (idsS a0++(idsS a1++idsS a2)))
theorem ZdD(s:Za)(x:Int):(pickO s x).length<=1:=by unfold pickO; split <;> simp
theorem ZkR(a0 a1 a2:Za)(x:Int):(stepO a0 a1 a2 x).1.length<=1/\(stepO a0 a1 a2 x).2.length<=1:=by
 have h1:=ZdD a1 x
 have h2:=ZdD a2 x
 unfold stepO
 split
 .exact⟨h2,by simp⟩
 split
 .exact⟨h1,by simp⟩
 split
 .exact⟨h1,by simp⟩
 exact⟨by simp,by simp⟩
theorem ZkL(a0 a1 a2:Za):∀ l,(oldTo a0 a1 a2 l).1.length<=l.length/\(oldTo a0 a1 a2 l).2.length<=l.length
 | []=>⟨Nat.le_refl 0,Nat.le_refl 0⟩
 | x::l=>by
  have h1:=ZkL a0 a1 a2 l
  have h2:=ZkR a0 a1 a2 x
  unfold oldTo
  split
  .exact⟨by simp,by simp⟩
  simp only[List.length_append,List.length_cons]; omega
theorem ZiO{s:Za}{x:Int}(hx:1<=x/\x<=1000000){P:List Zg}{C:List Zk}{k:Nat}(hP:P.length<=1000){ρ:Type}{p:(List Zg×List Zk×Int)⊕ρ->Prop}(h:p (.inl (P++pickO s x,C,i64.wrap ((k:Int)+1)))):
  (Cq.chk ((Lit.int i64 x).wf=true) (Cq.bind (Cq.ret ((mget (entF s) x).getD (Zi.mk [] false))) fun u1=>if ((mget (entF s) x).isSome)=true then (Cq.chk ((P++[(Zg.mk x u1 s)]).length<=small) (Cq.ret (.inl ((P++[(Zg.mk x u1 s)]),C,i64.wrap ((k:Int)+1))))) else (Cq.ret (.inl (P,C,i64.wrap ((k:Int)+1)))))).wp p:=by
 refine⟨ZeF (by omega),_,rfl,?_⟩
 unfold pickO entO at h
 cases h1:mget (entF s) x with
 | none=>
  rw[h1] at h
  rw[Cq.Zd,if_neg (by decide)]
  rw[List.append_nil] at h
  exact h
 | some u=>
  rw[h1] at h
  rw[Cq.Zd,if_pos (show (some u).isSome=true from rfl)]
  exact⟨by simp[small]; omega,h⟩
theorem Zeu{l:List Int}:(uniI l).length<=l.length:=by
 have hi:∀ (x:Int) (m:List Int),(insI x m).length<=m.length+1:=by
  intro x m
  induction m with
  | nil=>simp[insI]
  | cons y m ih=>unfold insI; split <;> (try split) <;> simp only[List.length_cons] <;> omega
 induction l with
 | nil=>simp[uniI]
 | cons y m ih=>
  have:=hi y (uniI m)
  show (insI y (uniI m)).length<=_
  simp only[List.length_cons]; omega
theorem Zka{a0 a1 a2:Za}(h0:Good a0)(h1:Good a1)(h2:Good a2):(Zco a0 a1 a2).Ret (oldF a0 a1 a2):=by
 have n0:=Zin h0
 have n1:=Zin h1
 have n2:=Zin h2
 refine⟨_,Zcb h0,_,Zcb h1,_,Zcb h2,?_⟩
 refine Zim (by simp) (ZjX h0) (by simp; omega) fun r1 p1 q1 g1=>?_
 simp only[List.length_nil,Nat.zero_add] at g1
 refine Zim p1 (ZjX h1) (by omega) fun r2 p2 q2 g2=>?_
 refine Zim p2 (ZjX h2) (by omega) fun r3 p3 q3 g3=>?_
 intro ks hks
 have hkl:=hks.length_eq
 rw[List.length_map] at hkl
 refine⟨_,Zhu (by omega),?_⟩
 have hmem:∀ k,k ∈ ks↔k ∈ idsS a0++(idsS a1++idsS a2):=fun k=>by
  rw[hks.mem_iff,q3,q2,q1,Z3,Z3,Z3]
  simp only[List.map_nil,List.not_mem_nil,false_or,List.mem_append]
  exact or_assoc
 rw[Zmd (hks.nodup_iff.2 p3) hmem]
 generalize hU:uniI (idsS a0++(idsS a1++idsS a2))=ks1
 have hbd:∀ x ∈ ks1,1<=x/\x<=1000000:=fun x hx=>by
  rw[<- hU,ZbR] at hx
  have t0:=h0.next
  have t1:=h1.next
  have t2:=h2.next
  rcases List.mem_append.1 hx with hx|hx
  .have:=Za8 h0 hx; omega
  rcases List.mem_append.1 hx with hx|hx
  .have:=Za8 h1 hx; omega
  have:=Za8 h2 hx; omega
 have hkl1:ks1.length<=72:=by
  rw[<- hU]
  refine Nat.le_trans Zeu ?_
  have:=Zbb h0
  have:=Zbb h1
  have:=Zbb h2
  simp only[List.length_append]; omega
 have hF:oldF a0 a1 a2=oldTo a0 a1 a2 ks1:=by unfold oldF; rw[hU]
 rw[hF]
 show (Cq.next _ _).wp _
 refine Cq.Zm ks1.length (fun k s=>∃ P C,s=(P,C,(k:Int))/\P.length<=k/\C.length<=k/\P++(oldTo a0 a1 a2 (ks1.drop k)).1=(oldTo a0 a1 a2 ks1).1/\C++(oldTo a0 a1 a2 (ks1.drop k)).2=(oldTo a0 a1 a2 ks1).2) (fun k s hk hs=>?_) (fun s hs=>?_) ⟨[],[],rfl,Nat.le_refl 0,Nat.le_refl 0,rfl,rfl⟩
 .obtain⟨P,C,rfl,hP,hC,eP,eC⟩:=hs
  refine Cq.wp.yes (p:=(k:Int)<(ks1.length:Int)) (by omega) ?_
  refine⟨ks1[k],idxN hk,?_⟩
  have hx:=hbd _ (List.getElem_mem hk)
  rw[Cq.Zd]
  rw[List.drop_eq_getElem_cons hk,oldTo] at eP eC
  by_cases hn:a0.next<=ks1[k]
  .rw[if_pos hn] at eP eC ⊢
   rw[List.append_nil] at eP eC
   show (P,C)=_
   rw[eP,eC]
  rw[if_neg hn] at eP eC ⊢
  refine⟨_,ZiC h1 h0 hx,?_⟩
  rw[Cq.Zd]
  by_cases c1:likeF a1 a0 ks1[k]=true
  .have e:stepO a0 a1 a2 ks1[k]=(pickO a2 ks1[k],[]):=by unfold stepO; rw[if_pos c1]
   rw[e] at eP eC
   rw[if_pos c1]
   refine ZiO hx (by omega) ⟨_,_,by rw[wrapN (by omega)],?_,by omega,by rw[List.append_assoc]; exact eP,eC⟩
   rw[List.length_append]; have:=ZdD a2 ks1[k]; omega
  rw[if_neg c1]
  refine⟨_,ZiC h2 h0 hx,?_⟩
  rw[Cq.Zd]
  by_cases c2:likeF a2 a0 ks1[k]=true
  .have e:stepO a0 a1 a2 ks1[k]=(pickO a1 ks1[k],[]):=by unfold stepO; rw[if_neg c1,if_pos c2]
   rw[e] at eP eC
   rw[if_pos c2,Cq.Zd,if_pos c2]
   refine ZiO hx (by omega) ⟨_,_,by rw[wrapN (by omega)],?_,by omega,by rw[List.append_assoc]; exact eP,eC⟩
   rw[List.length_append]; have:=ZdD a1 ks1[k]; omega
  rw[if_neg c2]
  refine⟨_,ZiC h1 h2 hx,?_⟩
  rw[Cq.Zd]
  by_cases c3:likeF a1 a2 ks1[k]=true
  .have e:stepO a0 a1 a2 ks1[k]=(pickO a1 ks1[k],[]):=by unfold stepO; rw[if_neg c1,if_neg c2,if_pos c3]
   rw[e] at eP eC
   rw[if_pos c3]
   refine ZiO hx (by omega) ⟨_,_,by rw[wrapN (by omega)],?_,by omega,by rw[List.append_assoc]; exact eP,eC⟩
   rw[List.length_append]; have:=ZdD a1 ks1[k]; omega
  have e:stepO a0 a1 a2 ks1[k]=([],[⟨ks1[k],ByteArray.empty⟩]):=by unfold stepO; rw[if_neg c1,if_neg c2,if_neg c3]
  rw[e] at eP eC
  rw[if_neg c3]
  refine⟨by simp[small]; omega,_,_,by rw[wrapN (by omega)],by omega,by simp; omega,eP,by rw[List.append_assoc]; exact eC⟩
 obtain⟨P,C,rfl,hP,hC,eP,eC⟩:=hs
 refine Cq.wp.no (p:=(ks1.length:Int)<(ks1.length:Int)) (by omega) ?_
 rw[List.drop_length] at eP eC
 simp only[oldTo,List.append_nil] at eP eC
 show (P,C)=_
 rw[eP,eC]
end Go.EL

namespace Go.EL
open Go.IntKind (i8 i16 i32 i64 u8 u16 u32 u64)
open Go Go.RowKit
def pickD(s:Za)(n x:Int):Zg:=⟨n,(entO s x).getD ⟨[],false⟩,s⟩
def numP(s:Za):Int->List Int->List Zg
 | _,[]=>[]
 | n,x::l=>pickD s n x::numP s (n+1) l
theorem ZkK(s:Za)(x:Int):∀ (l:List Int) (n:Int),numP s n (l++[x])=numP s n l++[pickD s (n+(l.length:Int)) x]
 | [],n=>by simp[numP]
 | y::l,n=>by
  simp only[List.cons_append,numP,ZkK s x l,List.length_cons]
  rw[show n+1+(l.length:Int)=n+((l.length+1:Nat):Int) by omega]
theorem ZiH(s:Za):∀ (l:List Int) (n:Int),(numP s n l).length=l.length
 | [],_=>rfl
 | _::l,n=>by simp only[numP,List.length_cons,ZiH s l]
def newL(a0 a:Za):List Int:=(uniI (idsS a)).filter fun x=>decide (a0.next<=x)
def freshN(a0 a1:Za):Int:=if a1.next<a0.next then a0.next else a1.next
def newF(a0 a1 a2:Za):List Zg×Int:=((newL a0 a1).map (fun x=>pickD a1 x x)++numP a2 (freshN a0 a1) (newL a0 a2),freshN a0 a1+((newL a0 a2).length:Int))
theorem ZcL{l:List Int}{k:Nat}(hk:k<l.length)(p:Int->Bool):(l.take (k+1)).filter p=(l.take k).filter p++(if p l[k]=true then [l[k]] else []):=ZF hk p
theorem ZiG{a0 a:Za}(h:Good a):(newL a0 a).length<=24:=Nat.le_trans (List.length_filter_le _ _) (Nat.le_trans Zeu (Zbb h))
theorem ZkB{a:Za}(h:Good a){ks:List Int}(hks:ks.Perm ((entF a).map (·.1))):srtI ks=uniI (idsS a):=by
 rw[Z3] at hks
 exact Zmd (hks.nodup_iff.2 (Zkz h)) fun k=>hks.mem_iff
theorem Zj9{a0 a1 a2:Za}(h0:Good a0)(h1:Good a1)(h2:Good a2):(Zcn a0 a1 a2).Ret (newF a0 a1 a2):=by
 have t0:=h0.next
 have t1:=h1.next
 have t2:=h2.next
 refine⟨_,Zcb h1,_,Zcb h2,fun ks hks=>?_⟩
 have hkl:=hks.length_eq
 rw[Z3] at hkl
 have i1:=Zbb h1
 have i2:=Zbb h2
 have hu1:=Zeu (l:=idsS a1)
 have hu2:=Zeu (l:=idsS a2)
 refine⟨_,Zhu (by rw[hks.length_eq,Z3]; omega),?_⟩
 rw[ZkB h1 hks]
 have hb1:∀ x ∈ uniI (idsS a1),1<=x/\x<=1000000:=fun x hx=>by have:=Za8 h1 (ZbR.1 hx); omega
 have hb2:∀ x ∈ uniI (idsS a2),1<=x/\x<=1000000:=fun x hx=>by have:=Za8 h2 (ZbR.1 hx); omega
 show (Cq.next _ _).wp _
 refine Cq.Zm (uniI (idsS a1)).length (fun k s=>s=((((uniI (idsS a1)).take k).filter fun x=>decide (a0.next<=x)).map (fun x=>pickD a1 x x),(k:Int))) (fun k s hk hs=>?_) (fun s hs=>?_) (by simp)
 .subst hs
  refine Cq.wp.yes (p:=(k:Int)<((uniI (idsS a1)).length:Int)) (by omega) ?_
  refine⟨(uniI (idsS a1))[k],idxN hk,?_⟩
  have hl:=List.length_filter_le (fun x=>decide (a0.next<=x)) ((uniI (idsS a1)).take k)
  rw[List.length_take] at hl
  rw[Cq.Zd]
  by_cases hn:a0.next<=(uniI (idsS a1))[k]
  .rw[if_pos hn]
   have hx:=hb1 _ (List.getElem_mem hk)
   refine⟨ZeF (by omega),_,rfl,by simp only[List.length_append,List.length_map,List.length_singleton,small]; omega,?_⟩
   show _=_
   rw[wrapN (by omega),ZcL hk,if_pos (decide_eq_true hn),List.map_append]
   rfl
  rw[if_neg hn]
  show _=_
  rw[wrapN (by omega),ZcL hk,decide_eq_false hn,if_neg (by decide),List.append_nil]
 subst hs
 show (if ((uniI (idsS a1)).length:Int)<((uniI (idsS a1)).length:Int) then _ else _:Cq _).wp _
 rw[Cq.Zd,if_neg (by omega),List.take_length]
 show (Zav a0 a1 a2 (entF a2) ((newL a0 a1).map fun x=>pickD a1 x x)).wp _
 intro ks2 hks2
 refine⟨_,Zhu (by rw[hks2.length_eq,Z3]; omega),?_⟩
 rw[ZkB h2 hks2]
 have hf:1<=freshN a0 a1/\freshN a0 a1<=1000000:=by unfold freshN; split <;> omega
 have hl1:=ZiG (a0:=a0) h1
 show (Cq.next _ _).wp _
 refine Cq.Zm (uniI (idsS a2)).length (fun k s=>s=((newL a0 a1).map (fun x=>pickD a1 x x)++numP a2 (freshN a0 a1) (((uniI (idsS a2)).take k).filter fun x=>decide (a0.next<=x)),freshN a0 a1+(((((uniI (idsS a2)).take k).filter fun x=>decide (a0.next<=x))).length:Int),(k:Int))) (fun k s hk hs=>?_) (fun s hs=>?_) (by simp[numP,freshN])
 .subst hs
  refine Cq.wp.yes (p:=(k:Int)<((uniI (idsS a2)).length:Int)) (by omega) ?_
  refine⟨(uniI (idsS a2))[k],idxN hk,?_⟩
  have hl:=List.length_filter_le (fun x=>decide (a0.next<=x)) ((uniI (idsS a2)).take k)
  rw[List.length_take] at hl
  rw[Cq.Zd]
  by_cases hn:a0.next<=(uniI (idsS a2))[k]
  .rw[if_pos hn]
   have hx:=hb2 _ (List.getElem_mem hk)
   refine⟨ZeF (by omega),_,rfl,by simp only[List.length_append,List.length_map,List.length_singleton,ZiH,small]; omega,?_⟩
   show _=_
   rw[wrapN (by omega),ZcL hk,if_pos (decide_eq_true hn),ZkK,wrap64 (by omega),List.append_assoc,List.length_append]
   refine congr (congrArg Prod.mk rfl) (congr (congrArg Prod.mk ?_) rfl)
   simp only[List.length_singleton]; omega
  rw[if_neg hn]
  show _=_
  rw[wrapN (by omega),ZcL hk,decide_eq_false hn,if_neg (by decide),List.append_nil]
 subst hs
 show (if ((uniI (idsS a2)).length:Int)<((uniI (idsS a2)).length:Int) then _ else _:Cq _).wp _
 rw[Cq.Zd,if_neg (by omega),List.take_length]
 rfl
structure PickOk (x:Zg):Prop where
 from':Good x.from'
 fit:PolFit x.from'.vars.length x.entry.p
theorem ZiM{s:Za}(h:Good s){x:Int}:∀ y ∈ pickO s x,PickOk y:=fun y hy=>by
 unfold pickO at hy
 cases h1:entO s x with
 | none=>rw[h1] at hy; cases hy
 | some u=>
  rw[h1] at hy
  rw[List.mem_singleton.1 hy]
  exact⟨h,ZbB h h1⟩
theorem Zqw{n:Nat}(h:n<=8):PolFit n []:=⟨ZlY,(Zde h).2 ⟨fun _ ht=>absurd ht List.not_mem_nil,fun _ ht=>absurd ht List.not_mem_nil⟩⟩
theorem Zl3{s:Za}(h:Good s)(n x:Int):PickOk (pickD s n x):=by
 have:=h.vars
 refine⟨h,?_⟩
 show PolFit s.vars.length ((entO s x).getD ⟨[],false⟩).p
 cases h1:entO s x with
 | none=>exact Zqw (by omega)
 | some u=>exact ZbB h h1
theorem Zdp{s:Za}{y:Zg}:∀ {l:List Int}{n:Int},y ∈ numP s n l->∃ m,∃ x ∈ l,n<=m/\m<n+(l.length:Int)/\y=pickD s m x
 | [],_,h=>by cases h
 | x::l,n,h=>by
  rcases List.mem_cons.1 h with h|h
  .exact⟨n,x,by simp,by omega,by simp only[List.length_cons]; omega,h⟩
  obtain⟨m,z,h1,h2,h3,h4⟩:=Zdp h
  exact⟨m,z,by simp[h1],by omega,by simp only[List.length_cons]; omega,h4⟩
theorem ZpN{a0 a1 a2:Za}(h1:Good a1)(h2:Good a2){x:Int}:∀ y ∈ (stepO a0 a1 a2 x).1,PickOk y:=by
 intro y hy
 unfold stepO at hy
 split at hy
 .exact ZiM h2 y hy
 split at hy
 .exact ZiM h1 y hy
 split at hy
 .exact ZiM h1 y hy
 cases hy
theorem ZiJ{a0 a1 a2:Za}(h1:Good a1)(h2:Good a2):∀ l,∀ y ∈ (oldTo a0 a1 a2 l).1,PickOk y
 | [],y,hy=>by cases hy
 | x::l,y,hy=>by
  unfold oldTo at hy
  split at hy
  .cases hy
  rcases List.mem_append.1 hy with hy|hy
  .exact ZpN h1 h2 y hy
  exact ZiJ h1 h2 l y hy
theorem Znc{a0 a1 a2:Za}(h1:Good a1)(h2:Good a2):∀ y ∈ (newF a0 a1 a2).1,PickOk y:=fun y hy=>by
 rcases List.mem_append.1 hy with hy|hy
 .obtain⟨x,_,rfl⟩:=List.mem_map.1 hy
  exact Zl3 h1 _ _
 obtain⟨m,x,_,_,_,rfl⟩:=Zdp hy
 exact Zl3 h2 _ _
def namesF(V:List ByteArray)(P:List Zg):List ByteArray:=P.flatMap fun x=>missP x.from'.vars V x.entry.p
def putE(V:List ByteArray)(x:Zg):Zc:=⟨x.id,(trF x.from'.vars V x.entry.p).1⟩
def eqsF(V:List ByteArray)(P:List Zg):List Zc:=(P.filter fun x=>!x.entry.neq).map (putE V)
def neqsF(V:List ByteArray)(P:List Zg):List Zc:=(P.filter fun x=>x.entry.neq).map (putE V)
def confF(a0 a1 a2:Za):List Zk:=(uniS (namesF (variablesF a0.vars a1.vars a2.vars) ((oldF a0 a1 a2).1++(newF a0 a1 a2).1))).map (fun n=>⟨0,n⟩)++(oldF a0 a1 a2).2
def mergeSys(a0 a1 a2:Za):Za:=⟨variablesF a0.vars a1.vars a2.vars,eqsF (variablesF a0.vars a1.vars a2.vars) ((oldF a0 a1 a2).1++(newF a0 a1 a2).1),neqsF (variablesF a0.vars a1.vars a2.vars) ((oldF a0 a1 a2).1++(newF a0 a1 a2).1),(newF a0 a1 a2).2⟩
def mergeG(a0 a1 a2:Za):Za×List Zk×Int:=
 if 0<(confF a0 a1 a2).length then (zeroS,confF a0 a1 a2,350)
 else if 4<(mergeSys a0 a1 a2).vars.length\/12<(mergeSys a0 a1 a2).eqs.length\/12<(mergeSys a0 a1 a2).neqs.length\/1000000<(mergeSys a0 a1 a2).next then (zeroS,[],2)
 else (mergeSys a0 a1 a2,[],0)
def mergeF(a0 a1 a2:Za):Za×List Zk×Int:=
 if a1=a0 then (a2,[],0) else if a2=a0 then (a1,[],0) else if a2=a1 then (a1,[],0) else mergeG a0 a1 a2
theorem ZcM{l:List Zg}{k:Nat}(hk:k<l.length)(p:Zg->Bool):(l.take (k+1)).filter p=(l.take k).filter p++(if p l[k]=true then [l[k]] else []):=ZF hk p
theorem ZnM{V:List ByteArray}{l:List Zg}{k:Nat}(hk:k<l.length):namesF V (l.take (k+1))=namesF V (l.take k)++missP l[k].from'.vars V l[k].entry.p:=by
 unfold namesF
 rw[<- List.take_append_getElem hk,List.flatMap_append]
 simp
theorem Zpx{a0 a1 a2:Za}(h0:Good a0)(h1:Good a1)(h2:Good a2):(oldF a0 a1 a2).1.length<=72/\(oldF a0 a1 a2).2.length<=72:=by
 have:=ZkL a0 a1 a2 (uniI (idsS a0++(idsS a1++idsS a2)))
 have hu:=Zeu (l:=idsS a0++(idsS a1++idsS a2))
 have:=Zbb h0
 have:=Zbb h1
 have:=Zbb h2
 simp only[List.length_append] at hu
 unfold oldF
 omega
theorem Zpv{a0 a1 a2:Za}(h1:Good a1)(h2:Good a2):(newF a0 a1 a2).1.length<=48:=by
 have:=ZiG (a0:=a0) h1
 have:=ZiG (a0:=a0) h2
 unfold newF
 simp only[List.length_append,List.length_map,ZiH]
 omega
structure NamesOk (mp:List (ByteArray×Bool)) (l:List ByteArray) (n:Nat):Prop where
 nd:(mp.map (·.1)).Nodup
 mem:∀ v,v ∈ mp.map (·.1)↔v ∈ l
 len:mp.length<=n
theorem NamesOk.put{mp:List (ByteArray×Bool)}{l:List ByteArray}{n:Nat}(h:NamesOk mp l n)(v:ByteArray):NamesOk (mput mp v true) (l++[v]) (n+1) where
 nd:=Zjt _ _ _ h.nd
 mem u:=by
  rw[Zhg,h.mem,List.mem_append,List.mem_singleton]
  exact or_comm
 len:=by have:=Zh7 mp v true; have:=h.len; omega
theorem ZnL{l:List ByteArray}(hl:l.length<=4)(hs:∀ v ∈ l,v.size<=12){mp:List (ByteArray×Bool)}{m:List ByteArray}{n:Nat}(h:NamesOk mp m n)(hn:n<=1000){p:List (ByteArray×Bool)->Prop}(hp:∀ r,NamesOk r (m++l) (n+4)->p r):(Zfv l (0,mp)).wp p:=by
 refine Cq.Zm l.length (fun k s=>s.1=(k:Int)/\NamesOk s.2 (m++l.take k) (n+k)) (fun k s hk hs2=>?_) (fun s hs2=>?_) ⟨rfl,by simpa using h⟩
 .obtain⟨i,r⟩:=s
  obtain⟨rfl,hr⟩:=hs2
  have hr:NamesOk r (m++l.take k) (n+k):=hr
  refine Cq.wp.yes (p:=(k:Int)<(l.length:Int)) (by omega) ?_
  have hv:=hs _ (List.getElem_mem hk)
  have hq:=hr.put l[k]
  have hq2:=hq.len
  refine⟨l[k],idxN hk,⟨by omega,by simp only[small]; omega⟩,wrapN (by omega),?_⟩
  rw[List.append_assoc,List.take_append_getElem hk] at hq
  exact hq
 obtain⟨i,r⟩:=s
 obtain⟨rfl,hr⟩:=hs2
 refine Cq.wp.no (p:=(l.length:Int)<(l.length:Int)) (by omega) ?_
 have hr:NamesOk r (m++l.take l.length) (n+l.length):=hr
 rw[List.take_length] at hr
 exact hp r ⟨hr.nd,hr.mem,by have:=hr.len; omega⟩
theorem Zlj{a0 a1 a2:Za}(h0:Good a0)(h1:Good a1)(h2:Good a2):(Zdm a0 a1 a2).Ret (mergeG a0 a1 a2):=by
 have v0:=h0.vars
 have v1:=h1.vars
 have v2:=h2.vars
 obtain⟨lo1,lo2⟩:=Zpx h0 h1 h2
 have ln:=Zpv (a0:=a0) h1 h2
 refine⟨_,Zle v0 v1 v2,_,Zka h0 h1 h2,_,Zj9 h0 h1 h2,?_⟩
 have hV:=Zgt (base:=a0.vars) v1 v2
 have hok:∀ y ∈ (oldF a0 a1 a2).1++(newF a0 a1 a2).1,PickOk y:=fun y hy=>by
  rcases List.mem_append.1 hy with hy|hy
  .exact ZiJ h1 h2 _ y hy
  exact Znc h1 h2 y hy
 unfold mergeG mergeSys confF
 generalize hgV:variablesF a0.vars a1.vars a2.vars=V at hV ⊢
 generalize hgO:oldF a0 a1 a2=O at lo1 lo2 hok ⊢
 generalize hgN:newF a0 a1 a2=N at ln hok ⊢
 have hPl:(O.1++N.1).length<=120:=by rw[List.length_append]; omega
 refine⟨by simp only[small]; omega,?_⟩
 generalize hP:O.1++N.1=P at hPl hok ⊢
 show (Cq.next _ _).wp _
 have el:∀ Q:List Zg,(eqsF V Q).length<=Q.length:=fun Q=>by unfold eqsF; rw[List.length_map]; exact List.length_filter_le _ _
 have nl:∀ Q:List Zg,(neqsF V Q).length<=Q.length:=fun Q=>by unfold neqsF; rw[List.length_map]; exact List.length_filter_le _ _
 refine Cq.Zm P.length (fun k s=>∃ mp,s=((k:Int),V,eqsF V (P.take k),neqsF V (P.take k),N.2,mp)/\NamesOk mp (namesF V (P.take k)) (4*k)) (fun k s hk hs=>?_) (fun s hs=>?_) ⟨[],by simp[eqsF,neqsF],⟨List.Pairwise.nil,fun v=>by simp[namesF],Nat.le_refl 0⟩⟩
 .obtain⟨mp,rfl,hmp⟩:=hs
  show (if (k:Int)<((O.1++N.1).length:Int) then _ else _:Cq _).wp _
  rw[hP,Cq.Zd,if_pos (by omega)]
  have hx:=hok _ (List.getElem_mem hk)
  have hxv:=hx.from'.vars
  have hml:=Zf4 P[k].from'.vars V P[k].entry.p P[k].from'.vars.length
  refine⟨P[k],idxN hk,_,Zh6 (by omega) (by omega) hx.fit.1.len,?_⟩
  refine ZnL (Nat.le_trans hml hxv) (fun v hv=>Zhh (hx.from'.name v (ZkG _ (Nat.le_refl _) hv))) hmp (by omega) fun r hr=>?_
  show (ZbZ V (k:Int) V (eqsF V (P.take k)) (neqsF V (P.take k)) N.2 P[k] r).wp _
  refine⟨_,Zgq hx.from'.diff (by omega) hV hx.fit,?_⟩
  have e1:=el (P.take k)
  have e2:=nl (P.take k)
  rw[List.length_take] at e1 e2
  have hr:NamesOk r (namesF V (P.take k)++missP P[k].from'.vars V P[k].entry.p) (4*k+4):=hr
  rw[<- ZnM hk] at hr
  have hr:NamesOk r (namesF V (P.take (k+1))) (4*(k+1)):=⟨hr.nd,hr.mem,hr.len⟩
  rw[Cq.Zd]
  by_cases hq:P[k].entry.neq=true
  .have f1:eqsF V (P.take (k+1))=eqsF V (P.take k):=by unfold eqsF; rw[ZcM hk,hq,if_neg (by decide),List.append_nil]
   have f2:neqsF V (P.take (k+1))=neqsF V (P.take k)++[putE V P[k]]:=by unfold neqsF; rw[ZcM hk,if_pos hq,List.map_append]; rfl
   rw[if_pos hq]
   refine⟨by simp only[List.length_append,List.length_singleton,small]; omega,r,?_,hr⟩
   rw[wrapN (by omega),f1,f2]
   rfl
  have hq:P[k].entry.neq=false:=(Bool.not_eq_true _).mp hq
  have f1:eqsF V (P.take (k+1))=eqsF V (P.take k)++[putE V P[k]]:=by unfold eqsF; rw[ZcM hk,hq,if_pos (by decide),List.map_append]; rfl
  have f2:neqsF V (P.take (k+1))=neqsF V (P.take k):=by unfold neqsF; rw[ZcM hk,hq,if_neg (by decide),List.append_nil]
  rw[hq,if_neg (by decide)]
  refine⟨by simp only[List.length_append,List.length_singleton,small]; omega,r,?_,hr⟩
  rw[wrapN (by omega),f1,f2]
  rfl
 obtain⟨mp,rfl,hmp⟩:=hs
 show (if (P.length:Int)<((O.1++N.1).length:Int) then _ else _:Cq _).wp _
 rw[hP,Cq.Zd,if_neg (by omega)]
 rw[List.take_length] at hmp ⊢
 show (ZbY V O N V (eqsF V P) (neqsF V P) N.2 mp).wp _
 intro ks hks
 have hkl:=hks.length_eq
 rw[List.length_map] at hkl
 have hml:=hmp.len
 refine⟨_,ZoH (by omega),?_⟩
 have hm:∀ v,v ∈ ks↔v ∈ namesF V P:=fun v=>by rw[hks.mem_iff,hmp.mem]
 have hsl:(srtS ks).length=ks.length:=by unfold srtS; rw[List.length_map,List.length_mergeSort,List.length_map]
 have hks1:(uniS (namesF V P)).length<=480:=by rw[<- Zme (hks.nodup_iff.2 hmp.nd) hm]; omega
 rw[Zme (hks.nodup_iff.2 hmp.nd) hm]
 generalize uniS (namesF V P)=ks1 at hks1 ⊢
 show (Cq.next _ _).wp _
 refine Cq.Zm ks1.length (fun k s=>s=((ks1.take k).map (fun n=>Zk.mk 0 n),(k:Int))) (fun k s hk hs=>?_) (fun s hs=>?_) (by simp)
 .subst hs
  refine Cq.wp.yes (p:=(k:Int)<(ks1.length:Int)) (by omega) ?_
  refine⟨ks1[k],idxN hk,by simp only[List.length_append,List.length_map,List.length_take,List.length_singleton,small]; omega,?_⟩
  show _=_
  rw[wrapN (by omega),<- List.take_append_getElem hk,List.map_append]
  rfl
 subst hs
 show (if (ks1.length:Int)<(ks1.length:Int) then _ else _:Cq _).wp _
 rw[Cq.Zd,if_neg (by omega),List.take_length]
 refine⟨by simp only[List.length_append,List.length_map,small]; omega,?_⟩
 rw[Cq.Zd]
 by_cases hc:0<(ks1.map (fun n=>Zk.mk 0 n)++O.2).length
 .rw[if_pos (by omega),if_pos hc]; rfl
 have hnil:ks1.map (fun n=>Zk.mk 0 n)++O.2=[]:=List.length_eq_zero_iff.1 (by omega)
 rw[if_neg (by omega),if_neg hc,Cq.Zd]
 by_cases c1:4<V.length
 .rw[if_pos (by omega),if_pos (.inl c1)]; rfl
 rw[if_neg (by omega),Cq.Zd]
 by_cases c2:12<(eqsF V P).length
 .rw[if_pos (by omega),if_pos (.inr (.inl c2))]; rfl
 rw[if_neg (by omega),Cq.Zd]
 by_cases c3:12<(neqsF V P).length
 .rw[if_pos (by omega),if_pos (.inr (.inr (.inl c3)))]; rfl
 rw[if_neg (by omega),Cq.Zd]
 by_cases c4:1000000<N.2
 .rw[if_pos c4,if_pos (.inr (.inr (.inr c4)))]; rfl
 rw[if_neg c4,if_neg fun h=>by rcases h with h|h|h|h <;> contradiction]; rfl
theorem Zlk{a0 a1 a2:Za}(h0:Good a0)(h1:Good a1)(h2:Good a2):(Zam a0 a1 a2 false).Ret (mergeF a0 a1 a2):=by
 unfold Zam mergeF
 rw[Cq.Ret,Cq.Zd,if_neg (by decide)]
 refine⟨_,Zfe h1.sys h0.sys,?_⟩
 rw[Cq.Zd]
 by_cases e1:a1=a0
 .rw[decide_eq_true e1,if_pos rfl,if_pos e1]; rfl
 rw[decide_eq_false e1,if_neg (by decide),if_neg e1]
 refine⟨_,Zfe h2.sys h0.sys,?_⟩
 by_cases e2:a2=a0
 .rw[decide_eq_true e2,if_pos e2]; rfl
 rw[decide_eq_false e2,if_neg e2]
 refine⟨_,Zfe h2.sys h1.sys,?_⟩
 rw[Cq.Zd]
 by_cases e3:a2=a1
 .rw[decide_eq_true e3,if_pos rfl,if_pos e3]; rfl
 rw[decide_eq_false e3,if_neg (by decide),if_neg e3]
 exact Zlj h0 h1 h2
theorem Zdv{a0 a1 a2:Za}(h0:Good a0)(h1:Good a1)(h2:Good a2):(Zac a0 a1 a2).Ret (mergeF a0 a1 a2):=
 ⟨true,Zce h0,true,Zce h1,true,Zce h2,Zlk h0 h1 h2⟩
end Go.EL

namespace Go.EL
open Go.IntKind (i8 i16 i32 i64 u8 u16 u32 u64)
open Go Go.RowKit
instance decConf:DecidableEq Zk:=fun ⟨a1,a2⟩ ⟨b1,b2⟩=>decidable_of_iff (a1=b1/\a2=b2) (by simp)
def pw(n:Nat):List Zb:=[⟨ratI 1,varM 0 (n:Int)⟩]
def exL(l:List (Int×Nat)):List Zc:=l.map fun x=>⟨x.1,pw x.2⟩
def exS(v:ByteArray)(l:List (Int×Nat))(next:Int):Za:=⟨[v],exL l,[],next⟩
theorem ZnQ:(between 1 3 fun n=>fitB (pw n.toNat) 1)=true:=by decide +kernel
theorem Zq4{n:Nat}(h1:1<=n)(h2:n<=3):PolOk (pw n)/\fitB (pw n) ((1:Nat):Int)=true:=by
 have:=Zr ZnQ (x:=(n:Int)) (by omega) (by omega)
 rw[Int.toNat_natCast] at this
 exact⟨Znd (by decide) (by decide) (by decide) (ZfA (by omega) (by omega)),this⟩
theorem Zck{v:ByteArray}(hv:nameB v=true){l:List (Int×Nat)}{next:Int}(h:∀ x ∈ l,(1<=x.1/\x.1<next)/\1<=x.2/\x.2<=3)(hp:l.Pairwise fun x y=>x.1<y.1)(hl:l.length<=12)(hn:1<=next/\next<=1000000):Good (exS v l next) where
 vars:=by show 1<=4; decide
 name u hu:=by rw[List.mem_singleton.1 hu]; exact hv
 diff:=List.pairwise_singleton _ _
 next:=hn
 eqs:={
  len:=by show (exL l).length<=12; unfold exL; rw[List.length_map]; exact hl
  ids:=fun q hq=>by
   obtain⟨x,hx,rfl⟩:=List.mem_map.1 hq
   exact (h x hx).1
  inc:=List.pairwise_map.2 hp
  pol:=fun q hq=>by
   obtain⟨x,hx,rfl⟩:=List.mem_map.1 hq
   exact Zq4 (h x hx).2.1 (h x hx).2.2 }
 neqs:=⟨Nat.zero_le _,fun q hq=>absurd hq List.not_mem_nil,List.Pairwise.nil,fun q hq=>absurd hq List.not_mem_nil⟩
 apart _ _ _ hb:=absurd hb List.not_mem_nil
theorem nameX:nameB Zp=true:=by decide +kernel
theorem nameY:nameB ZY=true:=by decide +kernel
abbrev exO:=exS Zp [(1,1)] 2
abbrev exA:=exS Zp [(1,1),(2,2)] 3
abbrev exB:=exS Zp [(1,1),(2,3)] 3
abbrev exC:=exS Zp [] 2
abbrev exD:=exS Zp [(1,2)] 2
abbrev exE:=exS ZY [(1,1)] 2
abbrev exR:=exS Zp [(1,1),(2,2),(3,3)] 4
theorem Zdd:Good exO:=Zck nameX (by decide) (by decide) (by decide) (by decide)
theorem ZlH:Good exA:=Zck nameX (by decide) (by decide) (by decide) (by decide)
theorem Zio:Good exB:=Zck nameX (by decide) (by decide) (by decide) (by decide)
theorem Zpf:Good exC:=Zck nameX (by decide) (by decide) (by decide) (by decide)
theorem Zpg:Good exD:=Zck nameX (by decide) (by decide) (by decide) (by decide)
theorem Zph:Good exE:=Zck nameY (by decide) (by decide) (by decide) (by decide)
theorem Zpi:Good exR:=Zck nameX (by decide) (by decide) (by decide) (by decide)
theorem Zot:(between 1 3 fun i=>between 1 3 fun n=>runs 80 (ZO i n) ⟨i,pw n.toNat⟩)=true:=by decide +kernel
theorem ZaE{i:Int}{n:Nat}(h1:1<=i/\i<=3)(h2:1<=n/\n<=3):(ZO i (n:Int)).Ret ⟨i,pw n⟩:=by
 have:=ZA (Zr (Zr Zot (x:=i) h1.1 h1.2) (x:=(n:Int)) (by omega) (by omega))
 rwa [Int.toNat_natCast] at this
theorem ex9:mergeF exO exA exB=(exR,[],0):=by decide +kernel
theorem ex14:mergeF exO exC exD=(zeroS,[⟨1,ByteArray.empty⟩],350):=by decide +kernel
theorem ex21:mergeF exO exE exA=(zeroS,[⟨0,Zp⟩],350):=by decide +kernel
theorem ex26:mergeF exO exO exB=(exB,[],0):=by decide +kernel
theorem Zp0:(Zas zeroS).Ret false:=Cq.Ret.Zdt 5 (by decide +kernel)
theorem ZnJ:(Zac exO zeroS exA).Ret (zeroS,[],320):=⟨true,Zce Zdd,false,Zp0,rfl⟩
theorem conf14:(Zaj [⟨1,ByteArray.empty⟩] [⟨1,ByteArray.empty⟩]).Ret true:=Cq.Ret.Zdt 10 (by decide +kernel)
theorem conf21:(Zaj [⟨0,Zp⟩] [⟨0,Zp⟩]).Ret true:=Cq.Ret.Zdt 10 (by decide +kernel)
theorem ZlI:Zdk.Ret true:=by
 have p11:=ZaE (i:=1) (n:=1) (by decide) (by decide)
 have p12:=ZaE (i:=1) (n:=2) (by decide) (by decide)
 have p22:=ZaE (i:=2) (n:=2) (by decide) (by decide)
 have p23:=ZaE (i:=2) (n:=3) (by decide) (by decide)
 have p33:=ZaE (i:=3) (n:=3) (by decide) (by decide)
 refine⟨_,p11,exO,rfl,_,p11,_,p22,exA,rfl,_,p11,_,p23,exB,rfl,(exR,[],0),?_,exC,rfl,_,p12,exD,rfl,(zeroS,[⟨1,ByteArray.empty⟩],350),?_,_,p11,exE,rfl,(zeroS,[⟨0,Zp⟩],350),?_,_,ZnJ,(exB,[],0),?_,?_⟩
 .rw[<- ex9]; exact Zdv Zdd ZlH Zio
 .rw[<- ex14]; exact Zdv Zdd Zpf Zpg
 .rw[<- ex21]; exact Zdv Zdd Zph ZlH
 .rw[<- ex26]; exact Zdv Zdd Zdd Zio
 rw[Cq.Zd,if_neg (by decide),Cq.Zd,if_neg (by decide),Cq.Zd,if_neg (by decide),Cq.Zd,if_neg (by decide),Cq.Zd,if_neg (by decide),Cq.Zd,if_neg (by decide)]
 refine⟨true,Zly Zio.sys,?_⟩
 rw[Cq.Zd,if_neg (by decide)]
 exact⟨true,conf14,true,conf21,_,p11,_,p22,_,p33,exR,rfl,true,Zly Zpi.sys,rfl⟩
structure ThreeOk (x:ZG):Prop where
 base:DescsOk x.base
 a:DescsOk x.a
 b:DescsOk x.b
theorem Zlw{s:Za}(h:Good s){l:List Zh}(hl:l.length<=1000)(hr:RunOk s l):(ZhB s l).Ret (runF s l,(l.length:Int),0):=by
 refine⟨_,ZqJ hl (fun e he=>(Znh hr e he).1) h,?_⟩
 rw[Zo2 hr]
 rfl
end Go.EL

namespace Go.Proofs.YtnbpjambcagjcaaGreat
open Go.IntKind (i8 i16 i32 i64 u8 u16 u32 u64)
open Go.Proofs.Tryz
open Go Go.EL Go.RowKit Go.Proofs
def ok120(x:ZD):Prop:=(∀ y ∈ x.t,∀ i,(Lit.int .i8 (y i)).wf=true)
def ok122(x:Zv):Prop:=((Lit.int .u8 x.kind).wf=true)/\((Lit.int .u8 x.a).wf=true)/\((Lit.int .u8 x.b).wf=true)/\((Lit.int .u8 x.n).wf=true)/\(ok120 x.p)
def ok24(x:ZG):Prop:=(∀ y ∈ x.base,ok122 y)/\(∀ y ∈ x.a,ok122 y)/\(∀ y ∈ x.b,ok122 y)
theorem opens120(W:World):Opens prog W 120 Zhp (ok120):=by
 have h:=Opens.struct (W:=W) underlying120 (by kernel_rfl) (OpensF.last rfl (by kernel_rfl) (Opens.sl underlying118 (by kernel_rfl) (by decide) (Opens.vec underlying203 underlying104 (by kernel_rfl) (by kernel_rfl)))) (fun (x:ZD)=>x.t) (fun y=>⟨y⟩) (fun _=>rfl)
 exact h
theorem opens122(W:World):Opens prog W 122 ZL (ok122):=by
 have h:=Opens.struct (W:=W) underlying122 (by kernel_rfl) (OpensF.cons rfl (by kernel_rfl) (Opens.int underlying5) (OpensF.cons rfl (by kernel_rfl) (Opens.int underlying5) (OpensF.cons rfl (by kernel_rfl) (Opens.int underlying5) (OpensF.cons rfl (by kernel_rfl) (Opens.int underlying5) (OpensF.last rfl (by kernel_rfl) (opens120 W)))))) (fun (x:Zv)=>(x.kind,x.a,x.b,x.n,x.p)) (fun y=>⟨y.1,y.2.1,y.2.2.1,y.2.2.2.1,y.2.2.2.2⟩) (fun _=>rfl)
 exact h
theorem opens24(W:World):Opens prog W 24 Zfy (ok24):=by
 have h:=Opens.struct (W:=W) underlying24 (by kernel_rfl) (OpensF.cons rfl (by kernel_rfl) (Opens.sl underlying22 (by kernel_rfl) (by decide) (opens122 W)) (OpensF.cons rfl (by kernel_rfl) (Opens.sl underlying22 (by kernel_rfl) (by decide) (opens122 W)) (OpensF.last rfl (by kernel_rfl) (Opens.sl underlying22 (by kernel_rfl) (by decide) (opens122 W))))) (fun (x:ZG)=>(x.base,x.a,x.b)) (fun y=>⟨y.1,y.2.1,y.2.2⟩) (fun _=>rfl)
 exact h
theorem Zq5{x:ZD}(h:ok120 x):RawOk x:=fun v hv j=>wf_i8 (h v hv j)
theorem ZjW{x:Zv}(h:ok122 x):DescOk x:=⟨wf_u8 h.1,wf_u8 h.2.1,wf_u8 h.2.2.1,wf_u8 h.2.2.2.1,Zq5 h.2.2.2.2⟩
theorem ZpP{x:ZG}(h:ok24 x):ThreeOk x:=⟨⟨fun y hy=>ZjW (h.1 y hy)⟩,⟨fun y hy=>ZjW (h.2.1 y hy)⟩,⟨fun y hy=>ZjW (h.2.2 y hy)⟩⟩
set_option maxRecDepth 100000 in
theorem ZnN{W:World}{base:Nat}{v:Value}{H:Type}{enc:TypeId×Value->H}{b:Nat}{d:DataW H}{ps:List MemPlace}(hok:Value.okWide prog W .any base 24 v)(h:DataW.Trod enc prog W b (fun _=>true) true 24 v d ps):∃ (x:ZG) (p:Option Addr) (c:Nat) (q:Option Addr) (e:Nat) (r:Option Addr) (f:Nat),v = .agg ([.slice p x.base.length c,.slice q x.a.length e,.slice r x.b.length f]).toArray/\SlR ZL (allMem W) (.slice p x.base.length c) x.base/\SlR ZL (allMem W) (.slice q x.a.length e) x.a/\SlR ZL (allMem W) (.slice r x.b.length f) x.b/\ThreeOk x:=by
 obtain⟨cs,x,rfl,h2,h3⟩:=ZmM underlying24 (opens24 W) hok h
 obtain⟨p,c,q,e,r,f,k1,k2,k3,k4⟩:=ZjU (K:=fun j u=>cs[j]? = some u) (Zo4 h2)
 exact⟨x,p,c,q,e,r,f,by rw[Zo5 h2 (by rfl) k1],k2,k3,k4,ZpP h3⟩
set_option maxRecDepth 100000 in
theorem Zor{W:World}{base:Nat}{v:Value}{H:Type}{enc:TypeId×Value->H}{b:Nat}{d:DataW H}{ps:List MemPlace}(hok:Value.okWide prog W .any base 52 v)(h:DataW.Trod enc prog W b (fun _=>true) true 52 v d ps):∃ p cap l,v = .slice p (List.length l) cap/\SlR (Rp.int .i8) (allMem W) (.slice p l.length cap) l/\∀ y ∈ l,-128<=y/\y<=127:=by
 obtain⟨p,cap,l,h1,h2,h3⟩:=ZmL underlying52 (by kernel_rfl) (by decide) (Opens.int underlying104) hok h
 exact⟨p,cap,l,h1,h2,fun y hy=>wf_i8 (h3 y hy)⟩
end Go.Proofs.YtnbpjambcagjcaaGreat

namespace Go.Proofs
open Go.IntKind (i8 i16 i32 i64 u8 u16 u32 u64)
open Go.Shelf
def Tryz.ZoF:Go.Shelf.Ren:=⟨fun|14=>194|20=>215|21=>216|22=>217|23=>218|24=>219|25=>220|26=>221|27=>222|46=>232|47=>196|48=>197|49=>233|50=>234|15=>108|57=>242|28=>158|29=>159|n=>n,fun|24=>152|22=>43|3=>3|25=>214|4=>4|0=>0|46=>217|45=>216|50=>222|66=>248|39=>149|55=>191|70=>252|76=>266|77=>267|53=>225|5=>5|9=>9|n=>n,fun|n=>n⟩
theorem Tryz.sortL:Go.Proofs.SlLaysF0.n14 Tryz.prog Tryz.ZoF:={
 mixed:=by kernel_rfl
 f14:=⟨Tryz.f194.name,by decide,Tryz.func194.trans (congrArg some (by kernel_rfl))⟩
 f15:=Tryz.func108.trans (congrArg some (by kernel_rfl))
 f20:=⟨Tryz.f215.name,by decide,Tryz.func215.trans (congrArg some (by kernel_rfl))⟩
 f21:=⟨Tryz.f216.name,by decide,Tryz.func216.trans (congrArg some (by kernel_rfl))⟩
 f22:=⟨Tryz.f217.name,by decide,Tryz.func217.trans (congrArg some (by kernel_rfl))⟩
 f23:=⟨Tryz.f218.name,by decide,Tryz.func218.trans (congrArg some (by kernel_rfl))⟩
 f24:=⟨Tryz.f219.name,by decide,Tryz.func219.trans (congrArg some (by kernel_rfl))⟩
 f25:=⟨Tryz.f220.name,by decide,Tryz.func220.trans (congrArg some (by kernel_rfl))⟩
 f26:=⟨Tryz.f221.name,by decide,Tryz.func221.trans (congrArg some (by kernel_rfl))⟩
 f27:=⟨Tryz.f222.name,by decide,Tryz.func222.trans (congrArg some (by kernel_rfl))⟩
 f28:=Tryz.func158.trans (congrArg some (by kernel_rfl))
 f29:=Tryz.func159.trans (congrArg some (by kernel_rfl))
 f46:=⟨Tryz.f232.name,by decide,Tryz.func232.trans (congrArg some (by kernel_rfl))⟩
 f47:=Tryz.func196.trans (congrArg some (by kernel_rfl))
 f48:=Tryz.func197.trans (congrArg some (by kernel_rfl))
 f49:=⟨Tryz.f233.name,by decide,Tryz.func233.trans (congrArg some (by kernel_rfl))⟩
 f50:=⟨Tryz.f234.name,by decide,Tryz.func234.trans (congrArg some (by kernel_rfl))⟩
 f57:=⟨Tryz.f242.name,by decide,Tryz.func242.trans (congrArg some (by kernel_rfl))⟩
 t0:=Tryz.underlying0
 a0:=Tryz.isAgg0
 z0:=Tryz.sizeOf0
 v0:=Tryz.zeroValue0
 t3:=Tryz.underlying3
 a3:=Tryz.isAgg3
 z3:=Tryz.sizeOf3
 v3:=Tryz.zeroValue3
 t4:=Tryz.underlying4
 a4:=Tryz.isAgg4
 z4:=Tryz.sizeOf4
 v4:=Tryz.zeroValue4
 t5:=Tryz.underlying5
 a5:=Tryz.isAgg5
 z5:=Tryz.sizeOf5
 v5:=Tryz.zeroValue5
 t9:=Tryz.underlying9
 a9:=Tryz.isAgg9
 z9:=Tryz.sizeOf9
 v9:=Tryz.zeroValue9
 t22:=Tryz.underlying43
 a22:=Tryz.isAgg43
 z22:=Tryz.sizeOf43
 v22:=Tryz.zeroValue43
 t25:=Tryz.underlying214
 a25:=Tryz.isAgg214
 z25:=Tryz.sizeOf214
 v25:=Tryz.zeroValue214
 t39:=Tryz.underlying149
 a39:=Tryz.isAgg149
 z39:=Tryz.sizeOf149
 v39:=Tryz.zeroValue149
 t45:=Tryz.underlying216
 a45:=Tryz.isAgg216
 z45:=Tryz.sizeOf216
 v45:=Tryz.zeroValue216
 t46:=Tryz.underlying217
 a46:=Tryz.isAgg217
 z46:=Tryz.sizeOf217
 v46:=Tryz.zeroValue217
 t50:=Tryz.underlying222
 a50:=Tryz.isAgg222
 z50:=Tryz.sizeOf222
 v50:=Tryz.zeroValue222
 t53:=Tryz.underlying225
 a53:=Tryz.isAgg225
 z53:=Tryz.sizeOf225
 v53:=Tryz.zeroValue225
 t55:=Tryz.underlying191
 a55:=Tryz.isAgg191
 z55:=Tryz.sizeOf191
 v55:=Tryz.zeroValue191
 t66:=Tryz.underlying248
 a66:=Tryz.isAgg248
 z66:=Tryz.sizeOf248
 v66:=Tryz.zeroValue248
 t70:=Tryz.underlying252
 a70:=Tryz.isAgg252
 z70:=Tryz.sizeOf252
 v70:=Tryz.zeroValue252
 t76:=Tryz.underlying266
 a76:=Tryz.isAgg266
 z76:=Tryz.sizeOf266
 v76:=Tryz.zeroValue266
 t77:=Tryz.underlying267
 a77:=Tryz.isAgg267
 z77:=Tryz.sizeOf267
 v77:=Tryz.zeroValue267 }
def Tryz.ZoE:Go.Shelf.Ren:=⟨fun|53=>96|64=>108|63=>143|78=>158|79=>159|70=>185|71=>186|72=>187|73=>188|74=>189|75=>190|59=>191|76=>192|77=>193|88=>211|89=>196|90=>197|91=>212|92=>213|68=>214|96=>231|n=>n,fun|22=>49|23=>3|3=>3|51=>149|0=>0|67=>225|69=>191|4=>4|61=>217|60=>216|44=>222|5=>5|9=>9|75=>248|79=>252|83=>266|84=>267|n=>n,fun|n=>n⟩
theorem Tryz.sortI:Go.Proofs.SlLaysN.n53 Tryz.prog Tryz.ZoE:={
 mixed:=by kernel_rfl
 f53:=⟨Tryz.f96.name,by decide,Tryz.func96.trans (congrArg some (by kernel_rfl))⟩
 f59:=⟨Tryz.f191.name,by decide,Tryz.func191.trans (congrArg some (by kernel_rfl))⟩
 f63:=⟨Tryz.f143.name,by decide,Tryz.func143.trans (congrArg some (by kernel_rfl))⟩
 f64:=Tryz.func108.trans (congrArg some (by kernel_rfl))
 f68:=⟨Tryz.f214.name,by decide,Tryz.func214.trans (congrArg some (by kernel_rfl))⟩
 f70:=⟨Tryz.f185.name,by decide,Tryz.func185.trans (congrArg some (by kernel_rfl))⟩
 f71:=⟨Tryz.f186.name,by decide,Tryz.func186.trans (congrArg some (by kernel_rfl))⟩
 f72:=⟨Tryz.f187.name,by decide,Tryz.func187.trans (congrArg some (by kernel_rfl))⟩
 f73:=⟨Tryz.f188.name,by decide,Tryz.func188.trans (congrArg some (by kernel_rfl))⟩
 f74:=⟨Tryz.f189.name,by decide,Tryz.func189.trans (congrArg some (by kernel_rfl))⟩
 f75:=⟨Tryz.f190.name,by decide,Tryz.func190.trans (congrArg some (by kernel_rfl))⟩
 f76:=⟨Tryz.f192.name,by decide,Tryz.func192.trans (congrArg some (by kernel_rfl))⟩
 f77:=⟨Tryz.f193.name,by decide,Tryz.func193.trans (congrArg some (by kernel_rfl))⟩
 f78:=Tryz.func158.trans (congrArg some (by kernel_rfl))
 f79:=Tryz.func159.trans (congrArg some (by kernel_rfl))
 f88:=⟨Tryz.f211.name,by decide,Tryz.func211.trans (congrArg some (by kernel_rfl))⟩
 f89:=Tryz.func196.trans (congrArg some (by kernel_rfl))
 f90:=Tryz.func197.trans (congrArg some (by kernel_rfl))
 f91:=⟨Tryz.f212.name,by decide,Tryz.func212.trans (congrArg some (by kernel_rfl))⟩
 f92:=⟨Tryz.f213.name,by decide,Tryz.func213.trans (congrArg some (by kernel_rfl))⟩
 f96:=⟨Tryz.f231.name,by decide,Tryz.func231.trans (congrArg some (by kernel_rfl))⟩
 t0:=Tryz.underlying0
 a0:=Tryz.isAgg0
 z0:=Tryz.sizeOf0
 v0:=Tryz.zeroValue0
 t3:=Tryz.underlying3
 a3:=Tryz.isAgg3
 z3:=Tryz.sizeOf3
 v3:=Tryz.zeroValue3
 t4:=Tryz.underlying4
 a4:=Tryz.isAgg4
 z4:=Tryz.sizeOf4
 v4:=Tryz.zeroValue4
 t5:=Tryz.underlying5
 a5:=Tryz.isAgg5
 z5:=Tryz.sizeOf5
 v5:=Tryz.zeroValue5
 t9:=Tryz.underlying9
 a9:=Tryz.isAgg9
 z9:=Tryz.sizeOf9
 v9:=Tryz.zeroValue9
 t22:=Tryz.underlying49
 a22:=Tryz.isAgg49
 z22:=Tryz.sizeOf49
 v22:=Tryz.zeroValue49
 t23:=Tryz.underlying3
 a23:=Tryz.isAgg3
 z23:=Tryz.sizeOf3
 v23:=Tryz.zeroValue3
 t44:=Tryz.underlying222
 a44:=Tryz.isAgg222
 z44:=Tryz.sizeOf222
 v44:=Tryz.zeroValue222
 t51:=Tryz.underlying149
 a51:=Tryz.isAgg149
 z51:=Tryz.sizeOf149
 v51:=Tryz.zeroValue149
 t60:=Tryz.underlying216
 a60:=Tryz.isAgg216
 z60:=Tryz.sizeOf216
 v60:=Tryz.zeroValue216
 t61:=Tryz.underlying217
 a61:=Tryz.isAgg217
 z61:=Tryz.sizeOf217
 v61:=Tryz.zeroValue217
 t67:=Tryz.underlying225
 a67:=Tryz.isAgg225
 z67:=Tryz.sizeOf225
 v67:=Tryz.zeroValue225
 t69:=Tryz.underlying191
 a69:=Tryz.isAgg191
 z69:=Tryz.sizeOf191
 v69:=Tryz.zeroValue191
 t75:=Tryz.underlying248
 a75:=Tryz.isAgg248
 z75:=Tryz.sizeOf248
 v75:=Tryz.zeroValue248
 t79:=Tryz.underlying252
 a79:=Tryz.isAgg252
 z79:=Tryz.sizeOf252
 v79:=Tryz.zeroValue252
 t83:=Tryz.underlying266
 a83:=Tryz.isAgg266
 z83:=Tryz.sizeOf266
 v83:=Tryz.zeroValue266
 t84:=Tryz.underlying267
 a84:=Tryz.isAgg267
 z84:=Tryz.sizeOf267
 v84:=Tryz.zeroValue267 }
def Tryz.ZoG:Go.Shelf.Ren:=⟨fun|54=>65|64=>108|65=>107|78=>158|79=>159|80=>149|81=>150|82=>151|83=>152|84=>153|85=>154|61=>155|86=>156|87=>157|93=>195|89=>196|90=>197|94=>198|95=>199|69=>200|97=>223|n=>n,fun|25=>28|26=>9|3=>3|51=>149|0=>0|67=>225|69=>191|4=>4|61=>217|60=>216|44=>222|5=>5|9=>9|75=>248|79=>252|83=>266|84=>267|n=>n,fun|n=>n⟩
theorem Tryz.sortS:Go.Proofs.SlLaysN.n54 Tryz.prog Tryz.ZoG:={
 mixed:=by kernel_rfl
 f54:=⟨Tryz.f65.name,by decide,Tryz.func65.trans (congrArg some (by kernel_rfl))⟩
 f61:=⟨Tryz.f155.name,by decide,Tryz.func155.trans (congrArg some (by kernel_rfl))⟩
 f64:=Tryz.func108.trans (congrArg some (by kernel_rfl))
 f65:=⟨Tryz.f107.name,by decide,Tryz.func107.trans (congrArg some (by kernel_rfl))⟩
 f69:=⟨Tryz.f200.name,by decide,Tryz.func200.trans (congrArg some (by kernel_rfl))⟩
 f78:=Tryz.func158.trans (congrArg some (by kernel_rfl))
 f79:=Tryz.func159.trans (congrArg some (by kernel_rfl))
 f80:=⟨Tryz.f149.name,by decide,Tryz.func149.trans (congrArg some (by kernel_rfl))⟩
 f81:=⟨Tryz.f150.name,by decide,Tryz.func150.trans (congrArg some (by kernel_rfl))⟩
 f82:=⟨Tryz.f151.name,by decide,Tryz.func151.trans (congrArg some (by kernel_rfl))⟩
 f83:=⟨Tryz.f152.name,by decide,Tryz.func152.trans (congrArg some (by kernel_rfl))⟩
 f84:=⟨Tryz.f153.name,by decide,Tryz.func153.trans (congrArg some (by kernel_rfl))⟩
 f85:=⟨Tryz.f154.name,by decide,Tryz.func154.trans (congrArg some (by kernel_rfl))⟩
 f86:=⟨Tryz.f156.name,by decide,Tryz.func156.trans (congrArg some (by kernel_rfl))⟩
 f87:=⟨Tryz.f157.name,by decide,Tryz.func157.trans (congrArg some (by kernel_rfl))⟩
 f89:=Tryz.func196.trans (congrArg some (by kernel_rfl))
 f90:=Tryz.func197.trans (congrArg some (by kernel_rfl))
 f93:=⟨Tryz.f195.name,by decide,Tryz.func195.trans (congrArg some (by kernel_rfl))⟩
 f94:=⟨Tryz.f198.name,by decide,Tryz.func198.trans (congrArg some (by kernel_rfl))⟩
 f95:=⟨Tryz.f199.name,by decide,Tryz.func199.trans (congrArg some (by kernel_rfl))⟩
 f97:=⟨Tryz.f223.name,by decide,Tryz.func223.trans (congrArg some (by kernel_rfl))⟩
 t0:=Tryz.underlying0
 a0:=Tryz.isAgg0
 z0:=Tryz.sizeOf0
 v0:=Tryz.zeroValue0
 t3:=Tryz.underlying3
 a3:=Tryz.isAgg3
 z3:=Tryz.sizeOf3
 v3:=Tryz.zeroValue3
 t4:=Tryz.underlying4
 a4:=Tryz.isAgg4
 z4:=Tryz.sizeOf4
 v4:=Tryz.zeroValue4
 t5:=Tryz.underlying5
 a5:=Tryz.isAgg5
 z5:=Tryz.sizeOf5
 v5:=Tryz.zeroValue5
 t9:=Tryz.underlying9
 a9:=Tryz.isAgg9
 z9:=Tryz.sizeOf9
 v9:=Tryz.zeroValue9
 t25:=Tryz.underlying28
 a25:=Tryz.isAgg28
 z25:=Tryz.sizeOf28
 v25:=Tryz.zeroValue28
 t26:=Tryz.underlying9
 a26:=Tryz.isAgg9
 z26:=Tryz.sizeOf9
 v26:=Tryz.zeroValue9
 t44:=Tryz.underlying222
 a44:=Tryz.isAgg222
 z44:=Tryz.sizeOf222
 v44:=Tryz.zeroValue222
 t51:=Tryz.underlying149
 a51:=Tryz.isAgg149
 z51:=Tryz.sizeOf149
 v51:=Tryz.zeroValue149
 t60:=Tryz.underlying216
 a60:=Tryz.isAgg216
 z60:=Tryz.sizeOf216
 v60:=Tryz.zeroValue216
 t61:=Tryz.underlying217
 a61:=Tryz.isAgg217
 z61:=Tryz.sizeOf217
 v61:=Tryz.zeroValue217
 t67:=Tryz.underlying225
 a67:=Tryz.isAgg225
 z67:=Tryz.sizeOf225
 v67:=Tryz.zeroValue225
 t69:=Tryz.underlying191
 a69:=Tryz.isAgg191
 z69:=Tryz.sizeOf191
 v69:=Tryz.zeroValue191
 t75:=Tryz.underlying248
 a75:=Tryz.isAgg248
 z75:=Tryz.sizeOf248
 v75:=Tryz.zeroValue248
 t79:=Tryz.underlying252
 a79:=Tryz.isAgg252
 z79:=Tryz.sizeOf252
 v79:=Tryz.zeroValue252
 t83:=Tryz.underlying266
 a83:=Tryz.isAgg266
 z83:=Tryz.sizeOf266
 v83:=Tryz.zeroValue266
 t84:=Tryz.underlying267
 a84:=Tryz.isAgg267
 z84:=Tryz.sizeOf267
 v84:=Tryz.zeroValue267 }
end Go.Proofs

namespace Go.Proofs.YtnbpjambcagjcaaGreat
open Go.IntKind (i8 i16 i32 i64 u8 u16 u32 u64)
open Go.Proofs.Tryz
open Go Go.EL Go.RowKit Go.Proofs
abbrev i'(x:Int):Value:=.int .i64 x
abbrev sl{α:Type}(r:Rp α)(G:Mem)(p:Option Addr)(c:Nat)(xs:List α):Prop:=SlR r G (.slice p xs.length c) xs
abbrev v122'(x:Zv)(ptp:Option Addr)(ptc:Nat):List Value:=[.int .u8 x.kind,.int .u8 x.a,.int .u8 x.b,.int .u8 x.n,.slice ptp x.p.t.length ptc]
abbrev v24'(x:ZG)(basep:Option Addr)(basec:Nat)(ap:Option Addr)(ac:Nat)(bp:Option Addr)(bc:Nat):List Value:=[.slice basep x.base.length basec,.slice ap x.a.length ac,.slice bp x.b.length bc]
abbrev v99'(x:Zj)(magp:Option Addr)(magc:Nat):List Value:=[.bool x.neg,.slice magp x.mag.length magc]
abbrev w99'(x:Zj):Mem->Value->Prop:=fun G v=>∃ q0 q1,v = .agg ((v99' x q0 q1)).toArray/\sl (Rp.int .u32) G q0 q1 x.mag
abbrev v101'(x:Ze)(nummagp:Option Addr)(nummagc:Nat)(denmagp:Option Addr)(denmagc:Nat):List Value:=[.bool x.num.neg,.slice nummagp x.num.mag.length nummagc,.bool x.den.neg,.slice denmagp x.den.mag.length denmagc]
abbrev w101'(x:Ze):Mem->Value->Prop:=fun G v=>∃ q0 q1 q2 q3,v = .agg ((v101' x q0 q1 q2 q3)).toArray/\sl (Rp.int .u32) G q0 q1 x.num.mag/\sl (Rp.int .u32) G q2 q3 x.den.mag
abbrev v57'{α:Type}(i:Int)(p:Option Addr)(xs:List α)(c:Nat):List Value:=[.int .i64 i,.slice p xs.length c]
abbrev v31'(x:Za)(varsp:Option Addr)(varsc:Nat)(eqsp:Option Addr)(eqsc:Nat)(neqsp:Option Addr)(neqsc:Nat):List Value:=[.slice varsp x.vars.length varsc,.slice eqsp x.eqs.length eqsc,.slice neqsp x.neqs.length neqsc,.int .i64 x.next]
abbrev w31'(x:Za):Mem->Value->Prop:=fun G v=>∃ q0 q1 q2 q3 q4 q5,v = .agg ((v31' x q0 q1 q2 q3 q4 q5)).toArray/\sl Rp.str G q0 q1 x.vars/\sl Zz G q2 q3 x.eqs/\sl Zz G q4 q5 x.neqs
abbrev w31t'(x:Za×Int):Mem->Value->Prop:=fun G v=>∃ q0 q1 q2 q3 q4 q5,v = .tuple #[.agg ((v31' x.1 q0 q1 q2 q3 q4 q5)).toArray,i' x.2]/\sl Rp.str G q0 q1 x.1.vars/\sl Zz G q2 q3 x.1.eqs/\sl Zz G q4 q5 x.1.neqs
abbrev w31u'(x:Za×Int×Int):Mem->Value->Prop:=fun G v=>∃ q0 q1 q2 q3 q4 q5,v = .tuple #[.agg ((v31' x.1 q0 q1 q2 q3 q4 q5)).toArray,i' x.2.1,i' x.2.2]/\sl Rp.str G q0 q1 x.1.vars/\sl Zz G q2 q3 x.1.eqs/\sl Zz G q4 q5 x.1.neqs
abbrev v81'(x:Zg)(entrypp:Option Addr)(entrypc:Nat)(fromvarsp:Option Addr)(fromvarsc:Nat)(fromeqsp:Option Addr)(fromeqsc:Nat)(fromneqsp:Option Addr)(fromneqsc:Nat):List Value:=[.int .i64 x.id,.slice entrypp x.entry.p.length entrypc,.bool x.entry.neq,.slice fromvarsp x.from'.vars.length fromvarsc,.slice fromeqsp x.from'.eqs.length fromeqsc,.slice fromneqsp x.from'.neqs.length fromneqsc,.int .i64 x.from'.next]
abbrev v83'(x:ZJ)(fromp:Option Addr)(fromc:Nat)(top:Option Addr)(toc:Nat):List Value:=[.slice fromp x.from'.length fromc,.slice top x.to'.length toc]
abbrev v116'(x:Zh)(pp:Option Addr)(pc:Nat):List Value:=[.int .i64 x.kind,.string x.name,.int .i64 x.at',.int .i64 x.to',.int .i64 x.id,.slice pp x.p.length pc,.bool x.neq]
abbrev w116'(x:Zh):Mem->Value->Prop:=fun G v=>∃ q0 q1,v = .agg ((v116' x q0 q1)).toArray/\sl ZX G q0 q1 x.p
abbrev v124'(x:Zy)(svarsp:Option Addr)(svarsc:Nat)(seqsp:Option Addr)(seqsc:Nat)(sneqsp:Option Addr)(sneqsc:Nat):List Value:=[.slice svarsp x.s.vars.length svarsc,.slice seqsp x.s.eqs.length seqsc,.slice sneqsp x.s.neqs.length sneqsc,.int .i64 x.s.next,.int .i64 x.n,.int .i64 x.e]
abbrev w124'(x:Zy):Mem->Value->Prop:=fun G v=>∃ q0 q1 q2 q3 q4 q5,v = .agg ((v124' x q0 q1 q2 q3 q4 q5)).toArray/\sl Rp.str G q0 q1 x.s.vars/\sl Zz G q2 q3 x.s.eqs/\sl Zz G q4 q5 x.s.neqs
abbrev wl'{α:Type}(R:Rp α)(x:List α):Mem->Value->Prop:=fun G v=>∃ q0 q1,v = .slice q0 x.length q1/\sl @R G q0 q1 x
abbrev wlt'{α:Type}(R:Rp α)(x:List α×Int):Mem->Value->Prop:=fun G v=>∃ q0 q1,v = .tuple #[.slice q0 x.1.length q1,i' x.2]/\sl @R G q0 q1 x.1
abbrev ff:=false
abbrev tt:=true
theorem k0'{P:Program}{N:Nat}{fn:Func}{w0:Bs}{G0 G:Mem}{L:Lo}{fr:Fr}{r1:ResultVar}{α:Type}{f:α->Value}{x r:α}(e:x=r)(hr:fn.results = #[r1])(h1:RV P fr L r1 (f x)):WE N (bodyPost P fn (RetL w0 G0 fun _ _ v=>v=f r)) .ret fr (St w0 G0 G L):=e ▸ WE.ret1 hr h1 rfl
abbrev bk0(b:Nat)(c:List Value)(t:TypeId):Option Ow:=some ⟨b,.cells c.toArray t (0,0),0⟩
abbrev pt0(b:Nat):Value:=.pointer (some ⟨b,0,none⟩)
theorem sx0{P:Program}{N:Nat}{Q:Post}{fr:Fr}{S:Asrt}{ops:Array Oper}{dst:Option Nat}{ty:TypeId}{pos:String}{af:Array Edge}{y:Code}{v:Value}{x:Operand}(h:fr.ev x=some v)(hd:dstOK N dst)(k:WC P N y Q (putFr dst v fr) S):WL P N ops (Exit.then (y.wp P Q) Q) [⟨dst,.assign x,ty,pos,af,none⟩] fr S:=sg h hd (nx k)
abbrev y31'(G:Mem)(p:Option Addr)(c:Nat)(q:Option Addr)(d:Nat)(r:Option Addr)(e:Nat)(x:Za):Prop:=sl Rp.str G p c x.vars/\sl Zz G q d x.eqs/\sl Zz G r e x.neqs
theorem f1{f:Fr}{a0:Nat}{b0:Value}(h0:f.get a0=some b0):Fr.sub [(a0,b0)] f:=Fr.Zf h0 (Fr.Zs f)
theorem f2{f:Fr}{a0:Nat}{b0:Value}{a1:Nat}{b1:Value}(h0:f.get a0=some b0)(h1:f.get a1=some b1):Fr.sub [(a0,b0),(a1,b1)] f:=Fr.Zf h0 (Fr.Zf h1 (Fr.Zs f))
theorem f3{f:Fr}{a0:Nat}{b0:Value}{a1:Nat}{b1:Value}{a2:Nat}{b2:Value}(h0:f.get a0=some b0)(h1:f.get a1=some b1)(h2:f.get a2=some b2):Fr.sub [(a0,b0),(a1,b1),(a2,b2)] f:=Fr.Zf h0 (Fr.Zf h1 (Fr.Zf h2 (Fr.Zs f)))
theorem f4{f:Fr}{a0:Nat}{b0:Value}{a1:Nat}{b1:Value}{a2:Nat}{b2:Value}{a3:Nat}{b3:Value}(h0:f.get a0=some b0)(h1:f.get a1=some b1)(h2:f.get a2=some b2)(h3:f.get a3=some b3):Fr.sub [(a0,b0),(a1,b1),(a2,b2),(a3,b3)] f:=Fr.Zf h0 (Fr.Zf h1 (Fr.Zf h2 (Fr.Zf h3 (Fr.Zs f))))
theorem f5{f:Fr}{a0:Nat}{b0:Value}{a1:Nat}{b1:Value}{a2:Nat}{b2:Value}{a3:Nat}{b3:Value}{a4:Nat}{b4:Value}(h0:f.get a0=some b0)(h1:f.get a1=some b1)(h2:f.get a2=some b2)(h3:f.get a3=some b3)(h4:f.get a4=some b4):Fr.sub [(a0,b0),(a1,b1),(a2,b2),(a3,b3),(a4,b4)] f:=Fr.Zf h0 (Fr.Zf h1 (Fr.Zf h2 (Fr.Zf h3 (Fr.Zf h4 (Fr.Zs f)))))
theorem f6{f:Fr}{a0:Nat}{b0:Value}{a1:Nat}{b1:Value}{a2:Nat}{b2:Value}{a3:Nat}{b3:Value}{a4:Nat}{b4:Value}{a5:Nat}{b5:Value}(h0:f.get a0=some b0)(h1:f.get a1=some b1)(h2:f.get a2=some b2)(h3:f.get a3=some b3)(h4:f.get a4=some b4)(h5:f.get a5=some b5):Fr.sub [(a0,b0),(a1,b1),(a2,b2),(a3,b3),(a4,b4),(a5,b5)] f:=Fr.Zf h0 (Fr.Zf h1 (Fr.Zf h2 (Fr.Zf h3 (Fr.Zf h4 (Fr.Zf h5 (Fr.Zs f))))))
theorem f7{f:Fr}{a0:Nat}{b0:Value}{a1:Nat}{b1:Value}{a2:Nat}{b2:Value}{a3:Nat}{b3:Value}{a4:Nat}{b4:Value}{a5:Nat}{b5:Value}{a6:Nat}{b6:Value}(h0:f.get a0=some b0)(h1:f.get a1=some b1)(h2:f.get a2=some b2)(h3:f.get a3=some b3)(h4:f.get a4=some b4)(h5:f.get a5=some b5)(h6:f.get a6=some b6):Fr.sub [(a0,b0),(a1,b1),(a2,b2),(a3,b3),(a4,b4),(a5,b5),(a6,b6)] f:=Fr.Zf h0 (Fr.Zf h1 (Fr.Zf h2 (Fr.Zf h3 (Fr.Zf h4 (Fr.Zf h5 (Fr.Zf h6 (Fr.Zs f)))))))
theorem f8{f:Fr}{a0:Nat}{b0:Value}{a1:Nat}{b1:Value}{a2:Nat}{b2:Value}{a3:Nat}{b3:Value}{a4:Nat}{b4:Value}{a5:Nat}{b5:Value}{a6:Nat}{b6:Value}{a7:Nat}{b7:Value}(h0:f.get a0=some b0)(h1:f.get a1=some b1)(h2:f.get a2=some b2)(h3:f.get a3=some b3)(h4:f.get a4=some b4)(h5:f.get a5=some b5)(h6:f.get a6=some b6)(h7:f.get a7=some b7):Fr.sub [(a0,b0),(a1,b1),(a2,b2),(a3,b3),(a4,b4),(a5,b5),(a6,b6),(a7,b7)] f:=Fr.Zf h0 (Fr.Zf h1 (Fr.Zf h2 (Fr.Zf h3 (Fr.Zf h4 (Fr.Zf h5 (Fr.Zf h6 (Fr.Zf h7 (Fr.Zs f))))))))
theorem f9{f:Fr}{a0:Nat}{b0:Value}{a1:Nat}{b1:Value}{a2:Nat}{b2:Value}{a3:Nat}{b3:Value}{a4:Nat}{b4:Value}{a5:Nat}{b5:Value}{a6:Nat}{b6:Value}{a7:Nat}{b7:Value}{a8:Nat}{b8:Value}(h0:f.get a0=some b0)(h1:f.get a1=some b1)(h2:f.get a2=some b2)(h3:f.get a3=some b3)(h4:f.get a4=some b4)(h5:f.get a5=some b5)(h6:f.get a6=some b6)(h7:f.get a7=some b7)(h8:f.get a8=some b8):Fr.sub [(a0,b0),(a1,b1),(a2,b2),(a3,b3),(a4,b4),(a5,b5),(a6,b6),(a7,b7),(a8,b8)] f:=Fr.Zf h0 (Fr.Zf h1 (Fr.Zf h2 (Fr.Zf h3 (Fr.Zf h4 (Fr.Zf h5 (Fr.Zf h6 (Fr.Zf h7 (Fr.Zf h8 (Fr.Zs f)))))))))
theorem f10{f:Fr}{a0:Nat}{b0:Value}{a1:Nat}{b1:Value}{a2:Nat}{b2:Value}{a3:Nat}{b3:Value}{a4:Nat}{b4:Value}{a5:Nat}{b5:Value}{a6:Nat}{b6:Value}{a7:Nat}{b7:Value}{a8:Nat}{b8:Value}{a9:Nat}{b9:Value}(h0:f.get a0=some b0)(h1:f.get a1=some b1)(h2:f.get a2=some b2)(h3:f.get a3=some b3)(h4:f.get a4=some b4)(h5:f.get a5=some b5)(h6:f.get a6=some b6)(h7:f.get a7=some b7)(h8:f.get a8=some b8)(h9:f.get a9=some b9):Fr.sub [(a0,b0),(a1,b1),(a2,b2),(a3,b3),(a4,b4),(a5,b5),(a6,b6),(a7,b7),(a8,b8),(a9,b9)] f:=Fr.Zf h0 (Fr.Zf h1 (Fr.Zf h2 (Fr.Zf h3 (Fr.Zf h4 (Fr.Zf h5 (Fr.Zf h6 (Fr.Zf h7 (Fr.Zf h8 (Fr.Zf h9 (Fr.Zs f))))))))))
theorem f11{f:Fr}{a0:Nat}{b0:Value}{a1:Nat}{b1:Value}{a2:Nat}{b2:Value}{a3:Nat}{b3:Value}{a4:Nat}{b4:Value}{a5:Nat}{b5:Value}{a6:Nat}{b6:Value}{a7:Nat}{b7:Value}{a8:Nat}{b8:Value}{a9:Nat}{b9:Value}{a10:Nat}{b10:Value}(h0:f.get a0=some b0)(h1:f.get a1=some b1)(h2:f.get a2=some b2)(h3:f.get a3=some b3)(h4:f.get a4=some b4)(h5:f.get a5=some b5)(h6:f.get a6=some b6)(h7:f.get a7=some b7)(h8:f.get a8=some b8)(h9:f.get a9=some b9)(h10:f.get a10=some b10):Fr.sub [(a0,b0),(a1,b1),(a2,b2),(a3,b3),(a4,b4),(a5,b5),(a6,b6),(a7,b7),(a8,b8),(a9,b9),(a10,b10)] f:=Fr.Zf h0 (Fr.Zf h1 (Fr.Zf h2 (Fr.Zf h3 (Fr.Zf h4 (Fr.Zf h5 (Fr.Zf h6 (Fr.Zf h7 (Fr.Zf h8 (Fr.Zf h9 (Fr.Zf h10 (Fr.Zs f)))))))))))
theorem f12{f:Fr}{a0:Nat}{b0:Value}{a1:Nat}{b1:Value}{a2:Nat}{b2:Value}{a3:Nat}{b3:Value}{a4:Nat}{b4:Value}{a5:Nat}{b5:Value}{a6:Nat}{b6:Value}{a7:Nat}{b7:Value}{a8:Nat}{b8:Value}{a9:Nat}{b9:Value}{a10:Nat}{b10:Value}{a11:Nat}{b11:Value}(h0:f.get a0=some b0)(h1:f.get a1=some b1)(h2:f.get a2=some b2)(h3:f.get a3=some b3)(h4:f.get a4=some b4)(h5:f.get a5=some b5)(h6:f.get a6=some b6)(h7:f.get a7=some b7)(h8:f.get a8=some b8)(h9:f.get a9=some b9)(h10:f.get a10=some b10)(h11:f.get a11=some b11):Fr.sub [(a0,b0),(a1,b1),(a2,b2),(a3,b3),(a4,b4),(a5,b5),(a6,b6),(a7,b7),(a8,b8),(a9,b9),(a10,b10),(a11,b11)] f:=Fr.Zf h0 (Fr.Zf h1 (Fr.Zf h2 (Fr.Zf h3 (Fr.Zf h4 (Fr.Zf h5 (Fr.Zf h6 (Fr.Zf h7 (Fr.Zf h8 (Fr.Zf h9 (Fr.Zf h10 (Fr.Zf h11 (Fr.Zs f))))))))))))
theorem f13{f:Fr}{a0:Nat}{b0:Value}{a1:Nat}{b1:Value}{a2:Nat}{b2:Value}{a3:Nat}{b3:Value}{a4:Nat}{b4:Value}{a5:Nat}{b5:Value}{a6:Nat}{b6:Value}{a7:Nat}{b7:Value}{a8:Nat}{b8:Value}{a9:Nat}{b9:Value}{a10:Nat}{b10:Value}{a11:Nat}{b11:Value}{a12:Nat}{b12:Value}(h0:f.get a0=some b0)(h1:f.get a1=some b1)(h2:f.get a2=some b2)(h3:f.get a3=some b3)(h4:f.get a4=some b4)(h5:f.get a5=some b5)(h6:f.get a6=some b6)(h7:f.get a7=some b7)(h8:f.get a8=some b8)(h9:f.get a9=some b9)(h10:f.get a10=some b10)(h11:f.get a11=some b11)(h12:f.get a12=some b12):Fr.sub [(a0,b0),(a1,b1),(a2,b2),(a3,b3),(a4,b4),(a5,b5),(a6,b6),(a7,b7),(a8,b8),(a9,b9),(a10,b10),(a11,b11),(a12,b12)] f:=Fr.Zf h0 (Fr.Zf h1 (Fr.Zf h2 (Fr.Zf h3 (Fr.Zf h4 (Fr.Zf h5 (Fr.Zf h6 (Fr.Zf h7 (Fr.Zf h8 (Fr.Zf h9 (Fr.Zf h10 (Fr.Zf h11 (Fr.Zf h12 (Fr.Zs f)))))))))))))
theorem f14{f:Fr}{a0:Nat}{b0:Value}{a1:Nat}{b1:Value}{a2:Nat}{b2:Value}{a3:Nat}{b3:Value}{a4:Nat}{b4:Value}{a5:Nat}{b5:Value}{a6:Nat}{b6:Value}{a7:Nat}{b7:Value}{a8:Nat}{b8:Value}{a9:Nat}{b9:Value}{a10:Nat}{b10:Value}{a11:Nat}{b11:Value}{a12:Nat}{b12:Value}{a13:Nat}{b13:Value}(h0:f.get a0=some b0)(h1:f.get a1=some b1)(h2:f.get a2=some b2)(h3:f.get a3=some b3)(h4:f.get a4=some b4)(h5:f.get a5=some b5)(h6:f.get a6=some b6)(h7:f.get a7=some b7)(h8:f.get a8=some b8)(h9:f.get a9=some b9)(h10:f.get a10=some b10)(h11:f.get a11=some b11)(h12:f.get a12=some b12)(h13:f.get a13=some b13):Fr.sub [(a0,b0),(a1,b1),(a2,b2),(a3,b3),(a4,b4),(a5,b5),(a6,b6),(a7,b7),(a8,b8),(a9,b9),(a10,b10),(a11,b11),(a12,b12),(a13,b13)] f:=Fr.Zf h0 (Fr.Zf h1 (Fr.Zf h2 (Fr.Zf h3 (Fr.Zf h4 (Fr.Zf h5 (Fr.Zf h6 (Fr.Zf h7 (Fr.Zf h8 (Fr.Zf h9 (Fr.Zf h10 (Fr.Zf h11 (Fr.Zf h12 (Fr.Zf h13 (Fr.Zs f))))))))))))))
theorem f15{f:Fr}{a0:Nat}{b0:Value}{a1:Nat}{b1:Value}{a2:Nat}{b2:Value}{a3:Nat}{b3:Value}{a4:Nat}{b4:Value}{a5:Nat}{b5:Value}{a6:Nat}{b6:Value}{a7:Nat}{b7:Value}{a8:Nat}{b8:Value}{a9:Nat}{b9:Value}{a10:Nat}{b10:Value}{a11:Nat}{b11:Value}{a12:Nat}{b12:Value}{a13:Nat}{b13:Value}{a14:Nat}{b14:Value}(h0:f.get a0=some b0)(h1:f.get a1=some b1)(h2:f.get a2=some b2)(h3:f.get a3=some b3)(h4:f.get a4=some b4)(h5:f.get a5=some b5)(h6:f.get a6=some b6)(h7:f.get a7=some b7)(h8:f.get a8=some b8)(h9:f.get a9=some b9)(h10:f.get a10=some b10)(h11:f.get a11=some b11)(h12:f.get a12=some b12)(h13:f.get a13=some b13)(h14:f.get a14=some b14):Fr.sub [(a0,b0),(a1,b1),(a2,b2),(a3,b3),(a4,b4),(a5,b5),(a6,b6),(a7,b7),(a8,b8),(a9,b9),(a10,b10),(a11,b11),(a12,b12),(a13,b13),(a14,b14)] f:=Fr.Zf h0 (Fr.Zf h1 (Fr.Zf h2 (Fr.Zf h3 (Fr.Zf h4 (Fr.Zf h5 (Fr.Zf h6 (Fr.Zf h7 (Fr.Zf h8 (Fr.Zf h9 (Fr.Zf h10 (Fr.Zf h11 (Fr.Zf h12 (Fr.Zf h13 (Fr.Zf h14 (Fr.Zs f)))))))))))))))
theorem f16{f:Fr}{a0:Nat}{b0:Value}{a1:Nat}{b1:Value}{a2:Nat}{b2:Value}{a3:Nat}{b3:Value}{a4:Nat}{b4:Value}{a5:Nat}{b5:Value}{a6:Nat}{b6:Value}{a7:Nat}{b7:Value}{a8:Nat}{b8:Value}{a9:Nat}{b9:Value}{a10:Nat}{b10:Value}{a11:Nat}{b11:Value}{a12:Nat}{b12:Value}{a13:Nat}{b13:Value}{a14:Nat}{b14:Value}{a15:Nat}{b15:Value}(h0:f.get a0=some b0)(h1:f.get a1=some b1)(h2:f.get a2=some b2)(h3:f.get a3=some b3)(h4:f.get a4=some b4)(h5:f.get a5=some b5)(h6:f.get a6=some b6)(h7:f.get a7=some b7)(h8:f.get a8=some b8)(h9:f.get a9=some b9)(h10:f.get a10=some b10)(h11:f.get a11=some b11)(h12:f.get a12=some b12)(h13:f.get a13=some b13)(h14:f.get a14=some b14)(h15:f.get a15=some b15):Fr.sub [(a0,b0),(a1,b1),(a2,b2),(a3,b3),(a4,b4),(a5,b5),(a6,b6),(a7,b7),(a8,b8),(a9,b9),(a10,b10),(a11,b11),(a12,b12),(a13,b13),(a14,b14),(a15,b15)] f:=Fr.Zf h0 (Fr.Zf h1 (Fr.Zf h2 (Fr.Zf h3 (Fr.Zf h4 (Fr.Zf h5 (Fr.Zf h6 (Fr.Zf h7 (Fr.Zf h8 (Fr.Zf h9 (Fr.Zf h10 (Fr.Zf h11 (Fr.Zf h12 (Fr.Zf h13 (Fr.Zf h14 (Fr.Zf h15 (Fr.Zs f))))))))))))))))
theorem w1{w0:Bs}{G0 G:Mem}{L:Lo}{a0:Nat}{b0:Option Ow}(h0:L.get a0=b0):∀ w,St w0 G0 G L w->St w0 G0 G [(a0,b0)] w:=wk (Lo.Zf h0 (Lo.Zs L))
theorem w2{w0:Bs}{G0 G:Mem}{L:Lo}{a0:Nat}{b0:Option Ow}{a1:Nat}{b1:Option Ow}(h0:L.get a0=b0)(h1:L.get a1=b1):∀ w,St w0 G0 G L w->St w0 G0 G [(a0,b0),(a1,b1)] w:=wk (Lo.Zf h0 (Lo.Zf h1 (Lo.Zs L)))
theorem w3{w0:Bs}{G0 G:Mem}{L:Lo}{a0:Nat}{b0:Option Ow}{a1:Nat}{b1:Option Ow}{a2:Nat}{b2:Option Ow}(h0:L.get a0=b0)(h1:L.get a1=b1)(h2:L.get a2=b2):∀ w,St w0 G0 G L w->St w0 G0 G [(a0,b0),(a1,b1),(a2,b2)] w:=wk (Lo.Zf h0 (Lo.Zf h1 (Lo.Zf h2 (Lo.Zs L))))
theorem w4{w0:Bs}{G0 G:Mem}{L:Lo}{a0:Nat}{b0:Option Ow}{a1:Nat}{b1:Option Ow}{a2:Nat}{b2:Option Ow}{a3:Nat}{b3:Option Ow}(h0:L.get a0=b0)(h1:L.get a1=b1)(h2:L.get a2=b2)(h3:L.get a3=b3):∀ w,St w0 G0 G L w->St w0 G0 G [(a0,b0),(a1,b1),(a2,b2),(a3,b3)] w:=wk (Lo.Zf h0 (Lo.Zf h1 (Lo.Zf h2 (Lo.Zf h3 (Lo.Zs L)))))
theorem w5{w0:Bs}{G0 G:Mem}{L:Lo}{a0:Nat}{b0:Option Ow}{a1:Nat}{b1:Option Ow}{a2:Nat}{b2:Option Ow}{a3:Nat}{b3:Option Ow}{a4:Nat}{b4:Option Ow}(h0:L.get a0=b0)(h1:L.get a1=b1)(h2:L.get a2=b2)(h3:L.get a3=b3)(h4:L.get a4=b4):∀ w,St w0 G0 G L w->St w0 G0 G [(a0,b0),(a1,b1),(a2,b2),(a3,b3),(a4,b4)] w:=wk (Lo.Zf h0 (Lo.Zf h1 (Lo.Zf h2 (Lo.Zf h3 (Lo.Zf h4 (Lo.Zs L))))))
theorem w6{w0:Bs}{G0 G:Mem}{L:Lo}{a0:Nat}{b0:Option Ow}{a1:Nat}{b1:Option Ow}{a2:Nat}{b2:Option Ow}{a3:Nat}{b3:Option Ow}{a4:Nat}{b4:Option Ow}{a5:Nat}{b5:Option Ow}(h0:L.get a0=b0)(h1:L.get a1=b1)(h2:L.get a2=b2)(h3:L.get a3=b3)(h4:L.get a4=b4)(h5:L.get a5=b5):∀ w,St w0 G0 G L w->St w0 G0 G [(a0,b0),(a1,b1),(a2,b2),(a3,b3),(a4,b4),(a5,b5)] w:=wk (Lo.Zf h0 (Lo.Zf h1 (Lo.Zf h2 (Lo.Zf h3 (Lo.Zf h4 (Lo.Zf h5 (Lo.Zs L)))))))
theorem w7{w0:Bs}{G0 G:Mem}{L:Lo}{a0:Nat}{b0:Option Ow}{a1:Nat}{b1:Option Ow}{a2:Nat}{b2:Option Ow}{a3:Nat}{b3:Option Ow}{a4:Nat}{b4:Option Ow}{a5:Nat}{b5:Option Ow}{a6:Nat}{b6:Option Ow}(h0:L.get a0=b0)(h1:L.get a1=b1)(h2:L.get a2=b2)(h3:L.get a3=b3)(h4:L.get a4=b4)(h5:L.get a5=b5)(h6:L.get a6=b6):∀ w,St w0 G0 G L w->St w0 G0 G [(a0,b0),(a1,b1),(a2,b2),(a3,b3),(a4,b4),(a5,b5),(a6,b6)] w:=wk (Lo.Zf h0 (Lo.Zf h1 (Lo.Zf h2 (Lo.Zf h3 (Lo.Zf h4 (Lo.Zf h5 (Lo.Zf h6 (Lo.Zs L))))))))
theorem w8{w0:Bs}{G0 G:Mem}{L:Lo}{a0:Nat}{b0:Option Ow}{a1:Nat}{b1:Option Ow}{a2:Nat}{b2:Option Ow}{a3:Nat}{b3:Option Ow}{a4:Nat}{b4:Option Ow}{a5:Nat}{b5:Option Ow}{a6:Nat}{b6:Option Ow}{a7:Nat}{b7:Option Ow}(h0:L.get a0=b0)(h1:L.get a1=b1)(h2:L.get a2=b2)(h3:L.get a3=b3)(h4:L.get a4=b4)(h5:L.get a5=b5)(h6:L.get a6=b6)(h7:L.get a7=b7):∀ w,St w0 G0 G L w->St w0 G0 G [(a0,b0),(a1,b1),(a2,b2),(a3,b3),(a4,b4),(a5,b5),(a6,b6),(a7,b7)] w:=wk (Lo.Zf h0 (Lo.Zf h1 (Lo.Zf h2 (Lo.Zf h3 (Lo.Zf h4 (Lo.Zf h5 (Lo.Zf h6 (Lo.Zf h7 (Lo.Zs L)))))))))
abbrev a':=@WE.then
abbrev b':=@WE.thenRet
abbrev c':=@WC.seq
abbrev e':=@Zz
abbrev f':=@Y0.move
abbrev g':=@Y0.loadL
abbrev h':=@WE.thenExit
abbrev j':=@WE.ret1
abbrev k':=@WC.ret
abbrev l':=@WC.skip
abbrev m':=@Y0.loadLA
abbrev n':=@WC.region
abbrev o':=@WL.nil
abbrev p':=@Y0.pickF
abbrev q':=@underlying97
abbrev r':=@ZX
abbrev s':=@WC.block
abbrev t':=@Y0.pickT
abbrev u':=@YC.of
abbrev v':=@WE.inBlock
abbrev w':=@WE.inBlockRet
abbrev x':=@WL.storeLA
abbrev y':=@WE.exitHere
abbrev A':=@Ctr.enter
abbrev B':=@WL.call0
abbrev C':=@WE.backR
abbrev D':=@Zg5
abbrev E':=@WC.cr
abbrev F':=@underlying44
abbrev H':=@At.mono
abbrev I':=@Y0.add
abbrev J':=@underlying28
abbrev K':=@Y0.lenR
abbrev L':=@Y0.extract
abbrev M':=@ZoU
abbrev N':=@underlying29
abbrev O':=@WL.alloc
abbrev P':=@Y0.idxR
abbrev Q':=@WL.call
abbrev R':=@WC.meetH
abbrev T':=@WC.loopR
abbrev U':=@WC.exit
abbrev V':=@Y0.lss
abbrev W':=@WE.endH
abbrev X':=@SlR.at
abbrev Y':=@WL.box
abbrev Z':=@underlying191
abbrev aa':=@Zh2
abbrev ab':=@ZeM
abbrev ac':=@underlying225
abbrev ad':=@WC.drawn
abbrev ae':=@Y0.loadG
abbrev af':=@Chain.tail0
abbrev ag':=@underlying110
abbrev ah':=@SlR.nil
abbrev ai':=@ag31
abbrev aj':=@Y0.loadLP
abbrev ak':=@RV.cellA
abbrev al':=@WE.midH
abbrev am':=@WE.nx
abbrev an':=@Y0.not
abbrev ao':=@WL.cr
abbrev ap':=@WE.endRet
abbrev aq':=@ZqA
abbrev ar':=@WL.skip
abbrev as':=@Y0.loadGA
abbrev at':=@Y0.build
abbrev au':=@Y0.eql
abbrev av':=@WC.condT
abbrev aw':=@Chain.callU
abbrev ax':=@Y0.ZqY
abbrev ay':=@WC.crB
abbrev az':=@Y0.conv
abbrev aA':=@AtK.int
abbrev aB':=@WL.storeL
abbrev aC':=@WL.conseq
abbrev aD':=@WL.litR
abbrev aE':=@Zdr
abbrev aF':=@Y0.ZqQ
abbrev aG':=@Y0.ZqR
abbrev aH':=@Y0.ZqP
abbrev aI':=@underlying9
abbrev aJ':=@ag99
abbrev aK':=@WC.condF
abbrev aL':=@Y0.Zqo
abbrev aM':=@sz225
abbrev aN':=@underlying49
abbrev aO':=@underlying3
abbrev aP':=@WC.seqH
abbrev aQ':=@Y0.idxA0
abbrev aR':=@sz31
abbrev aS':=@AtK.via
abbrev aT':=@ag110
abbrev aU':=@underlying36
abbrev aV':=@Y0.geq
abbrev aW':=@WL.appendR
abbrev aX':=@Y0.ZqX
abbrev aY':=@Y0.idxRow
abbrev aZ':=@Y0.gtr
abbrev ba':=@ZeN
abbrev bb':=@Chain.skipU
abbrev bc':=@sc29
abbrev bd':=@ZdY
abbrev be':=@Y0.sub
abbrev bg':=@ag101
abbrev bh':=@sz152
abbrev bj':=@Y0.neq
abbrev bk':=@Y0.Zqd
abbrev bl':=@Y0.ZqT
abbrev bm':=@underlying5
abbrev bn':=@Chain.tailU1
abbrev bo':=@Zkg
abbrev bp':=@Zg3
abbrev bq':=@underlying134
abbrev br':=@underlying109
abbrev bs':=@sc97
abbrev bt':=@Y0.ZqS
abbrev bu':=@sc225
abbrev bv':=@ZL
abbrev bw':=@Y0.Zqc
abbrev bx':=@MapR.monoA
abbrev by':=@Y0.Zqg
abbrev bz':=@Chain.callUU
abbrev bA':=@underlying4
abbrev bB':=@Y0.Zqn
abbrev bC':=@Chain.y0UU
abbrev bD':=@Y0.Zqi
abbrev bE':=@WE.ret2
abbrev bF':=@sc28
abbrev bH':=@ZdX
abbrev bI':=@ZmC
abbrev bJ':=@Chain.alloc
abbrev bK':=@sz57
abbrev bL':=@Y0.rem
abbrev bM':=@WE.conseq
abbrev bN':=@Zi7
abbrev bO':=@WL.storeT
abbrev bP':=@AtK.snd
abbrev bQ':=@WL.freezeT
abbrev bS':=@AtK.fst
abbrev bT':=@AtK.str
abbrev bX':=@Chain.cr
abbrev bZ':=@Chain.floatUD
abbrev ca':=@CtrL.enter
abbrev cb':=@Y0.leq
abbrev cc':=@Tok.full
abbrev cd':=@underlying73
abbrev ce':=@sz101
abbrev cf':=@Chain.y0U
abbrev cg':=@Zib
abbrev ch':=@Chain.litU
abbrev ci':=@WL.callT
abbrev ck':=@Y0.ZqU
abbrev cl':=@sz99
abbrev cm':=@Chain.call0
abbrev cn':=@Lo.Zcv
abbrev co':=@ZpW
abbrev cp':=@Y0.eq
abbrev cv':=@WE.ret3
abbrev cx':=@Lo.ZqE
abbrev cy':=@Rp.vec
abbrev cz':=@underlying144
abbrev cA':=@ArRd.size
abbrev cE':=@RowR.at
abbrev cG':=@AtK.vec
abbrev cJ':=@WL.unX
abbrev cM':=@ag152
abbrev cN':=@ZnD
abbrev cT':=@Y0.indexS
abbrev cU':=@ArRd.zero
abbrev cV':=@underlying2
abbrev cZ':=@Y0.Zqe
abbrev dc':=@SlR.eqv
abbrev dd':=@SlR.std
abbrev df':=@underlying180
abbrev dg':=@AtK.sl
abbrev dh':=@Y0.idxAy
abbrev di':=@WL.adopt
abbrev dj':=@underlying136
abbrev dl':=@underlying104
abbrev dm':=@Chain.floatB
abbrev dn':=@WE.ret0
abbrev dq':=@WL.makeMap
abbrev dv':=@underlying67
abbrev dw':=@underlying22
abbrev dx':=@underlying65
abbrev dy':=@Y0.mul
abbrev dz':=@Y0.quo
abbrev dA':=@Chain.float
abbrev dC':=@WL.makeT
abbrev dD':=@Y0.loadT
abbrev dF':=@WL.mapPut
abbrev dG':=@MapR.mono
abbrev dI':=@ArRd.lt
abbrev dK':=@IterR.forget
abbrev dL':=@Chain.tailU2
abbrev dM':=@Chain.tailU3
abbrev dQ':=@Y0.Zqf
abbrev dU':=@WE.retN
abbrev dV':=@Y0.index
abbrev dW':=@Y0.eqlB
abbrev ea':=@WL.adoptL
abbrev eb':=@underlying118
abbrev ef':=@underlying102
abbrev el':=@underlying52
abbrev em':=@WE.exitOut
abbrev eo':=@Y0.Zqh
end Go.Proofs.YtnbpjambcagjcaaGreat

