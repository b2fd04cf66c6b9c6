/- The law SystemRenamed holds for every input: a part of its proof (what the code does, plain models, and what they return). No condition. -/
import Derived.Test.YtoakocgcakgpnaaGreatXR13c
import Derived.Test.YtoakocgcakgpnaaGreatXR13b
import Derived.Shelf.SlGeneric
import Derived.Shelf.SlLaysF0
import Derived.Shelf.SlLaysF
import Derived.Ground.SlsfProg
import Derived.Test.YtoakocgcakgpnaaGreatProg
set_option linter.unusedVariables false
set_option linter.unusedSimpArgs false
namespace Go.EL
open Go.IntKind (i8 i16 i32 i64 u8 u16 u32 u64)
open Go Go.RowKit
structure EqsOk (n:Nat) (next:Int) (l:List Zg):Prop where
 len:l.length<=12
 ids:∀ q ∈ l,1<=q.id/\q.id<next
 inc:l.Pairwise fun a b=>a.id<b.id
 pol:∀ q ∈ l,PolOk q.p/\fitB q.p (n:Int)=true
structure Good (s:Zm):Prop where
 vars:s.vars.length<=4
 name:∀ v ∈ s.vars,nameB v=true
 diff:s.vars.Pairwise fun a b=>a≠b
 next:1<=s.next/\s.next<=1000000
 eqs:EqsOk s.vars.length s.next s.eqs
 neqs:EqsOk s.vars.length s.next s.neqs
 apart:∀ a ∈ s.eqs,∀ b ∈ s.neqs,a.id≠b.id
theorem ZlG{p:List Za}(h:PolOk p){n:Nat}(hn:n<=4)(hf:fitB p (n:Int)=true):(ZdB p (n:Int)).Ret true:=by
 obtain⟨h1,h2⟩:=(Zbb (p:=p) (n:=n) (by omega)).1 hf
 have hw:u64.wrap (n:Int)=(n:Int):=by
  match n,hn with
  | 0,_=>rfl
  | 1,_=>rfl
  | 2,_=>rfl
  | 3,_=>rfl
  | 4,_=>rfl
 refine⟨true,ZfK h,_,ZcB h,?_⟩
 rw[Cq.Zh,if_pos ((Zb4 (by omega)).2 h2)]
 refine⟨_,ZfZ h.len,by rw[hw]; omega,?_⟩
 have hu:=ZfE p
 have hs:=ZdF.2 h1
 rw[Nat.shiftRight_eq_div_pow] at hs
 have hlt:(usesP p).toNat<2 ^ n:=by
  rcases Nat.div_eq_zero_iff.1 hs with h|h
  .have:=Nat.two_pow_pos n; omega
  exact h
 show _=_
 rw[hw,wrap64 (by omega)]
 refine decide_eq_true ?_
 match n,hn with
 | 0,_=>exact Int.lt_of_lt_of_le (show usesP p<1 by simp at hlt; omega) (by decide)
 | 1,_=>exact Int.lt_of_lt_of_le (show usesP p<2 by simp at hlt; omega) (by decide)
 | 2,_=>exact Int.lt_of_lt_of_le (show usesP p<4 by simp at hlt; omega) (by decide)
 | 3,_=>exact Int.lt_of_lt_of_le (show usesP p<8 by simp at hlt; omega) (by decide)
 | 4,_=>exact Int.lt_of_lt_of_le (show usesP p<16 by simp at hlt; omega) (by decide)
def idKey(l:List Int):List (Int×Bool):=l.map fun i=>(i,true)
theorem Zl6{l:List Int}{i:Int}(h:i ∉ l):mput (idKey l) i true=idKey (l++[i])/\mget (idKey l) i=none:=by
 have hn:∀ p ∈ idKey l,p.1≠i:=fun p hp e=>by
  obtain⟨j,hj,rfl⟩:=List.mem_map.1 hp
  exact h (e ▸ hj)
 exact⟨by rw[ZcN hn]; simp[idKey],Zfs hn⟩
def idsOf(l:List Zg):List Int:=l.map (·.id)
theorem Zit{l:List Zg}(h:l.Pairwise fun a b=>a.id<b.id){k:Nat}(hk:k<l.length):l[k].id ∉ idsOf (l.take k):=fun hm=>by
 obtain⟨q,hq,e⟩:=List.mem_map.1 hm
 obtain⟨i,hi,rfl⟩:=List.mem_iff_getElem.1 hq
 simp only[List.length_take] at hi
 rw[List.getElem_take] at e
 have:=List.pairwise_iff_getElem.1 h i k (by omega) hk (by omega)
 omega
theorem ZhN{s:Zm}(hv:s.vars.length<=4)(hnx:s.next<=1000000){l:List Zg}(h:EqsOk s.vars.length s.next l){m:List Int}(hm:∀ q ∈ l,q.id ∉ m)(hml:m.length<=100):
  (Zet s l (0,idKey m)).Ret (.inr (idKey (m++idsOf l))):=by
 have hl:=h.len
 refine Cq.Zk l.length (fun k st=>st=((k:Int),idKey (m++idsOf (l.take k)))) (fun k st hk hs=>?_) (fun st hs=>?_) (by simp[idsOf])
 .subst hs
  have hid:=h.ids _ (List.getElem_mem hk)
  obtain⟨hp,hf⟩:=h.pol _ (List.getElem_mem hk)
  have hnew:l[k].id ∉ m++idsOf (l.take k):=fun hh=>by
   rcases List.mem_append.1 hh with hh|hh
   .exact hm _ (List.getElem_mem hk) hh
   exact Zit h.inc hk hh
  obtain⟨hput,hget⟩:=Zl6 hnew
  have hwf:(Lit.int i64 l[k].id).wf=true:=by
   simp only[Lit.wf,Bool.and_eq_true,decide_eq_true_eq]
   exact⟨Int.le_trans (by decide) hid.1,Int.le_trans (Int.le_of_lt (Int.lt_of_lt_of_le hid.2 hnx)) (by decide)⟩
  have hk5:(Za6 s (k:Int) (idKey (m++idsOf (l.take k))) l[k]).wp (Out (fun s'=>s'=(((k+1:Nat):Int),idKey (m++idsOf (l.take (k+1))))) (fun a=>a=(.inr (idKey (m++idsOf l)):Bool⊕List (Int×Bool)))):=by
   refine⟨⟨hwf,?_⟩,true,Zev hp (by omega) |> (hf ▸ ·),?_⟩
   .rw[hput]
    simp[idKey,idsOf,small]; omega
   rw[Cq.Zh,if_neg (by decide)]
   show _=_
   have e:idsOf (l.take (k+1))=idsOf (l.take k)++[l[k].id]:=by
    unfold idsOf
    rw[<- List.take_append_getElem hk,List.map_append]
    rfl
   rw[hput,wrapN (by omega),List.append_assoc,e]
  refine Cq.wp.yes (p:=(k:Int)<(l.length:Int)) (by omega) ?_
  refine⟨l[k],idxN hk,?_⟩
  rw[Cq.Zh,if_neg (by omega),Cq.Zh,if_neg (by omega)]
  refine⟨hwf,?_⟩
  rw[hget,Cq.Zh,if_neg (by simp),Cq.Zh]
  split
  .rename_i h0
   obtain⟨j,rfl⟩:∃ j,k=j+1:=⟨k-1,by omega⟩
   have hj:i64.wrap (((j+1:Nat):Int)-1)=(j:Int):=by rw[wrap64 (by omega)]; omega
   rw[hj]
   have:=List.pairwise_iff_getElem.1 h.inc j (j+1) (by omega) hk (by omega)
   refine⟨l[j],idxN (by omega),?_⟩
   rw[Cq.Zh,if_neg (by omega)]
   exact hk5
  exact hk5
 subst hs
 show (if ((l.length:Nat):Int)<(l.length:Int) then _ else _:Cq _).wp _
 rw[Cq.Zh,if_neg (by omega),List.take_length]
 rfl
def nameKey(l:List ByteArray):List (ByteArray×Bool):=l.map fun i=>(i,true)
theorem Zkw{l:List ByteArray}{i:ByteArray}(h:i ∉ l):mput (nameKey l) i true=nameKey (l++[i])/\mget (nameKey l) i=none:=by
 have hn:∀ p ∈ nameKey l,p.1≠i:=fun p hp e=>by
  obtain⟨j,hj,rfl⟩:=List.mem_map.1 hp
  exact h (e ▸ hj)
 exact⟨by rw[ZcN hn]; simp[nameKey],Zfs hn⟩
theorem Zmc{v:ByteArray}(h:nameB v=true):v.size<=12:=by
 unfold nameB at h
 rw[Bool.and_eq_true,decide_eq_true_eq] at h
 exact h.1.2
theorem ZlO{s:Zm}(h:Good s):(Za7 s).Ret true:=by
 have he:=h.eqs.len
 show (Cq.next _ _).wp _
 refine Cq.Zk 2 (fun k st=>st=((k:Int),idKey (if k=0 then [] else if k=1 then idsOf s.eqs else idsOf s.eqs++idsOf s.neqs))) (fun k st hk hs=>?_) (fun st hs=>?_) rfl
 .subst hs
  rcases (show k=0\/k=1 by omega) with rfl|rfl
  .refine⟨s.eqs,⟨by omega,rfl⟩,?_⟩
   rw[Cq.Zh,if_neg (by omega)]
   show (Cq.next _ _).wp _
   refine (ZhN h.vars h.next.2 h.eqs (m:=[]) (fun _ _=>by simp) (by simp)).then ?_
   rfl
  have hne:=h.neqs.len
  refine⟨s.neqs,⟨by omega,rfl⟩,?_⟩
  rw[Cq.Zh,if_neg (by omega)]
  show (Cq.next _ _).wp _
  refine (ZhN h.vars h.next.2 h.neqs (m:=idsOf s.eqs) (fun q hq hm=>?_) (by simp[idsOf]; omega)).then ?_
  .obtain⟨a,ha,e⟩:=List.mem_map.1 hm
   exact h.apart a ha q hq e
  rfl
 subst hs
 rfl
theorem Zjh{s:Zm}(h:Good s):(ZaD s).Ret true:=by
 have hv:=h.vars
 have hn:=h.next
 unfold ZaD
 rw[if_neg (by omega),if_neg (by omega),if_neg (by omega)]
 show (Cq.next _ _).wp _
 refine Cq.Zk s.vars.length (fun k st=>st=((k:Int),nameKey (s.vars.take k))) (fun k st hk hs=>?_) (fun st hs=>?_) rfl
 .subst hs
  have hnew:s.vars[k] ∉ s.vars.take k:=fun hm=>by
   obtain⟨i,hi,e⟩:=List.mem_iff_getElem.1 hm
   simp only[List.length_take] at hi
   rw[List.getElem_take] at e
   exact List.pairwise_iff_getElem.1 h.diff i k (by omega) hk (by omega) e
  obtain⟨hput,hget⟩:=Zkw hnew
  have hnm:=h.name _ (List.getElem_mem hk)
  have hsz:=Zmc hnm
  refine Cq.wp.yes (p:=(k:Int)<(s.vars.length:Int)) (by omega) ?_
  refine⟨s.vars[k],idxN hk,true,hnm ▸ Zll _,by omega,?_⟩
  rw[hget,Cq.Zh,if_neg (by simp),hput]
  refine⟨⟨by omega,by simp[nameKey,small]; omega⟩,?_⟩
  show _=_
  rw[wrapN (by omega),List.take_append_getElem hk]
 subst hs
 refine Cq.wp.no (p:=((s.vars.length:Nat):Int)<(s.vars.length:Int)) (by omega) ?_
 exact ZlO h
end Go.EL

namespace Go.EL
open Go.IntKind (i8 i16 i32 i64 u8 u16 u32 u64)
open Go Go.RowKit
abbrev Pol:=List Za
instance decTermS:DecidableEq Za:=fun ⟨a1,a2⟩ ⟨b1,b2⟩=>decidable_of_iff (a1=b1/\a2=b2) (by simp)
def oneP:Pol:=[⟨ratI 1,fun _=>0⟩]
def zeroK:Zc:=⟨0,[],[]⟩
def onesF(l:List Pol):List Pol:=(l.filter fun p=>p.isEmpty).map fun _=>oneP
def eqsF(eqs neqs:List Pol):List Pol:=kept eqs false++onesF neqs
def normF(n:Int)(eqs neqs:List Pol):Zc×Int:=
 if 1<=n/\n<=4 then
  if (eqs++neqs).all (fun p=>fitB p n)=true then
   if 12<(srtP (eqsF eqs neqs)).length then (zeroK,2)
   else if 12<(srtP (kept neqs true)).length then (zeroK,2)
   else (⟨n,srtP (eqsF eqs neqs),srtP (kept neqs true)⟩,0)
  else (zeroK,1)
 else (zeroK,1)
theorem Zj1:PolOk oneP where
 ord:=List.pairwise_singleton _ _
 trm:=fun t ht=>by rw[oneP,List.mem_singleton] at ht; subst ht; exact⟨⟨1,rfl,by decide,by decide,by decide⟩,ok0⟩
 len:=by decide
theorem Zhr:primP oneP=oneP:=by decide +kernel
theorem ZiS:∀ l:List Pol,kept (onesF l) false=onesF l
 | []=>rfl
 | p::l=>by
  have ih:=ZiS l
  unfold onesF at ih ⊢
  rw[List.filter_cons]
  split
  .rw[List.map_cons]
   show (primP oneP::List.map primP _).filter _=_
   rw[List.filter_cons,if_pos (by rw[Zhr]; rfl),Zhr]
   exact congrArg _ ih
  exact ih
theorem Zku(a b:List Pol)(plain:Bool):kept (a++b) plain=kept a plain++kept b plain:=by unfold kept; rw[List.map_append,List.filter_append]
theorem Zhs{l:List Pol}:∀ p ∈ onesF l,p=oneP:=fun p hp=>by
 obtain⟨_,_,h⟩:=List.mem_map.1 hp
 exact h.symm
theorem Zft(l:List Pol):(onesF l).length<=l.length:=by unfold onesF; rw[List.length_map]; exact List.length_filter_le _ _
theorem Zbh(l:List Pol)(plain:Bool):(kept l plain).length<=l.length:=by unfold kept; exact Nat.le_trans (List.length_filter_le _ _) (Nat.le_of_eq (List.length_map _))
theorem ZjI(a b:List Pol):(eqsF a b).length<=a.length+b.length:=by
 have:=Zbh a false
 have:=Zft b
 unfold eqsF
 rw[List.length_append]
 omega
theorem ZnB{a b:List Pol}(ha:∀ p ∈ a,PolOk p):∀ p ∈ eqsF a b,PolOk p:=fun p hp=>by
 rcases List.mem_append.1 hp with h|h
 .exact Zeo ha p h
 rw[Zhs p h]; exact Zj1
theorem Zfl{p:Pol}(h:PolOk p)(hne:p≠[]):0<=degP p:=by
 obtain⟨t,ht⟩:=List.exists_mem_of_ne_nil _ hne
 by_cases hd:degP p<=-1
 .have:=(Zb4 (by decide)).1 hd t ht
  have h0:=(Zfk (h.trm t ht).m 8).1
  unfold degM at this
  omega
 omega
theorem Zky{p:Pol}(h:PolOk p){n:Nat}(hn:n<=4):(ZdB p (n:Int)).Ret (fitB p (n:Int)):=by
 cases hf:fitB p (n:Int) with
 | true=>exact ZlG h hn hf
 | false=>
  have hno:¬ (Within n p/\∀ t ∈ p,degM t.m<=12):=fun hw=>by rw[(Zbb (by omega)).2 hw] at hf; cases hf
  refine⟨true,ZfK h,_,ZcB h,?_⟩
  by_cases hd:degP p<=12
  .have hw:¬ Within n p:=fun hw=>hno ⟨hw,(Zb4 (by decide)).1 hd⟩
   have hu:=ZfE p
   have hs:¬ (usesP p).toNat >>> n=0:=fun e=>hw (ZdF.1 e)
   rw[Nat.shiftRight_eq_div_pow] at hs
   have hlt:2 ^ n<=(usesP p).toNat:=by
    by_cases hl:(usesP p).toNat<2 ^ n
    .exact absurd (Nat.div_eq_of_lt hl) hs
    omega
   have hwr:u64.wrap (n:Int)=(n:Int):=by
    match n,hn with
    | 0,_=>rfl
    | 1,_=>rfl
    | 2,_=>rfl
    | 3,_=>rfl
    | 4,_=>rfl
   refine Cq.wp.yes hd ⟨_,ZfZ h.len,by rw[hwr]; omega,?_⟩
   show _=_
   rw[hwr,wrap64 (by omega)]
   refine decide_eq_false ?_
   match n,hn with
   | 0,_=>exact Int.not_lt.2 (Int.le_trans (by decide) (show (1:Int)<=usesP p by simp at hlt; omega))
   | 1,_=>exact Int.not_lt.2 (Int.le_trans (by decide) (show (2:Int)<=usesP p by simp at hlt; omega))
   | 2,_=>exact Int.not_lt.2 (Int.le_trans (by decide) (show (4:Int)<=usesP p by simp at hlt; omega))
   | 3,_=>exact Int.not_lt.2 (Int.le_trans (by decide) (show (8:Int)<=usesP p by simp at hlt; omega))
   | 4,_=>exact Int.not_lt.2 (Int.le_trans (by decide) (show (16:Int)<=usesP p by simp at hlt; omega))
  exact Cq.wp.no hd rfl
theorem ZkD{l:List Pol}(hl:l.length<=100)(h:∀ p ∈ l,PolOk p){n:Nat}(hn:n<=4):(ZgD l (n:Int)).Ret (l.all fun p=>fitB p (n:Int)):=by
 refine (ZhJ l (n:Int) 0).mono (p:=fun o=>match o with | .inl v=>v=l.all fun p=>fitB p (n:Int) | .inr ()=>(l.all fun p=>fitB p (n:Int))=true) (fun o h=>?_) (Cq.Zk l.length (fun k s=>s=(k:Int)/\∀ i (h:i<l.length),i<k->fitB l[i] (n:Int)=true) ?_ ?_ ⟨rfl,fun i _ h=>absurd h (Nat.not_lt_zero _)⟩)
 .match o,h with
  | .inl v,h=>exact h
  | .inr (),h=>exact h.symm
 .rintro k s hk ⟨rfl,h1⟩
  refine Cq.wp.yes (by omega) ⟨_,idxN hk,_,Zky (h _ (List.getElem_mem hk)) hn,?_⟩
  by_cases hf:fitB l[k] (n:Int)=true
  .rw[hf]
   refine Cq.wp.no (by decide) ⟨wrapN (by omega),fun i hi hik=>?_⟩
   by_cases e:i=k
   .subst e; exact hf
   exact h1 i hi (by omega)
  rw[Bool.eq_false_iff.2 hf]
  refine Cq.wp.yes (by decide) ?_
  show false=_
  refine (Bool.eq_false_iff.2 fun ha=>?_).symm
  exact hf (List.all_eq_true.1 ha _ (List.getElem_mem hk))
 rintro s ⟨rfl,h1⟩
 refine Cq.wp.no (by omega) ?_
 refine List.all_eq_true.2 fun p hp=>?_
 obtain⟨i,hi,rfl⟩:=List.getElem_of_mem hp
 exact h1 i hi hi
theorem Zle{a b:List Pol}(ha:a.length<=100)(hb:b.length<=100):(ZT [a,b]).Ret (a++b):=by
 refine Cq.Zk 2 (fun k s=>s=(if k=0 then 0 else if k=1 then (a.length:Int) else (a.length:Int)+(b.length:Int),(k:Int))) (fun k s hk hs=>?_) (fun s hs=>?_) rfl
 .subst hs
  have e:k=0\/k=1:=by omega
  rcases e with rfl|rfl
  .refine Cq.wp.yes (by show (0:Int)<2; decide) ⟨a,⟨by decide,rfl⟩,?_⟩
   have:i64.wrap (0+(a.length:Int))=(a.length:Int):=by rw[wrap64 (by omega)]; omega
   refine Cq.wp.no (by rw[if_pos rfl,this]; omega) ?_
   show _=_
   rw[if_pos rfl,this]; rfl
  refine Cq.wp.yes (by show (1:Int)<2; decide) ⟨b,⟨by decide,rfl⟩,?_⟩
  have:i64.wrap ((a.length:Int)+(b.length:Int))=(a.length:Int)+(b.length:Int):=by rw[wrap64 (by omega)]
  refine Cq.wp.no (by rw[if_neg (by decide),if_pos rfl,this]; omega) ?_
  show _=_
  rw[if_neg (by decide),if_pos rfl,this]; rfl
 subst hs
 refine Cq.wp.no (by show ¬ (2:Int)<2; decide) ?_
 refine⟨[],⟨⟨?_,?_⟩,rfl⟩,?_⟩
 .rw[if_neg (by decide),if_neg (by decide)]; omega
 .rw[if_neg (by decide),if_neg (by decide)]; omega
 refine Cq.Zk 2 (fun k s=>s=(if k=0 then [] else if k=1 then a else a++b,(k:Int))) (fun k s hk hs=>?_) (fun s hs=>?_) rfl
 .subst hs
  have e:k=0\/k=1:=by omega
  rcases e with rfl|rfl
  .refine Cq.wp.yes (by show (0:Int)<2; decide) ⟨a,⟨by decide,rfl⟩,?_,?_⟩
   .rw[if_pos rfl,List.nil_append]; simp only[small]; omega
   show _=_
   rw[if_pos rfl,List.nil_append]; rfl
  refine Cq.wp.yes (by show (1:Int)<2; decide) ⟨b,⟨by decide,rfl⟩,?_,?_⟩
  .rw[if_neg (by decide),if_pos rfl,List.length_append]; simp only[small]; omega
  show _=_
  rw[if_neg (by decide),if_pos rfl]; rfl
 subst hs
 refine Cq.wp.no (by show ¬ (2:Int)<2; decide) ?_
 show _=_
 rw[if_neg (by decide),if_neg (by decide)]
theorem Zd3{n:Int}(h:1<=n/\n<=4):∃ m:Nat,n=(m:Int)/\1<=m/\m<=4:=⟨n.toNat,by omega,by omega,by omega⟩
theorem pWhole1:(ZcS 1).Ret (ratI 1):=Cq.Ret.Zu 20 (by decide +kernel)
theorem pConst1:(ZaX (ratI 1)).Ret oneP:=Cq.Ret.Zu 20 (by decide +kernel)
theorem rWhole1:(Zaa 1).Ret (ratI 1):=Cq.Ret.Zu 20 (by decide +kernel)
theorem rConst1:(Zcd (ratI 1)).Ret oneP:=Cq.Ret.Zu 20 (by decide +kernel)
theorem Zg6{l:List Pol}(hl:l.length<=100)(h:∀ p ∈ l,PolOk p):(ZbQ l).Ret (srtP l):=⟨⟨hl,List.all_eq_true.2 fun p hp=>(h p hp).good⟩,rfl⟩
theorem Zh3(l:List Pol){k:Nat}(hk:k<l.length):onesF (l.take (k+1))=onesF (l.take k)++(if l[k]=[] then [oneP] else []):=by
 unfold onesF
 rw[List.take_succ_eq_append_getElem hk,List.filter_append,List.map_append]
 congr 1
 rw[List.filter_cons]
 by_cases h:l[k]=[]
 .rw[if_pos (by simpa using h),if_pos h]; rfl
 rw[if_neg (by simpa using h),if_neg h]; rfl
theorem ZgT{n:Int}{eqs neqs:List Pol}(le:eqs.length<=40)(ln:neqs.length<=40)(he:∀ p ∈ eqs,PolOk p)(hn:∀ p ∈ neqs,PolOk p):(Z7 n eqs neqs).Ret (normF n eqs neqs):=by
 unfold normF
 by_cases h1:n<1
 .rw[if_neg (show ¬(1<=n/\n<=4) by omega)]; exact Cq.wp.yes h1 rfl
 refine Cq.wp.no h1 ?_
 by_cases h4:4<n
 .rw[if_neg (show ¬(1<=n/\n<=4) by omega)]; exact Cq.wp.yes h4 rfl
 refine Cq.wp.no h4 ?_
 rw[if_pos ⟨by omega,by omega⟩]
 obtain⟨m,rfl,m1,m4⟩:=Zd3 ⟨show 1<=n by omega,by omega⟩
 have hall:∀ p ∈ eqs++neqs,PolOk p:=fun p hp=>(List.mem_append.1 hp).elim (he p) (hn p)
 refine⟨eqs++neqs,Zle (by omega) (by omega),?_⟩
 have hlen:(eqs++neqs).length<=100:=by rw[List.length_append]; omega
 generalize hl:eqs++neqs=l at *
 refine (Zd7 (m:Int) l (0,zeroK)).mono (p:=fun o=>match o with | .inl v=>v=(zeroK,1)/\(l.all fun p=>fitB p (m:Int))=false | .inr _=>(l.all fun p=>fitB p (m:Int))=true) (fun o h=>?_) (Cq.Zk l.length (fun k s=>s=((k:Int),zeroK)/\∀ i (h:i<l.length),i<k->fitB l[i] (m:Int)=true) ?_ ?_ ⟨rfl,fun i _ h=>absurd h (Nat.not_lt_zero _)⟩)
 rotate_left
 .rintro k s hk ⟨rfl,h1⟩
  refine Cq.wp.yes (by omega) ⟨_,idxN hk,_,Zev (hall _ (List.getElem_mem hk)) (by omega),?_⟩
  by_cases hf:fitB l[k] (m:Int)=true
  .rw[hf]
   refine Cq.wp.no (by decide) ⟨by rw[wrapN (by omega)],fun i hi hik=>?_⟩
   by_cases e:i=k
   .subst e; exact hf
   exact h1 i hi (by omega)
  rw[Bool.eq_false_iff.2 hf]
  refine Cq.wp.yes (by decide) ⟨rfl,Bool.eq_false_iff.2 fun ha=>?_⟩
  exact hf (List.all_eq_true.1 ha _ (List.getElem_mem hk))
 .rintro s ⟨rfl,h1⟩
  refine Cq.wp.no (by omega) ?_
  refine List.all_eq_true.2 fun p hp=>?_
  obtain⟨i,hi,rfl⟩:=List.getElem_of_mem hp
  exact h1 i hi hi
 match o,h with
 | .inl v,⟨hv,hf⟩=>rw[hf,if_neg (by decide)]; exact hv
 | .inr _,ha=>
  rw[if_pos ha]
  show (ZaS (m:Int) eqs neqs).Ret _
  refine Cq.Zk eqs.length (fun k s=>s=(kept (eqs.take k) false,(k:Int))) (fun k s hk hs=>?_) (fun s hs=>?_) rfl
  .subst hs
   refine Cq.wp.yes (by omega) ⟨_,idxN hk,?_⟩
   have hs:=Zc8 eqs false hk
   have:=Zbh (eqs.take k) false
   rw[List.length_take] at this
   by_cases h0:eqs[k]=[]
   .refine Cq.wp.no (by rw[h0]; decide) ?_
    show _=_
    rw[hs,h0,if_neg (by decide),List.append_nil,wrapN (by omega)]
   have hp:0<eqs[k].length:=List.length_pos_iff.2 h0
   refine Cq.wp.yes (by omega) ⟨_,Ze3 (he _ (List.getElem_mem hk)) h0,?_,?_⟩
   .rw[List.length_append,List.length_singleton]; simp only[small]; omega
   show _=_
   have hk:keepP false (primP eqs[k])=true:=by
    have:(primP eqs[k]).isEmpty=false:=by simpa using fun e=>h0 (Zd5.1 e)
    unfold keepP; rw[this]; rfl
   rw[hs,hk,if_pos rfl,wrapN (by omega)]
  subst hs
  refine Cq.wp.no (by omega) ?_
  rw[List.take_of_length_le (Nat.le_refl _)]
  show (ZaR (m:Int) neqs (kept eqs false)).Ret _
  refine Cq.Zk neqs.length (fun k s=>s=(kept eqs false++onesF (neqs.take k),kept (neqs.take k) true,(k:Int))) (fun k s hk hs=>?_) (fun s hs=>?_) (by show _=_; rw[List.take_zero]; show _=(kept eqs false++[],_,_); rw[List.append_nil]; rfl)
  .subst hs
   have hs:=Zc8 neqs true hk
   have ho:=Zh3 neqs hk
   have l1:=Zbh (neqs.take k) true
   have l2:=Zbh eqs false
   have l3:=Zft (neqs.take k)
   rw[List.length_take] at l1 l3
   refine Cq.wp.yes (by omega) ⟨_,idxN hk,?_⟩
   by_cases h0:neqs[k]=[]
   .refine Cq.wp.yes (by rw[h0]; rfl) ⟨_,pWhole1,_,pConst1,?_,?_⟩
    .rw[List.length_append,List.length_append,List.length_singleton]; simp only[small]; omega
    show _=_
    rw[hs,ho,h0,if_pos rfl,if_neg (by decide),List.append_nil,wrapN (by omega),List.append_assoc]
   have hp:0<neqs[k].length:=List.length_pos_iff.2 h0
   have hok:=hn _ (List.getElem_mem hk)
   have hne:(primP neqs[k]).isEmpty=false:=by simpa using fun e=>h0 (Zd5.1 e)
   have hnn:=Zfl hok h0
   refine Cq.wp.no (by omega) ⟨_,ZcU hok,?_⟩
   by_cases hd:0<degP neqs[k]
   .refine Cq.wp.yes hd ⟨_,Ze3 hok h0,?_,?_⟩
    .rw[List.length_append,List.length_singleton]; simp only[small]; omega
    show _=_
    have hk:keepP true (primP neqs[k])=true:=by unfold keepP; rw[hne,ZbX,decide_eq_false (by omega)]; rfl
    rw[hs,ho,if_neg h0,hk,if_pos rfl,wrapN (by omega),List.append_nil]
   refine Cq.wp.no hd ?_
   show _=_
   have hk:keepP true (primP neqs[k])=false:=by unfold keepP; rw[ZbX,decide_eq_true (by omega)]; simp
   rw[hs,ho,if_neg h0,hk,if_neg (by decide),wrapN (by omega),List.append_nil,List.append_nil]
  subst hs
  refine Cq.wp.no (by omega) ?_
  rw[List.take_of_length_le (Nat.le_refl _)]
  show (ZaQ (m:Int) (eqsF eqs neqs) (kept neqs true)).Ret _
  have l1:=ZjI eqs neqs
  have l2:=Zbh neqs true
  refine⟨_,Zg6 (by omega) (ZnB he),_,Zg6 (by omega) (Zeo hn),?_⟩
  by_cases q1:12<(srtP (eqsF eqs neqs)).length
  .rw[if_pos q1]; exact Cq.wp.yes (by omega) rfl
  rw[if_neg q1]
  refine Cq.wp.no (by omega) ?_
  by_cases q2:12<(srtP (kept neqs true)).length
  .rw[if_pos q2]; exact Cq.wp.yes (by omega) rfl
  rw[if_neg q2]; exact Cq.wp.no (by omega) rfl
theorem Zkq{n:Int}{eqs neqs:List Pol}(le:eqs.length<=40)(ln:neqs.length<=40)(he:∀ p ∈ eqs,PolOk p)(hn:∀ p ∈ neqs,PolOk p):(Zfg n eqs neqs).Ret (normF n eqs neqs):=by
 unfold normF
 by_cases h1:n<1
 .rw[if_neg (show ¬(1<=n/\n<=4) by omega)]; exact Cq.wp.yes h1 rfl
 refine Cq.wp.no h1 ?_
 by_cases h4:4<n
 .rw[if_neg (show ¬(1<=n/\n<=4) by omega)]; exact Cq.wp.yes h4 rfl
 refine Cq.wp.no h4 ?_
 rw[if_pos ⟨by omega,by omega⟩]
 obtain⟨m,rfl,m1,m4⟩:=Zd3 ⟨show 1<=n by omega,by omega⟩
 refine⟨_,ZkD (by omega) he m4,?_⟩
 rw[List.all_append]
 cases ha:eqs.all fun p=>fitB p (m:Int) with
 | false=>exact rfl
 | true=>
 refine⟨_,ZkD (by omega) hn m4,?_⟩
 cases hb:neqs.all fun p=>fitB p (m:Int) with
 | false=>exact Cq.wp.yes (by decide) rfl
 | true=>
 refine Cq.wp.no (by decide) ?_
 rw[if_pos (by decide)]
 refine⟨?_,?_⟩
 .rw[List.nil_append]; simp only[small]; omega
 rw[List.nil_append]
 refine Cq.Zk neqs.length (fun k s=>s=(eqs++onesF (neqs.take k),(k:Int))) (fun k s hk hs=>?_) (fun s hs=>?_) (by show _=_; rw[List.take_zero]; show _=(eqs++[],_); rw[List.append_nil]; rfl)
 .subst hs
  have ho:=Zh3 neqs hk
  have l3:=Zft (neqs.take k)
  rw[List.length_take] at l3
  refine Cq.wp.yes (by omega) ⟨_,idxN hk,?_⟩
  by_cases h0:neqs[k]=[]
  .refine Cq.wp.yes (by rw[h0]; rfl) ⟨_,rWhole1,_,rConst1,?_,?_⟩
   .rw[List.length_append,List.length_append,List.length_singleton]; simp only[small]; omega
   show _=_
   rw[ho,h0,if_pos rfl,wrapN (by omega),List.append_assoc]
  have hp:0<neqs[k].length:=List.length_pos_iff.2 h0
  refine Cq.wp.no (by omega) ?_
  show _=_
  rw[ho,if_neg h0,wrapN (by omega),List.append_nil]
 subst hs
 refine Cq.wp.no (by omega) ?_
 rw[List.take_of_length_le (Nat.le_refl _)]
 show (ZbL (m:Int) neqs (eqs++onesF neqs)).Ret _
 have l3:=Zft neqs
 have hl:∀ p ∈ eqs++onesF neqs,PolOk p:=fun p hp=>(List.mem_append.1 hp).elim (he p) (fun h=>by rw[Zhs p h]; exact Zj1)
 have e:kept (eqs++onesF neqs) false=eqsF eqs neqs:=by rw[Zku,ZiS]; rfl
 refine⟨_,ZeS (by rw[List.length_append]; omega) hl false,_,ZeS (by omega) hn true,?_⟩
 rw[e]
 by_cases q1:12<(srtP (eqsF eqs neqs)).length
 .rw[if_pos q1]; exact Cq.wp.yes (by omega) rfl
 rw[if_neg q1]
 refine Cq.wp.no (by omega) ?_
 by_cases q2:12<(srtP (kept neqs true)).length
 .rw[if_pos q2]; exact Cq.wp.yes (by omega) rfl
 rw[if_neg q2]; exact Cq.wp.no (by omega) rfl
end Go.EL

namespace Go.EL
open Go.IntKind (i8 i16 i32 i64 u8 u16 u32 u64)
open Go Go.RowKit
theorem ZjY:∀ (f:Nat) (n:Int),(natG f n).length<=f+1
 | 0,_=>by simp[natG]
 | f+1,n=>by
  unfold natG
  split
  .have:=ZjY f (u64.wrap (Int.tdiv n 128)); rw[List.length_cons]; omega
  simp
theorem Zbj(n:Int):(natW n).length<=11:=ZjY 10 n
theorem tdiv128{n:Int}(h0:0<=n):0<=Int.tdiv n 128/\Int.tdiv n 128=n / 128:=⟨Int.tdiv_nonneg h0 (by decide),Int.tdiv_eq_ediv_of_nonneg h0⟩
theorem ZjA:∀ (f:Nat) (b:List Int) (n:Int),0<=n->n<128 ^ (f+1)->n<18446744073709551616->b.length+f+1<=1000000->(Zdz (b,n)).wp fun o=>(Zbr o.1 o.2).Ret (b++natG f n)
 | 0,b,n,h0,h1,h2,hb=>by
  refine Cq.Zb5 (Cq.wp.no (by omega) ?_)
  show (Zbr b n).Ret _
  refine⟨?_,rfl⟩
  rw[List.length_append,List.length_singleton]; simp only[small]; omega
 | f+1,b,n,h0,h1,h2,hb=>by
  by_cases h:127<n
  .refine Cq.Zb5 (Cq.wp.yes h ⟨?_,?_⟩)
   .rw[List.length_append,List.length_singleton]; simp only[small]; omega
   obtain⟨d0,d1⟩:=tdiv128 h0
   have hlt:n / 128<128 ^ (f+1):=Int.ediv_lt_of_lt_mul (by decide) (by rw[<- Int.pow_succ]; exact h1)
   have hw:u64.wrap (Int.tdiv n 128)=n / 128:=by rw[d1]; exact Zdd ⟨by omega,by omega⟩
   show (Zdz _).wp _
   have ih:=ZjA f (b++[u8.wrap (u8.wrap (Int.tmod n 128)+128)]) (u64.wrap (Int.tdiv n 128)) (by omega) (by rw[hw]; exact hlt) (by omega) (by rw[List.length_append,List.length_singleton]; omega)
   refine (Zdz _).mono (fun o ho=>?_) ih
   rw[List.append_assoc] at ho
   unfold natG
   rw[if_pos (show 128<=n by omega)]
   exact ho
  refine Cq.Zb5 (Cq.wp.no h ?_)
  show (Zbr b n).Ret _
  unfold natG
  rw[if_neg (show ¬ 128<=n by omega)]
  refine⟨?_,rfl⟩
  rw[List.length_append,List.length_singleton]; simp only[small]; omega
theorem p128:(128:Int) ^ (10+1)=151115727451828646838272:=by decide
theorem Zd0{b:List Int}{n:Int}(h:0<=n/\n<18446744073709551616)(hb:b.length<=900000):(ZcE b n).Ret (b++natW n):=by
 have h1:=p128
 exact ZjA 10 b n h.1 (by omega) h.2 (by omega)
theorem ZgG{n:Nat}(h:n<=1000000):u64.wrap (n:Int)=(n:Int):=Zdd ⟨by omega,by omega⟩
theorem Zi7(d:Int):(wordW d).length=4:=rfl
theorem ZbS{α:Type}{f:α->List Int}{K:Nat}:∀ {l:List α},(∀ x ∈ l,(f x).length<=K)->(l.flatMap f).length<=K*l.length
 | [],_=>Nat.le_refl _
 | x::l,h=>by
  have h1:=h x (by simp)
  have h2:=ZbS (l:=l) (fun y hy=>h y (by simp[hy]))
  rw[List.flatMap_cons,List.length_append,List.length_cons,Nat.mul_succ]
  omega
theorem Zga{α:Type}(f:α->List Int)(l:List α){k:Nat}(hk:k<l.length):(l.take (k+1)).flatMap f=(l.take k).flatMap f++f l[k]:=by
 rw[List.take_succ_eq_append_getElem hk,List.flatMap_append]
 simp
theorem Zhm{a:Zb}(h:a.mag.length<=1):(intW a).length<=15:=by
 unfold intW
 rw[List.length_append]
 have h1:=Zbj (if a.neg=true then u64.wrap (u64.wrap (2*u64.wrap (a.mag.length:Int))+1) else u64.wrap (2*u64.wrap (a.mag.length:Int)))
 have h2:=ZbS (K:=4) (l:=a.mag) (f:=wordW) (fun x _=>Nat.le_of_eq (Zi7 x))
 omega
theorem ZhM{b:List Int}{a:Zb}(h:a.mag.length<=1)(hb:b.length<=800000):(Zc4 b a).Ret (b++intW a):=by
 have key:∀ s:Int,0<=s->s<=1->(Zcg b a s).Ret (b++(natW (u64.wrap (u64.wrap (u64.wrap (a.mag.length:Int)*2)+s))++a.mag.flatMap wordW)):=fun s s0 s1=>by
  have e1:=ZgG (n:=a.mag.length) (by omega)
  have e2:u64.wrap ((a.mag.length:Int)*2)=(a.mag.length:Int)*2:=Zdd ⟨by omega,by omega⟩
  have e3:u64.wrap ((a.mag.length:Int)*2+s)=(a.mag.length:Int)*2+s:=Zdd ⟨by omega,by omega⟩
  refine⟨_,Zd0 (by rw[e1,e2,e3]; omega) (by omega),?_⟩
  have hn:=Zbj (u64.wrap (u64.wrap (u64.wrap (a.mag.length:Int)*2)+s))
  generalize natW (u64.wrap (u64.wrap (u64.wrap (a.mag.length:Int)*2)+s))=N at *
  refine Cq.Zk a.mag.length (fun k st=>st=(b++N++(a.mag.take k).flatMap wordW,(k:Int))) (fun k st hk hs=>?_) (fun st hs=>?_) (by show _=_; simp)
  .subst hs
   refine Cq.wp.yes (by omega) ⟨_,idxN hk,?_,?_⟩
   .have:=ZbS (K:=4) (l:=a.mag.take k) (f:=wordW) (fun x _=>Nat.le_of_eq (Zi7 x))
    rw[List.length_take] at this
    simp only[List.length_append,List.length_cons,List.length_nil,small]; omega
   show _=_
   rw[wrapN (by omega),Zga wordW a.mag hk,<- List.append_assoc]
   rfl
  subst hs
  refine Cq.wp.no (by omega) ?_
  rw[List.take_of_length_le (Nat.le_refl _)]
  show _=_
  rw[List.append_assoc]
 unfold Zc4
 have e1:=ZgG (n:=a.mag.length) (by omega)
 have e2:u64.wrap ((a.mag.length:Int)*2)=(a.mag.length:Int)*2:=Zdd ⟨by omega,by omega⟩
 by_cases hn:a.neg=true
 .refine Cq.wp.yes hn ?_
  have:=key 1 (by decide) (by decide)
  unfold intW
  rw[if_pos hn,Int.mul_comm 2]
  exact this
 refine Cq.wp.no hn ?_
 have:=key 0 (by decide) (by decide)
 unfold intW
 rw[if_neg hn,Int.mul_comm 2]
 rw[Int.add_zero,e1,e2,e2] at this
 rw[e1,e2]
 exact this
theorem PolOk.mags{p:Pol}(h:PolOk p){t:Za}(ht:t ∈ p):t.c.num.mag.length<=1/\t.c.den.mag.length<=1:=by
 obtain⟨e1,e2⟩:=h.parts ht
 rw[e1,e2]
 refine⟨?_,Nat.le_refl 1⟩
 show (magI _).length<=1
 unfold magI
 split <;> simp
theorem Zj5{p:Pol}(h:PolOk p){t:Za}(ht:t ∈ p):(ratW t.c).length<=30:=by
 obtain⟨h1,h2⟩:=h.mags ht
 have:=Zhm h1
 have:=Zhm h2
 unfold ratW
 rw[List.length_append]
 omega
theorem Zhp(m:M):∀ k,(monW m k).length<=11*k
 | 0=>Nat.le_refl _
 | k+1=>by
  have:=Zhp m k
  have:=Zbj (u64.wrap (getF m (k:Int)))
  unfold monW
  rw[List.length_append]
  omega
theorem Zi1{p:Pol}(h:PolOk p){t:Za}(ht:t ∈ p):(termW t).length<=118:=by
 have:=Zj5 h ht
 have:=Zhp t.m 8
 unfold termW
 rw[List.length_append]
 omega
theorem ZiU{p:Pol}(h:PolOk p):(polyW p).length<=11811:=by
 have h1:=Zbj (u64.wrap (p.length:Int))
 have h2:=ZbS (f:=termW) (K:=118) (fun t ht=>Zi1 h ht)
 have h3:=h.len
 have:118*p.length<=11800:=by omega
 unfold polyW
 rw[List.length_append]
 omega
theorem Zfy{l:List Pol}(h:∀ p ∈ l,PolOk p)(hl:l.length<=12):(polysW l).length<=150000:=by
 have h1:=Zbj (u64.wrap (l.length:Int))
 have h2:=ZbS (f:=polyW) (K:=11811) (fun p hp=>ZiU (h p hp))
 have:11811*l.length<=141732:=by omega
 unfold polysW
 rw[List.length_append]
 omega
theorem ZlL{b:List Int}{p:Pol}(h:PolOk p)(hb:b.length<=700000):(Zhe b p).Ret (b++polyW p):=by
 have hl:=h.len
 have e1:=ZgG (n:=p.length) (by omega)
 refine⟨_,Zd0 (by rw[e1]; omega) (by omega),?_⟩
 unfold polyW
 have hn:=Zbj (u64.wrap (p.length:Int))
 generalize natW (u64.wrap (p.length:Int))=N at *
 refine Cq.Zk p.length (fun k st=>st=(b++N++(p.take k).flatMap termW,(k:Int))) (fun k st hk hs=>?_) (fun st hs=>?_) (by show _=_; simp)
 .subst hs
  have ht:=List.getElem_mem hk
  obtain⟨m1,m2⟩:=h.mags ht
  have hf:=ZbS (K:=118) (l:=p.take k) (f:=termW) (fun x hx=>Zi1 h (List.mem_of_mem_take hx))
  rw[List.length_take] at hf
  have hf2:118*min k p.length<=11800:=by omega
  have hr:=Zj5 h ht
  refine Cq.wp.yes (by omega) ⟨_,idxN hk,b++N++(p.take k).flatMap termW++ratW p[k].c,⟨_,ZhM m1 (by simp only[List.length_append]; omega),_,ZhM m2 (by
   have:=Zhm m1
   simp only[List.length_append]; omega),?_⟩,?_⟩
  .show _=_
   unfold ratW
   simp only[List.append_assoc]
  generalize hB:b++N++(p.take k).flatMap termW++ratW p[k].c=B
  have hBl:B.length<=750000:=by rw[<- hB]; simp only[List.length_append]; omega
  refine Cq.Zk 8 (fun j st=>st=(B++monW p[k].m j,(j:Int))) (fun j st hj hs=>?_) (fun st hs=>?_) (by show _=_; simp[monW])
  .subst hs
   have hm:=(h.mono _ ht) ⟨j,hj⟩
   have hml:=Zhp p[k].m j
   have hu:u64.wrap (p[k].m ⟨j,hj⟩)=p[k].m ⟨j,hj⟩:=Zdd ⟨by omega,by omega⟩
   refine Cq.wp.yes (by omega) ⟨_,idxN hk,⟨by omega,by omega⟩,B++monW p[k].m j++natW (u64.wrap (getF p[k].m (j:Int))),Zd0 (by rw[getFN hj,hu]; omega) (by rw[List.length_append]; omega),?_⟩
   show _=_
   rw[wrapN (by omega),List.append_assoc]
   rfl
  subst hs
  refine Cq.wp.no (by decide) ?_
  show _=_
  rw[wrapN (by omega),Zga termW p hk,<- hB]
  unfold termW
  simp only[List.append_assoc]
 subst hs
 refine Cq.wp.no (by omega) ?_
 rw[List.take_of_length_le (Nat.le_refl _)]
 show _=_
 rw[List.append_assoc]
theorem ZhK{b:List Int}{l:List Pol}(h:∀ p ∈ l,PolOk p)(hl:l.length<=12)(hb:b.length<=500000):(Zei b l).Ret (b++polysW l):=by
 have e1:=ZgG (n:=l.length) (by omega)
 refine⟨_,Zd0 (by rw[e1]; omega) (by omega),?_⟩
 unfold polysW
 have hn:=Zbj (u64.wrap (l.length:Int))
 generalize natW (u64.wrap (l.length:Int))=N at *
 refine Cq.Zk l.length (fun k st=>st=(b++N++(l.take k).flatMap polyW,(k:Int))) (fun k st hk hs=>?_) (fun st hs=>?_) (by show _=_; simp)
 .subst hs
  have hf:=ZbS (K:=11811) (l:=l.take k) (f:=polyW) (fun x hx=>ZiU (h x (List.mem_of_mem_take hx)))
  rw[List.length_take] at hf
  have hf2:11811*min k l.length<=141732:=by omega
  refine Cq.wp.yes (by omega) ⟨_,idxN hk,_,ZlL (h _ (List.getElem_mem hk)) (by simp only[List.length_append]; omega),?_⟩
  show _=_
  rw[wrapN (by omega),Zga polyW l hk]
  simp only[List.append_assoc]
 subst hs
 refine Cq.wp.no (by omega) ?_
 rw[List.take_of_length_le (Nat.le_refl _)]
 show _=_
 rw[List.append_assoc]
structure PartOk (n:Int) (least:Int) (l:List Pol):Prop where
 len:l.length<=12
 pol:∀ p ∈ l,PolOk p/\fitB p n=true/\p≠[]/\primP p=p/\least<=degP p
 st:Strict l
structure CoreOk (k:Zc):Prop where
 n:1<=k.n/\k.n<=4
 eqs:PartOk k.n 0 k.eqs
 neqs:PartOk k.n 1 k.neqs
theorem ZjZ(n:Int):(numW n).length<=11:=Zbj _
theorem ZlJ{k:Zc}(hn:0<=k.n/\k.n<=1000)(he:∀ p ∈ k.eqs,PolOk p)(hi:∀ p ∈ k.neqs,PolOk p)(le:k.eqs.length<=12)(li:k.neqs.length<=12):(ZdT [] k).Ret (coreW k):=by
 have hu:u64.wrap k.n=k.n:=Zdd ⟨by omega,by omega⟩
 have hu2:u64.wrap (k.n*2)=k.n*2:=Zdd ⟨by omega,by omega⟩
 have h1:=ZjZ k.n
 have h2:=Zfy he le
 refine⟨numW k.n,Cq.wp.no (by omega) ⟨_,Zd0 (b:=[]) (by rw[hu,hu2]; omega) (by simp),?_⟩,_,ZhK he le (by omega),_,ZhK hi li (by rw[List.length_append]; omega),?_⟩
 .show _=_
  unfold numW
  rw[Int.mul_comm 2]
  rfl
 rfl
theorem ZlS{k:Zc}(h:CoreOk k):(coreW k).length<=1000000:=by
 have h1:=ZjZ k.n
 have h2:=Zfy (fun p hp=>(h.eqs.pol p hp).1) h.eqs.len
 have h3:=Zfy (fun p hp=>(h.neqs.pol p hp).1) h.neqs.len
 unfold coreW
 simp only[List.length_append]
 omega
theorem ZlX{p:Pol}{n:Int}(h:fitB p n=true):(Int.fdiv (i64.wrap (usesP p)) (2 ^ (min n.toNat i64.bits)))=0/\degP p<=12:=by
 unfold fitB at h
 split at h
 .exact⟨‹_›,of_decide_eq_true h⟩
 cases h
theorem Zms{l:List Pol}(h:Strict l){k:Nat}(hk:k+1<l.length):cmpP l[k] l[k+1]<0:=List.pairwise_iff_getElem.1 h k (k+1) (by omega) hk (by omega)
theorem Zg5{k:Zc}(hn:1<=k.n/\k.n<=4){least:Int}{l:List Pol}(h:PartOk k.n least l):(_eliminant_claim_rules_sorted ⟨k⟩ l least).Ret true:=by
 have hl:=h.len
 refine Cq.wp.no (by omega) ?_
 refine Cq.Zk l.length (fun j s=>s=(j:Int)) (fun j s hj hs=>?_) (fun s hs=>?_) rfl
 .subst hs
  obtain⟨q1,q2,q3,q4,q5⟩:=h.pol _ (List.getElem_mem hj)
  obtain⟨f1,f2⟩:=ZlX q2
  refine Cq.wp.yes (by omega) ⟨_,idxN hj,true,⟨true,Zco q1,_,ZjC q1.len,by show 0<=k.n; omega,Cq.wp.yes f1 ⟨_,ZcU q1,decide_eq_true f2⟩⟩,_,ZcU q1,Cq.wp.no (by omega) ⟨_,Ze3 q1 q3,true,?_,Cq.wp.no (by decide) ?_⟩⟩
  .rw[q4]
   have:=ZfT q1.good q1.good
   rw[Zc6] at this
   exact this
  by_cases h0:(0:Int)<(j:Int)
  .obtain⟨i,rfl⟩:∃ i,j=i+1:=⟨j-1,by omega⟩
   have hi:i64.wrap (((i+1:Nat):Int)-1)=(i:Int):=by rw[wrap64 (by omega)]; omega
   have hc:=Zms h.st hj
   refine Cq.wp.yes h0 ?_
   rw[hi]
   refine⟨_,idxN (by omega),_,Zjl (h.pol _ (List.getElem_mem (by omega))).1.good q1.good,Cq.wp.no (by omega) ?_⟩
   exact wrapN (by omega)
  exact Cq.wp.no h0 (wrapN (by omega))
 subst hs
 exact Cq.wp.no (by omega) rfl
theorem Zk9{k:Zc}(h:CoreOk k):(ZeG k).Ret true:=
 ⟨true,Cq.wp.yes h.n.1 (Cq.wp.yes h.n.2 ⟨true,Zg5 h.n h.eqs,true,Zg5 h.n h.neqs,rfl⟩),rfl⟩
def keyB(k:Zc):ByteArray:=bytesOf (coreW k)
theorem Znp{k:Zc}(h:CoreOk k):(Zf6 k).Ret (keyB k):=⟨true,Zk9 h,⟨by have:=h.n; omega,ZlS h⟩,rfl⟩
end Go.EL

namespace Go.EL
open Go.IntKind (i8 i16 i32 i64 u8 u16 u32 u64)
open Go Go.RowKit
structure PermN (n:Nat) (π:M):Prop where
 perm:IsPerm π
 fix:∀ i:Fin 8,n<=i.val->π i=(i.val:Int)
def permNB(n:Nat)(π:M):Bool:=decide (∀ i,0<=π i/\π i<8) && decide (∀ i j,π i=π j->i=j) && decide (∀ i:Fin 8,n<=i.val->π i=(i.val:Int))
theorem PermN.of{n:Nat}{π:M}(h:permNB n π=true):PermN n π:=by
 unfold permNB at h
 simp only[Bool.and_eq_true,decide_eq_true_eq] at h
 exact⟨⟨h.1.1,h.1.2⟩,h.2⟩
theorem Zmh:((permsL 1).all (permNB 1) && (permsL 2).all (permNB 2) && (permsL 3).all (permNB 3) && (permsL 4).all (permNB 4))=true:=by decide +kernel
theorem Z6{n:Nat}(h:1<=n/\n<=4){π:M}(hp:π ∈ permsL n):PermN n π:=by
 have:=Zmh
 simp only[Bool.and_eq_true,List.all_eq_true] at this
 obtain⟨⟨⟨h1,h2⟩,h3⟩,h4⟩:=this
 have hn:n=1\/n=2\/n=3\/n=4:=by omega
 rcases hn with rfl|rfl|rfl|rfl
 .exact .of (h1 π hp)
 .exact .of (h2 π hp)
 .exact .of (h3 π hp)
 exact .of (h4 π hp)
theorem ZlI{n:Nat}(h:1<=n/\n<=4):(Zf2 (n:Int)).Ret (permsL n):=by
 have hn:n=1\/n=2\/n=3\/n=4:=by omega
 rcases hn with rfl|rfl|rfl|rfl <;> exact Cq.Ret.Zu 60 (by decide +kernel)
theorem Zcm{n:Nat}:permsL n=(fun i:Fin 8=>(i.val:Int))::(permsL n).tail:=rfl
theorem ZlY{n:Nat}(hn:n<=8){π:M}(h:PermN n π){p:Pol}(hp:PolOk p)(hf:fitB p (n:Int)=true):fitB (permP π p) (n:Int)=true:=by
 obtain⟨h1,h2⟩:=(Zbb hn).1 hf
 refine (Zbb hn).2 ⟨fun t ht i hi=>?_,fun t ht=>?_⟩
 .obtain⟨y,hy,rfl⟩:=List.mem_map.1 ((ZR h.perm hp.ord).1.mem_iff.1 ht)
  show ¬ 0<permM π y.m i
  rw[ZcO h.perm y.m i i (h.fix i hi).symm]
  exact h1 y hy i hi
 obtain⟨y,hy,rfl⟩:=List.mem_map.1 ((ZR h.perm hp.ord).1.mem_iff.1 ht)
 show degM (permM π y.m)<=12
 rw[Zf8 h.perm]
 exact h2 y hy
theorem Zmf{π:M}(h:IsPerm π){p:Pol}(hp:PolOk p):(permP π p).length=p.length:=by
 rw[(ZR h hp.ord).1.length_eq,List.length_map]
theorem Zm5{π:M}(h:IsPerm π){p:Pol}(hp:PolOk p)(hne:p≠[]):permP π p≠[]:=fun e=>by
 have:=Zmf h hp
 rw[e] at this
 exact hne (List.length_eq_zero_iff.1 this.symm)
theorem Zny{p q:Pol}(hp:PolOk p)(hq:PolOk q)(h:∀ d,-1<=d->((∀ t ∈ p,degM t.m<=d)↔∀ t ∈ q,degM t.m<=d)):degP p=degP q:=by
 have low:∀ r:Pol,-1<=degP r:=fun r=>by
  have key:∀ k,-1<=degPTo r k:=by
   intro k
   induction k with
   | zero=>exact Int.le_refl _
   | succ k ih=>
    unfold degPTo
    split
    .split <;> omega
    exact ih
  exact key _
 have h1:=(Zb4 (low q)).2 ((h _ (low q)).2 ((Zb4 (low q)).1 (Int.le_refl _)))
 have h2:=(Zb4 (low p)).2 ((h _ (low p)).1 ((Zb4 (low p)).1 (Int.le_refl _)))
 omega
theorem Zme{π:M}(h:IsPerm π){p:Pol}(hp:PolOk p):degP (permP π p)=degP p:=by
 refine Zny (Z1 h hp) hp (fun d _=>⟨fun hd t ht=>?_,fun hd t ht=>?_⟩)
 .have:=hd (permT π t) ((ZR h hp.ord).1.mem_iff.2 (List.mem_map.2 ⟨t,ht,rfl⟩))
  have e:degM (permT π t).m=degM t.m:=Zf8 h t.m
  omega
 obtain⟨y,hy,rfl⟩:=List.mem_map.1 ((ZR h hp.ord).1.mem_iff.1 ht)
 have:=hd y hy
 have e:degM (permT π y).m=degM y.m:=Zf8 h y.m
 omega
theorem ZnK{n:Nat}(h:n<=4):fitB oneP (n:Int)=true:=(Zbb (by omega)).2 ⟨fun t ht i _=>by rw[oneP,List.mem_singleton] at ht; subst ht; exact Int.lt_irrefl 0,fun t ht=>by rw[oneP,List.mem_singleton] at ht; subst ht; decide⟩
theorem ZnJ:degP oneP=0:=by decide
theorem ZjU{l:List Pol}{plain:Bool}{q:Pol}(h:q ∈ kept l plain):∃ p ∈ l,q=primP p/\p≠[]/\(plain=true->degP p≠0):=by
 obtain⟨h1,h2⟩:=List.mem_filter.1 h
 obtain⟨p,hp,rfl⟩:=List.mem_map.1 h1
 unfold keepP at h2
 simp only[Bool.and_eq_true,Bool.not_eq_true',Bool.and_eq_false_iff] at h2
 refine⟨p,hp,rfl,fun e=>?_,fun e=>?_⟩
 .rw[e] at h2; cases h2.1
 rcases h2.2 with h2|h2
 .rw[e] at h2; cases h2
 rw[ZbX] at h2; exact of_decide_eq_false h2
theorem ZnF{l:List Pol}{plain:Bool}{p:Pol}(hp:p ∈ l)(hne:p≠[])(hd:plain=true->degP p≠0):primP p ∈ kept l plain:=by
 refine List.mem_filter.2 ⟨List.mem_map.2 ⟨p,hp,rfl⟩,?_⟩
 have hne':(primP p).isEmpty=false:=by simpa using fun e=>hne (Zd5.1 e)
 unfold keepP
 rw[hne',ZbX]
 cases plain with
 | false=>rfl
 | true=>rw[decide_eq_false (hd rfl)]; rfl
theorem ZkT{n:Nat}(hn:n<=4){least:Int}{l:List Pol}(hl:(srtP l).length<=12)(h:∀ p ∈ l,PolOk p/\fitB p (n:Int)=true/\p≠[]/\primP p=p/\least<=degP p):PartOk (n:Int) least (srtP l):=by
 obtain⟨s1,s2⟩:=ZfC (l:=l) (fun p hp=>(h p hp).1.good)
 exact⟨hl,fun p hp=>h p ((s2 p).1 hp),s1⟩
theorem ZkJ{n:Nat}(hn:1<=n/\n<=4){eqs neqs:List Pol}(he:∀ p ∈ eqs,PolOk p/\fitB p (n:Int)=true)(hi:∀ p ∈ neqs,PolOk p/\fitB p (n:Int)=true)(l1:(srtP (eqsF eqs neqs)).length<=12)(l2:(srtP (kept neqs true)).length<=12):
  CoreOk ⟨(n:Int),srtP (eqsF eqs neqs),srtP (kept neqs true)⟩ where
 n:=by show 1<=(n:Int)/\(n:Int)<=4; omega
 eqs:=ZkT hn.2 l1 fun p hp=>by
  rcases List.mem_append.1 hp with h|h
  .obtain⟨q,hq,rfl,h0,_⟩:=ZjU h
   have ho:=(he q hq).1
   exact⟨Zb7 ho,by rw[Zj3]; exact (he q hq).2,fun e=>h0 (Zd5.1 e),ZiX ho,by rw[ZbX]; exact Zfl ho h0⟩
  rw[Zhs p h]
  exact⟨Zj1,ZnK hn.2,by decide,Zhr,by rw[ZnJ]; decide⟩
 neqs:=ZkT hn.2 l2 fun p hp=>by
  obtain⟨q,hq,rfl,h0,h1⟩:=ZjU hp
  have ho:=(hi q hq).1
  have:=Zfl ho h0
  have:=h1 rfl
  exact⟨Zb7 ho,by rw[Zj3]; exact (hi q hq).2,fun e=>h0 (Zd5.1 e),ZiX ho,by rw[ZbX]; omega⟩
def permK(k:Zc)(π:M):Zc:=(normF k.n (k.eqs.map (permP π)) (k.neqs.map (permP π))).1
theorem Zgp{l:List Pol}(h:∀ p ∈ l,p≠[]):onesF l=[]:=by
 unfold onesF
 rw[List.filter_eq_nil_iff.2 fun p hp=>by simpa using h p hp]
 rfl
structure Perm1 (k:Zc) (π:M):Prop where
 norm:normF k.n (k.eqs.map (permP π)) (k.neqs.map (permP π))=(permK k π,0)
 eq:permK k π=⟨k.n,srtP (eqsF (k.eqs.map (permP π)) (k.neqs.map (permP π))),srtP (kept (k.neqs.map (permP π)) true)⟩
 core:CoreOk (permK k π)
theorem ZhZ{l:List Pol}{n:Nat}{least:Int}(hn:n<=4)(h:PartOk (n:Int) least l){π:M}(hπ:PermN n π):∀ p ∈ l.map (permP π),PolOk p/\fitB p (n:Int)=true/\p≠[]/\least<=degP p:=fun p hp=>by
 obtain⟨q,hq,rfl⟩:=List.mem_map.1 hp
 obtain⟨q1,q2,q3,q4,q5⟩:=h.pol q hq
 exact⟨Z1 hπ.perm q1,ZlY (by omega) hπ q1 q2,Zm5 hπ.perm q1 q3,by rw[Zme hπ.perm q1]; exact q5⟩
theorem perm1{k:Zc}(h:CoreOk k){π:M}(hπ:PermN k.n.toNat π):Perm1 k π:=by
 obtain⟨n,eqs,neqs⟩:=k
 obtain⟨m,rfl,m1,m4⟩:=Zd3 h.n
 dsimp only at hπ ⊢
 rw[Int.toNat_natCast] at hπ
 have he:=ZhZ m4 h.eqs hπ
 have hi:=ZhZ m4 h.neqs hπ
 have l1:(srtP (eqsF (eqs.map (permP π)) (neqs.map (permP π)))).length<=12:=by
  have q1:=ZgF (eqsF (eqs.map (permP π)) (neqs.map (permP π)))
  have q2:=Zbh (eqs.map (permP π)) false
  have q3:=h.eqs.len
  unfold eqsF at q1
  rw[Zgp (fun p hp=>(hi p hp).2.2.1),List.append_nil] at q1
  unfold eqsF
  rw[Zgp (fun p hp=>(hi p hp).2.2.1),List.append_nil]
  rw[List.length_map] at q2
  dsimp only at q3
  omega
 have l2:(srtP (kept (neqs.map (permP π)) true)).length<=12:=by
  have q1:=ZgF (kept (neqs.map (permP π)) true)
  have q2:=Zbh (neqs.map (permP π)) true
  have q3:=h.neqs.len
  rw[List.length_map] at q2
  dsimp only at q3
  omega
 have hc:=ZkJ ⟨m1,m4⟩ (fun p hp=>⟨(he p hp).1,(he p hp).2.1⟩) (fun p hp=>⟨(hi p hp).1,(hi p hp).2.1⟩) l1 l2
 have hall:(eqs.map (permP π)++neqs.map (permP π)).all (fun p=>fitB p (m:Int))=true:=List.all_eq_true.2 fun p hp=>(List.mem_append.1 hp).elim (fun h=>(he p h).2.1) (fun h=>(hi p h).2.1)
 have hN:normF (m:Int) (eqs.map (permP π)) (neqs.map (permP π))=(⟨(m:Int),srtP (eqsF (eqs.map (permP π)) (neqs.map (permP π))),srtP (kept (neqs.map (permP π)) true)⟩,0):=by
  unfold normF
  rw[if_pos ⟨by omega,by omega⟩,if_pos hall,if_neg (by omega),if_neg (by omega)]
 have hE:permK ⟨(m:Int),eqs,neqs⟩ π=⟨(m:Int),srtP (eqsF (eqs.map (permP π)) (neqs.map (permP π))),srtP (kept (neqs.map (permP π)) true)⟩:=by
  unfold permK
  dsimp only
  rw[hN]
 exact⟨by rw[hN,hE],hE,by rw[hE]; exact hc⟩
theorem Zgt{l:List Pol}(hl:l.length<=100)(h:∀ p ∈ l,PolOk p){π:M}(hπ:IsPerm π):(Za8 l π).Ret (l.map (permP π)):=by
 refine⟨⟨by omega,by omega⟩,?_⟩
 refine Cq.Zk l.length (fun k s=>s=((l.take k).map (permP π)++List.replicate (l.length-k) [],(k:Int))) (fun k s hk hs=>?_) (fun s hs=>?_) (by show _=_; simp)
 .subst hs
  have hlen:((l.take k).map (permP π)++List.replicate (l.length-k) ([]:Pol)).length=l.length:=by simp; omega
  refine Cq.wp.yes (by omega) ⟨_,idxN hk,_,Zkg hπ (h _ (List.getElem_mem hk)),_,idxN (by rw[hlen]; exact hk),?_⟩
  show _=_
  rw[wrapN (by omega),Int.toNat_natCast,List.take_succ_eq_append_getElem hk,List.map_append,List.map_singleton]
  congr 1
  rw[List.set_append,if_neg (by rw[List.length_map,List.length_take]; omega)]
  have e:l.length-k=(l.length-(k+1))+1:=by omega
  have hk2:k-((l.take k).map (permP π)).length=0:=by simp; omega
  rw[hk2,e,List.replicate_succ,List.set_cons_zero,List.append_assoc]
  rfl
 subst hs
 refine Cq.wp.no (by omega) ?_
 show _=_
 rw[List.take_of_length_le (Nat.le_refl _)]
 simp
theorem Zdn{k:Zc}(h:CoreOk k){π:M}(hπ:PermN k.n.toNat π):(Zba k π).Ret (permK k π):=by
 have l1:=h.eqs.len
 have l2:=h.neqs.len
 refine Cq.Zk k.eqs.length (fun j s=>s=((k.eqs.take j).map (permP π),(j:Int))) (fun j s hj hs=>?_) (fun s hs=>?_) rfl
 .subst hs
  refine Cq.wp.yes (by omega) ⟨_,idxN hj,_,Zeg hπ.perm (h.eqs.pol _ (List.getElem_mem hj)).1,?_,?_⟩
  .simp only[List.length_append,List.length_map,List.length_take,List.length_singleton,small]; omega
  show _=_
  rw[wrapN (by omega),List.take_succ_eq_append_getElem hj,List.map_append]
  rfl
 subst hs
 refine Cq.wp.no (by omega) ?_
 rw[List.take_of_length_le (Nat.le_refl _)]
 show (Za2 k π (k.eqs.map (permP π))).Ret _
 refine Cq.Zk k.neqs.length (fun j s=>s=((k.neqs.take j).map (permP π),(j:Int))) (fun j s hj hs=>?_) (fun s hs=>?_) rfl
 .subst hs
  refine Cq.wp.yes (by omega) ⟨_,idxN hj,_,Zeg hπ.perm (h.neqs.pol _ (List.getElem_mem hj)).1,?_,?_⟩
  .simp only[List.length_append,List.length_map,List.length_take,List.length_singleton,small]; omega
  show _=_
  rw[wrapN (by omega),List.take_succ_eq_append_getElem hj,List.map_append]
  rfl
 subst hs
 refine Cq.wp.no (by omega) ?_
 rw[List.take_of_length_le (Nat.le_refl _)]
 show (Za1 k (k.eqs.map (permP π)) (k.neqs.map (permP π))).Ret _
 refine⟨_,Zkq (by rw[List.length_map]; omega) (by rw[List.length_map]; omega) (fun p hp=>?_) (fun p hp=>?_),rfl⟩
 .obtain⟨q,hq,rfl⟩:=List.mem_map.1 hp
  exact Z1 hπ.perm (h.eqs.pol q hq).1
 obtain⟨q,hq,rfl⟩:=List.mem_map.1 hp
 exact Z1 hπ.perm (h.neqs.pol q hq).1
def bestF(k:Zc):List M->Zc×M->Zc×M
 | [],s=>s
 | π::l,s=>bestF k l (if Op.bytesLess (keyB (permK k π)).toList (keyB s.1).toList=true then (permK k π,π) else s)
def canonF(k:Zc):Zc×M:=bestF k (permsL k.n.toNat).tail (permK k (fun i=>(i.val:Int)),fun i=>(i.val:Int))
theorem ZkF{k:Zc}(h:CoreOk k):∀ {l:List M}{s:Zc×M},(∀ π ∈ l,PermN k.n.toNat π)->CoreOk s.1->CoreOk (bestF k l s).1
 | [],_,_,hs=>hs
 | π::l,s,hl,hs=>by
  unfold bestF
  refine ZkF h (fun x hx=>hl x (by simp[hx])) ?_
  split
  .exact (perm1 h (hl π (by simp))).core
  exact hs
theorem Zlb(l:List Int):(bytesOf l).size=l.length:=by
 have key:∀ (l:List Int) (b:ByteArray),(l.foldl (fun r n=>r.push (UInt8.ofNat n.toNat)) b).size=b.size+l.length:=by
  intro l
  induction l with
  | nil=>intro b; rfl
  | cons x l ih=>intro b; rw[List.foldl_cons,ih,ByteArray.size_push,List.length_cons]; omega
 have:=key l ByteArray.empty
 unfold bytesOf
 rw[this]
 simp
theorem Zn4(k:Zc):keyB k≠ByteArray.empty:=fun e=>by
 have h1:=Zlb (coreW k)
 have h2:(keyB k).size=0:=by rw[e]; rfl
 unfold keyB at h2
 rw[h1] at h2
 have:1<=(numW k.n).length:=by
  unfold numW natW natG
  split <;> simp
 unfold coreW at h2
 simp only[List.length_append] at h2
 omega
theorem ZhQ{k:Zc}(h:CoreOk k){π:M}(hπ:PermN k.n.toNat π){s:Zc×M×ByteArray}:
  (canonS k π s).Ret (if s.2.2=ByteArray.empty then (permK k π,π,keyB (permK k π)) else if Op.bytesLess (keyB (permK k π)).toList s.2.2.toList=true then (permK k π,π,keyB (permK k π)) else s):=by
 have l1:=h.eqs.len
 have l2:=h.neqs.len
 have hp:=perm1 h hπ
 refine⟨_,Zgt (by omega) (fun p hp=>(h.eqs.pol p hp).1) hπ.perm,_,Zgt (by omega) (fun p hp=>(h.neqs.pol p hp).1) hπ.perm,(permK k π,0),?_,Cq.wp.no (fun h=>h rfl) ⟨_,Znp hp.core,?_⟩⟩
 .rw[<- hp.norm]
  refine ZgT (by rw[List.length_map]; omega) (by rw[List.length_map]; omega) (fun p hp=>?_) (fun p hp=>?_)
  .obtain⟨q,hq,rfl⟩:=List.mem_map.1 hp
   exact Z1 hπ.perm (h.eqs.pol q hq).1
  obtain⟨q,hq,rfl⟩:=List.mem_map.1 hp
  exact Z1 hπ.perm (h.neqs.pol q hq).1
 by_cases h1:s.2.2=ByteArray.empty
 .rw[if_pos h1]; exact Cq.wp.yes h1 rfl
 rw[if_neg h1]
 refine Cq.wp.no h1 ?_
 by_cases h2:Op.bytesLess (keyB (permK k π)).toList s.2.2.toList=true
 .refine Cq.wp.yes h2 ?_
  show _=_
  rw[if_pos h2]
 refine Cq.wp.no h2 ?_
 show _=_
 rw[if_neg h2]
theorem Zfi{k:Zc}(h:CoreOk k):∀ {l:List M}{c:Zc}{f:M},(∀ π ∈ l,PermN k.n.toNat π)->(canonL k l (c,f,keyB c)).Ret ((bestF k l (c,f)).1,(bestF k l (c,f)).2,keyB (bestF k l (c,f)).1)
 | [],_,_,_=>rfl
 | π::l,c,f,hl=>by
  refine⟨_,ZhQ h (hl π (by simp)),?_⟩
  dsimp only
  rw[if_neg (Zn4 c)]
  unfold bestF
  split
  .exact Zfi h (fun x hx=>hl x (by simp[hx]))
  exact Zfi h (fun x hx=>hl x (by simp[hx]))
theorem permsN{k:Zc}(h:CoreOk k):∀ π ∈ permsL k.n.toNat,PermN k.n.toNat π:=fun _ hp=>Z6 (by have:=h.n; omega) hp
theorem Zec{k:Zc}(h:CoreOk k):(ZaC k).Ret (canonF k):=by
 refine⟨h.n,((canonF k).1,(canonF k).2,keyB (canonF k).1),?_,rfl⟩
 have hp:=permsN h
 rw[Zcm] at hp ⊢
 refine⟨_,ZhQ h (hp _ (by simp)),?_⟩
 rw[if_pos rfl]
 exact Zfi h (fun x hx=>hp x (by simp[hx]))
end Go.EL

namespace Go.EL
open Go.IntKind (i8 i16 i32 i64 u8 u16 u32 u64)
open Go Go.RowKit
def polB(p:Pol):Bool:=decide (p.Pairwise fun x y=>0<cmpM x.m y.m) && p.all (fun t=>goodC t.c && decide (∀ i,0<=t.m i/\t.m i<=65535)) && decide (p.length<=100)
theorem PolOk.of{p:Pol}(h:polB p=true):PolOk p:=by
 unfold polB at h
 simp only[Bool.and_eq_true,decide_eq_true_eq,List.all_eq_true] at h
 obtain⟨⟨h1,h2⟩,h3⟩:=h
 refine⟨h1,fun t ht=>⟨?_,(h2 t ht).2⟩,h3⟩
 obtain⟨n,e,n0,n1,n2⟩:=ZaK (h2 t ht).1
 exact⟨n,e,n0,n1,n2⟩
instance decStrict (l:List Pol):Decidable (Strict l):=inferInstanceAs (Decidable (l.Pairwise fun a b=>cmpP a b<0))
def partB(n least:Int)(l:List Pol):Bool:=decide (l.length<=12) && l.all (fun p=>polB p && fitB p n && !p.isEmpty && decide (primP p=p) && decide (least<=degP p)) && decide (Strict l)
theorem PartOk.of{n least:Int}{l:List Pol}(h:partB n least l=true):PartOk n least l:=by
 unfold partB at h
 simp only[Bool.and_eq_true,decide_eq_true_eq,List.all_eq_true,Bool.not_eq_true'] at h
 obtain⟨⟨h1,h2⟩,h3⟩:=h
 refine⟨h1,fun p hp=>?_,h3⟩
 obtain⟨⟨⟨⟨q1,q2⟩,q3⟩,q4⟩,q5⟩:=h2 p hp
 exact⟨.of q1,q2,by simpa using q3,q4,q5⟩
def coreB(k:Zc):Bool:=decide (1<=k.n/\k.n<=4) && partB k.n 0 k.eqs && partB k.n 1 k.neqs
theorem CoreOk.of{k:Zc}(h:coreB k=true):CoreOk k:=by
 unfold coreB at h
 simp only[Bool.and_eq_true,decide_eq_true_eq] at h
 exact⟨h.1.1,.of h.1.2,.of h.2⟩
def vM(a b:Int):M:=fun i=>if i.val=0 then a else if i.val=1 then b else 0
def tP(c a b:Int):Pol:=[⟨ratI c,vM a b⟩]
def lessP:Pol:=[⟨ratI 1,vM 1 0⟩,⟨ratI (-1),vM 0 0⟩]
def exK:Zc:=⟨2,[lessP,[⟨ratI 1,vM 1 0⟩,⟨ratI 1,vM 0 2⟩]],[]⟩
def exL':List Pol:=[[⟨ratI 1,vM 0 1⟩,⟨ratI (-1),vM 0 0⟩],[⟨ratI 1,vM 2 0⟩,⟨ratI 1,vM 0 1⟩]]
def swapM:M:=fun i=>if i.val=0 then 1 else if i.val=1 then 0 else (i.val:Int)
theorem Zn7:CoreOk exK:=.of (by decide +kernel)
instance decCoreT:DecidableEq Zc:=fun ⟨a1,a2,a3⟩ ⟨b1,b2,b3⟩=>decidable_of_iff (a1=b1/\a2=b2/\a3=b3) (by simp)
theorem ZmQ:canonF exK=(⟨2,exL',[]⟩,swapM):=by decide +kernel
def exM:Zc:=⟨1,[[⟨ratI 1,vM 1 0⟩,⟨ratI (-2),vM 0 0⟩]],[]⟩
theorem ZjJ:ZcL.Ret true:=by
 refine⟨tP 1 1 0,Cq.Ret.Zu 100 (by decide +kernel),tP 1 0 0,Cq.Ret.Zu 100 (by decide +kernel),lessP,Cq.Ret.Zu 100 (by decide +kernel),tP 1 0 0,Cq.Ret.Zu 100 (by decide +kernel),tP 2 1 0,Cq.Ret.Zu 100 (by decide +kernel),tP 4 0 0,Cq.Ret.Zu 100 (by decide +kernel),[⟨ratI 2,vM 1 0⟩,⟨ratI (-4),vM 0 0⟩],Cq.Ret.Zu 100 (by decide +kernel),tP 2 0 0,Cq.Ret.Zu 100 (by decide +kernel),tP 1 1 0,Cq.Ret.Zu 100 (by decide +kernel),[⟨ratI (-1),vM 1 0⟩,⟨ratI 2,vM 0 0⟩],Cq.Ret.Zu 100 (by decide +kernel),tP 3 0 0,Cq.Ret.Zu 100 (by decide +kernel),(exM,0),Cq.Ret.Zu 100 (by decide +kernel),(⟨2,[tP 1 0 0],[]⟩,0),Cq.Ret.Zu 100 (by decide +kernel),tP 1 0 1,Cq.Ret.Zu 100 (by decide +kernel),(zeroK,1),Cq.Ret.Zu 100 (by decide +kernel),(zeroK,320),Cq.Ret.Zu 100 (by decide +kernel),tP 1 1 0,Cq.Ret.Zu 100 (by decide +kernel),tP 1 0 2,Cq.Ret.Zu 100 (by decide +kernel),[⟨ratI 1,vM 1 0⟩,⟨ratI 1,vM 0 2⟩],Cq.Ret.Zu 100 (by decide +kernel),(⟨2,exL',[]⟩,swapM),(by rw[<- ZmQ]; exact Zec Zn7),tP 1 0 1,Cq.Ret.Zu 100 (by decide +kernel),[⟨ratI 1,vM 0 1⟩,⟨ratI (-1),vM 0 0⟩],Cq.Ret.Zu 100 (by decide +kernel),tP 1 2 0,Cq.Ret.Zu 100 (by decide +kernel),tP 1 0 1,Cq.Ret.Zu 100 (by decide +kernel),[⟨ratI 1,vM 2 0⟩,⟨ratI 1,vM 0 1⟩],Cq.Ret.Zu 100 (by decide +kernel),?_⟩
 refine Cq.wp.no (fun h=>h rfl) (Cq.wp.no (fun h=>h rfl) (Cq.wp.no (fun h=>h rfl) (Cq.wp.no (fun h=>h rfl) ⟨true,Cq.Ret.Zu 100 (by decide +kernel),Cq.wp.no (fun h=>h (by decide +kernel)) ?_⟩)))
 exact Cq.Ret.Zu 100 (by decide +kernel)
end Go.EL

namespace Go.EL
open Go.IntKind (i8 i16 i32 i64 u8 u16 u32 u64)
open Go Go.RowKit
structure PrefE (n:Nat) (next:Int) (l:List Zg) (k:Nat):Prop where
 ids:∀ i (h:i<l.length),i<k->1<=l[i].id/\l[i].id<next
 inc:∀ i (h:i+1<l.length),i+1<k->l[i].id<l[i+1].id
 pol:∀ i (h:i<l.length),i<k->PolOk l[i].p/\fitB l[i].p (n:Int)=true
theorem PrefE.zero(n:Nat)(next:Int)(l:List Zg):PrefE n next l 0:=⟨fun _ _ h=>absurd h (Nat.not_lt_zero _),fun _ _ h=>absurd h (Nat.not_lt_zero _),fun _ _ h=>absurd h (Nat.not_lt_zero _)⟩
end Go.EL

namespace Go.EL
open Go.IntKind (i8 i16 i32 i64 u8 u16 u32 u64)
open Go Go.RowKit
end Go.EL

namespace Go.EL
open Go.IntKind (i8 i16 i32 i64 u8 u16 u32 u64)
open Go Go.RowKit
theorem ZkR(n:Nat)(next:Int):EqsOk n next []:=⟨by simp,fun q hq=>absurd hq List.not_mem_nil,List.Pairwise.nil,fun q hq=>absurd hq List.not_mem_nil⟩
end Go.EL

namespace Go.EL
open Go.IntKind (i8 i16 i32 i64 u8 u16 u32 u64)
open Go Go.RowKit
structure Raw32Ok (x:Zo):Prop where
 n:0<=x.n/\x.n<=255
 l:∀ y ∈ x.l,RawOk y
 gap:∀ g ∈ x.gap,0<=g/\g<=255
theorem Zm0{y:Zv}(h:RawOk y){n:Nat}(hn:n<=4){d:Int}(d0:0<=d)(d12:d<=12){k:Nat}(hk:k<=4):PolOk (madeP y n d k)/\fitB (madeP y n d k) (n:Int)=true:=by
 have hm:=ZmZ h hn d0 k
 refine⟨hm.pol (by omega) (by omega) (by omega),(Zbb (by omega)).2 ⟨fun t ht i hi=>?_,fun t ht=>?_⟩⟩
 .have:=(hm.mon t ht).2.1 i hi
  omega
 have:=(hm.mon t ht).2.2
 omega
theorem EqsOk.upS{n:Nat}{next next':Int}{l:List Zg}(h:EqsOk n next l)(h2:next<=next'):EqsOk n next' l:=⟨h.len,fun q hq=>⟨(h.ids q hq).1,Int.lt_of_lt_of_le (h.ids q hq).2 h2⟩,h.inc,h.pol⟩
theorem EqsOk.snoc{n:Nat}{next:Int}{l:List Zg}(h:EqsOk n next l)(hl:l.length<12){i:Int}{p:Pol}(hp:PolOk p/\fitB p (n:Int)=true)(h1:1<=next)(hi:next<=i):EqsOk n (i+1) (l++[⟨i,p⟩]) where
 len:=by rw[List.length_append,List.length_singleton]; omega
 ids:=fun q hq=>by
  rcases List.mem_append.1 hq with hq|hq
  .have:=h.ids q hq; omega
  rw[List.mem_singleton] at hq; subst hq
  show 1<=i/\i<i+1
  omega
 inc:=by
  rw[List.pairwise_append]
  refine⟨h.inc,List.pairwise_singleton _ _,fun a ha b hb=>?_⟩
  rw[List.mem_singleton] at hb; subst hb
  have:=h.ids a ha
  show a.id<i
  omega
 pol:=fun q hq=>by
  rcases List.mem_append.1 hq with hq|hq
  .exact h.pol q hq
  rw[List.mem_singleton] at hq; subst hq; exact hp
def gapAt(x:Zo)(k:Nat):Int:=if 0<x.gap.length then Int.tmod (x.gap.getD (k % x.gap.length) 0) 4 else 0
def made32(x:Zo)(n:Nat):Nat->List Zg×List Zg×Int
 | 0=>([],[],1)
 | k+1=>
  if k % 3=2 then ((made32 x n k).1,(made32 x n k).2.1++[⟨(made32 x n k).2.2+gapAt x k,madeP (x.l.getD k ⟨[]⟩) n 2 3⟩],(made32 x n k).2.2+gapAt x k+1)
  else ((made32 x n k).1++[⟨(made32 x n k).2.2+gapAt x k,madeP (x.l.getD k ⟨[]⟩) n 2 3⟩],(made32 x n k).2.1,(made32 x n k).2.2+gapAt x k+1)
theorem Zkv(x:Zo)(n k:Nat):made32 x n (k+1) =
  if k % 3=2 then ((made32 x n k).1,(made32 x n k).2.1++[⟨(made32 x n k).2.2+gapAt x k,madeP (x.l.getD k ⟨[]⟩) n 2 3⟩],(made32 x n k).2.2+gapAt x k+1)
  else ((made32 x n k).1++[⟨(made32 x n k).2.2+gapAt x k,madeP (x.l.getD k ⟨[]⟩) n 2 3⟩],(made32 x n k).2.1,(made32 x n k).2.2+gapAt x k+1):=rfl
theorem Zl1{x:Zo}(h:Raw32Ok x)(k:Nat):0<=gapAt x k/\gapAt x k<=3:=by
 unfold gapAt
 split
 .rename_i hp
  have hlt:k % x.gap.length<x.gap.length:=Nat.mod_lt _ hp
  have hg:=h.gap (x.gap[k % x.gap.length]) (List.getElem_mem hlt)
  rw[List.getD_eq_getElem?_getD,List.getElem?_eq_getElem hlt,Option.getD_some]
  have:=ZdI hg.1 (show (0:Int)<4 by decide)
  omega
 omega
structure MadeI (n:Nat) (k:Nat) (s:List Zg×List Zg×Int):Prop where
 next:1<=s.2.2/\s.2.2<=1+4*k
 eqs:EqsOk n s.2.2 s.1
 neqs:EqsOk n s.2.2 s.2.1
 apart:∀ a ∈ s.1,∀ b ∈ s.2.1,a.id≠b.id
 len:s.1.length+s.2.1.length<=k
theorem Znc{x:Zo}(h:Raw32Ok x)(k:Nat):RawOk (x.l.getD k ⟨[]⟩):=by
 rw[List.getD_eq_getElem?_getD]
 cases he:x.l[k]? with
 | none=>exact fun v hv=>by cases hv
 | some y=>exact h.l y (List.mem_of_getElem? he)
theorem Zgk{x:Zo}(h:Raw32Ok x){n:Nat}(hn:n<=4):∀ k,k<=6->MadeI n k (made32 x n k)
 | 0,_=>⟨⟨Int.le_refl 1,(by decide:(1:Int)<=1+4*0)⟩,ZkR _ _,ZkR _ _,fun a ha=>absurd ha List.not_mem_nil,Nat.le_refl 0⟩
 | k+1,hk=>by
  have ih:=Zgk h hn k (by omega)
  obtain⟨g0,g3⟩:=Zl1 h k
  have hp:=Zm0 (Znc h k) hn (d:=2) (by decide) (by decide) (k:=3) (by decide)
  have hnx:=ih.next
  have hl:=ih.len
  unfold made32
  generalize made32 x n k=s at *
  obtain⟨e,i,nx⟩:=s
  dsimp only at *
  by_cases h3:k % 3=2
  .rw[if_pos h3]
   refine⟨⟨by show 1<=nx+gapAt x k+1; omega,by show nx+gapAt x k+1<=_; omega⟩,ih.eqs.upS (by show nx<=nx+gapAt x k+1; omega),ih.neqs.snoc (by show i.length<12; omega) hp (by show 1<=nx; omega) (by show nx<=nx+gapAt x k; omega),fun a ha b hb=>?_,by show e.length+(i++[_]).length<=k+1; rw[List.length_append,List.length_singleton]; omega⟩
   rcases List.mem_append.1 hb with hb|hb
   .exact ih.apart a ha b hb
   rw[List.mem_singleton] at hb; subst hb
   have:=(ih.eqs.ids a ha).2
   show a.id≠nx+gapAt x k
   dsimp only at this
   omega
  rw[if_neg h3]
  refine⟨⟨by show 1<=nx+gapAt x k+1; omega,by show nx+gapAt x k+1<=_; omega⟩,ih.eqs.snoc (by show e.length<12; omega) hp (by show 1<=nx; omega) (by show nx<=nx+gapAt x k; omega),ih.neqs.upS (by show nx<=nx+gapAt x k+1; omega),fun a ha b hb=>?_,by show (e++[_]).length+i.length<=k+1; rw[List.length_append,List.length_singleton]; omega⟩
  rcases List.mem_append.1 ha with ha|ha
  .exact ih.apart a ha b hb
  rw[List.mem_singleton] at ha; subst ha
  have:=(ih.neqs.ids b hb).2
  show nx+gapAt x k≠b.id
  dsimp only at this
  omega
def names32:List ByteArray:=[ZE,ZD,ZA]
theorem Zlp:(names32.all nameB && decide (names32.Pairwise fun a b=>a≠b))=true:=by decide +kernel
def nOf(x:Zo):Nat:=x.n.toNat % 4
def madeS32(x:Zo):Zm:=⟨names32.take (nOf x),(made32 x (nOf x) (min x.l.length 6)).1,(made32 x (nOf x) (min x.l.length 6)).2.1,(made32 x (nOf x) (min x.l.length 6)).2.2⟩
theorem Zh2(x:Zo):nOf x<4:=Nat.mod_lt _ (by decide)
theorem Zgo(x:Zo):(names32.take (nOf x)).length=nOf x:=by
 have:=Zh2 x
 rw[List.length_take]
 show min _ 3=_
 omega
theorem Zlo{x:Zo}(h:Raw32Ok x):Good (madeS32 x)/\(madeS32 x).eqs.length+(madeS32 x).neqs.length<=6:=by
 have hn:=Zh2 x
 have hi:=Zgk h (n:=nOf x) (by omega) (min x.l.length 6) (by omega)
 have hN:=Zlp
 simp only[Bool.and_eq_true,List.all_eq_true,decide_eq_true_eq] at hN
 have hl:=hi.len
 have hx:=hi.next
 refine⟨⟨by show (names32.take _).length<=4; rw[Zgo]; omega,fun v hv=>hN.1 v (List.mem_of_mem_take hv),hN.2.sublist (List.take_sublist _ _),⟨hx.1,?_⟩,?_,?_,hi.apart⟩,?_⟩
 .show (made32 x (nOf x) (min x.l.length 6)).2.2<=1000000
  omega
 .show EqsOk (names32.take _).length _ _
  rw[Zgo]; exact hi.eqs
 .show EqsOk (names32.take _).length _ _
  rw[Zgo]; exact hi.neqs
 show (made32 x (nOf x) (min x.l.length 6)).1.length+(made32 x (nOf x) (min x.l.length 6)).2.1.length<=6
 omega
theorem tmod4n{x:Zo}(h:Raw32Ok x):i64.wrap (Int.tmod x.n 4)=((nOf x:Nat):Int):=by
 obtain⟨h0,h1⟩:=h.n
 have e:Int.tmod x.n 4=((nOf x:Nat):Int):=by
  rw[Int.tmod_eq_emod_of_nonneg h0]
  unfold nOf
  omega
 have:=Zh2 x
 rw[e,wrap64 (by omega)]
theorem Zk1{x:Zo}(h:Raw32Ok x):(Zff x).Ret (madeS32 x):=by
 have hn:=Zh2 x
 unfold Zff
 rw[tmod4n h]
 refine⟨⟨Int.le_refl 0,by omega,by show ((nOf x:Nat):Int)<=3; omega⟩,?_⟩
 have stop:∀ s:List Zg×List Zg×Int,s=made32 x (nOf x) (min x.l.length 6)->(ZbG ((names32.take ((nOf x:Nat):Int).toNat).drop (0:Int).toNat) s.1 s.2.1 s.2.2).Ret (madeS32 x):=fun s hs=>by
  subst hs
  show _=_
  rw[Int.toNat_natCast]
  rfl
 refine Cq.Zk (min x.l.length 6) (fun k s=>s=((k:Int),(names32.take ((nOf x:Nat):Int).toNat).drop (0:Int).toNat,(made32 x (nOf x) k).1,(made32 x (nOf x) k).2.1,(made32 x (nOf x) k).2.2)) (fun k s hk hs=>?_) (fun s hs=>?_) rfl
 .subst hs
  have hi:=Zgk h (n:=nOf x) (by omega) k (by omega)
  have hkl:k<x.l.length:=by omega
  have hx:=hi.next
  have hl:=hi.len
  obtain⟨g0,g3⟩:=Zl1 h k
  refine Cq.wp.yes (by omega) (Cq.wp.yes (by omega) ?_)
  have key:(ZcW x (k:Int) ((names32.take ((nOf x:Nat):Int).toNat).drop (0:Int).toNat) (made32 x (nOf x) k).1 (made32 x (nOf x) k).2.1 (made32 x (nOf x) k).2.2 (gapAt x k)).wp (Out (fun s=>s=(((k+1:Nat):Int),(names32.take ((nOf x:Nat):Int).toNat).drop (0:Int).toNat,(made32 x (nOf x) (k+1)).1,(made32 x (nOf x) (k+1)).2.1,(made32 x (nOf x) (k+1)).2.2)) fun o=>(match o with|(bxvars1,bxeqs1,bxneqs1,bxnext1)=>ZbG bxvars1 bxeqs1 bxneqs1 bxnext1).wp fun a=>a=madeS32 x):=by
   refine⟨_,idxN hkl,madeP x.l[k] (nOf x) 2 3,?_,?_⟩
   .rw[tmod4n h]
    exact ZmG (h.l _ (List.getElem_mem hkl)) (by omega) (by decide) (by decide) (k:=3) (by decide)
   have eg:x.l.getD k ⟨[]⟩=x.l[k]:=by rw[List.getD_eq_getElem?_getD,List.getElem?_eq_getElem hkl]; rfl
   have ew:i64.wrap ((made32 x (nOf x) k).2.2+gapAt x k)=(made32 x (nOf x) k).2.2+gapAt x k:=wrap64 (by omega)
   have ew2:i64.wrap ((made32 x (nOf x) k).2.2+gapAt x k+1)=(made32 x (nOf x) k).2.2+gapAt x k+1:=wrap64 (by omega)
   have em:Int.tmod (k:Int) 3=((k % 3:Nat):Int):=by rw[Int.tmod_eq_emod_of_nonneg (by omega)]; omega
   rw[Zkv]
   by_cases h3:k % 3=2
   .rw[if_pos h3]
    refine Cq.wp.yes (by rw[em]; omega) ⟨?_,?_⟩
    .rw[List.length_append,List.length_singleton]; simp only[small]; omega
    show _=_
    rw[wrapN (by omega),ew,ew2,eg]
   rw[if_neg h3]
   refine Cq.wp.no (by rw[em]; omega) ⟨?_,?_⟩
   .rw[List.length_append,List.length_singleton]; simp only[small]; omega
   show _=_
   rw[wrapN (by omega),ew,ew2,eg]
  show (ZcX x (k:Int) _ _ _ _).wp _
  unfold ZcX
  by_cases hg:0<x.gap.length
  .have hlt:k % x.gap.length<x.gap.length:=Nat.mod_lt _ hg
   have em:Int.tmod (k:Int) (x.gap.length:Int)=((k % x.gap.length:Nat):Int):=by rw[Int.tmod_eq_emod_of_nonneg (by omega)]; rfl
   refine Cq.wp.yes (by omega) ⟨by omega,?_⟩
   rw[em]
   refine⟨_,idxN hlt,?_⟩
   have ea:gapAt x k=Int.tmod x.gap[k % x.gap.length] 4:=by
    unfold gapAt
    rw[if_pos hg,List.getD_eq_getElem?_getD,List.getElem?_eq_getElem hlt,Option.getD_some]
   dsimp only
   rw[<- ea,wrap64 (by omega)]
   exact key
  have ea:gapAt x k=0:=if_neg hg
  refine Cq.wp.no (by omega) ?_
  rw[ea] at key
  exact key
 subst hs
 by_cases hl:x.l.length<=6
 .refine Cq.wp.no (by omega) ?_
  exact stop _ rfl
 refine Cq.wp.yes (by omega) (Cq.wp.no (by omega) ?_)
 exact stop _ rfl
end Go.EL

namespace Go.Proofs.YtoakocgcakgpnaaGreat
open Go.IntKind (i8 i16 i32 i64 u8 u16 u32 u64)
open Go.Proofs.Tryz
open Go Go.EL Go.RowKit Go.Proofs
def ok93(x:Zv):Prop:=(∀ y ∈ x.t,∀ i,(Lit.int .i8 (y i)).wf=true)
def ok37(x:Zo):Prop:=((Lit.int .u8 x.n).wf=true)/\(∀ y ∈ x.l,ok93 y)/\(∀ y ∈ x.gap,(Lit.int .u8 y).wf=true)
theorem opens93(W:World):Opens prog W 93 ZaB (ok93):=by
 have h:=Opens.struct (W:=W) underlying93 (by kernel_rfl) (OpensF.last rfl (by kernel_rfl) (Opens.sl underlying91 (by kernel_rfl) (by decide) (Opens.vec underlying137 underlying54 (by kernel_rfl) (by kernel_rfl)))) (fun (x:Zv)=>x.t) (fun y=>⟨y⟩) (fun _=>rfl)
 exact h
theorem opens37(W:World):Opens prog W 37 Zgw (ok37):=by
 have h:=Opens.struct (W:=W) underlying37 (by kernel_rfl) (OpensF.cons rfl (by kernel_rfl) (Opens.int underlying5) (OpensF.cons rfl (by kernel_rfl) (Opens.sl underlying22 (by kernel_rfl) (by decide) (opens93 W)) (OpensF.last rfl (by kernel_rfl) (Opens.sl underlying35 (by kernel_rfl) (by decide) (Opens.int underlying5))))) (fun (x:Zo)=>(x.n,x.l,x.gap)) (fun y=>⟨y.1,y.2.1,y.2.2⟩) (fun _=>rfl)
 exact h
theorem Zn6{x:Zv}(h:ok93 x):RawOk x:=fun v hv j=>wf_i8 (h v hv j)
theorem Znb{x:Zo}(h:ok37 x):Raw32Ok x:=⟨wf_u8 h.1,fun y hy=>Zn6 (h.2.1 y hy),fun g hg=>wf_u8 (h.2.2 g hg)⟩
set_option maxRecDepth 100000 in
theorem Zlr{W:World}{base:Nat}{v:Value}{H:Type}{enc:TypeId×Value->H}{b:Nat}{d:DataW H}{ps:List MemPlace}(hok:Value.okWide prog W .any base 37 v)(h:DataW.Trod enc prog W b (fun _=>true) true 37 v d ps):∃ (x:Zo) (p:Option Addr) (c:Nat) (q:Option Addr) (e:Nat),v = .agg ([.int .u8 x.n,.slice p x.l.length c,.slice q x.gap.length e]).toArray/\SlR ZaB (allMem W) (.slice p x.l.length c) x.l/\SlR (Rp.int .u8) (allMem W) (.slice q x.gap.length e) x.gap/\Raw32Ok x:=by
 obtain⟨cs,x,rfl,h2,h3⟩:=Zkx underlying37 (opens37 W) hok h
 obtain⟨p,c,q,e,k1,k2,k3⟩:=ZjF (K:=fun j u=>cs[j]? = some u) (ZmJ h2)
 exact⟨x,p,c,q,e,by rw[ZmM h2 (by rfl) k1],k2,k3,Znb h3⟩
end Go.Proofs.YtoakocgcakgpnaaGreat

namespace Go.Proofs
open Go.IntKind (i8 i16 i32 i64 u8 u16 u32 u64)
open Go.Shelf
def Tryz.Zmp:Go.Shelf.Ren:=⟨fun|14=>217|20=>226|21=>227|22=>228|23=>229|24=>230|25=>231|26=>232|27=>233|46=>236|47=>222|48=>223|49=>237|50=>238|15=>187|57=>240|28=>201|29=>210|n=>n,fun|24=>119|22=>64|3=>3|25=>186|4=>4|0=>0|46=>219|45=>218|50=>223|66=>234|39=>187|55=>164|70=>238|76=>246|77=>247|53=>182|5=>5|9=>9|n=>n,fun|n=>n⟩
theorem Tryz.sortL:Go.Proofs.SlLaysF0.n14 Tryz.prog Tryz.Zmp:={
 mixed:=by kernel_rfl
 f14:=⟨Tryz.f217.name,by decide,Tryz.func217.trans (congrArg some (by kernel_rfl))⟩
 f15:=Tryz.func187.trans (congrArg some (by kernel_rfl))
 f20:=⟨Tryz.f226.name,by decide,Tryz.func226.trans (congrArg some (by kernel_rfl))⟩
 f21:=⟨Tryz.f227.name,by decide,Tryz.func227.trans (congrArg some (by kernel_rfl))⟩
 f22:=⟨Tryz.f228.name,by decide,Tryz.func228.trans (congrArg some (by kernel_rfl))⟩
 f23:=⟨Tryz.f229.name,by decide,Tryz.func229.trans (congrArg some (by kernel_rfl))⟩
 f24:=⟨Tryz.f230.name,by decide,Tryz.func230.trans (congrArg some (by kernel_rfl))⟩
 f25:=⟨Tryz.f231.name,by decide,Tryz.func231.trans (congrArg some (by kernel_rfl))⟩
 f26:=⟨Tryz.f232.name,by decide,Tryz.func232.trans (congrArg some (by kernel_rfl))⟩
 f27:=⟨Tryz.f233.name,by decide,Tryz.func233.trans (congrArg some (by kernel_rfl))⟩
 f28:=Tryz.func201.trans (congrArg some (by kernel_rfl))
 f29:=Tryz.func210.trans (congrArg some (by kernel_rfl))
 f46:=⟨Tryz.f236.name,by decide,Tryz.func236.trans (congrArg some (by kernel_rfl))⟩
 f47:=Tryz.func222.trans (congrArg some (by kernel_rfl))
 f48:=Tryz.func223.trans (congrArg some (by kernel_rfl))
 f49:=⟨Tryz.f237.name,by decide,Tryz.func237.trans (congrArg some (by kernel_rfl))⟩
 f50:=⟨Tryz.f238.name,by decide,Tryz.func238.trans (congrArg some (by kernel_rfl))⟩
 f57:=⟨Tryz.f240.name,by decide,Tryz.func240.trans (congrArg some (by kernel_rfl))⟩
 t0:=Tryz.underlying0
 a0:=Tryz.isAgg0
 z0:=Tryz.sizeOf0
 v0:=Tryz.zeroValue0
 t3:=Tryz.underlying3
 a3:=Tryz.isAgg3
 z3:=Tryz.sizeOf3
 v3:=Tryz.zeroValue3
 t4:=Tryz.underlying4
 a4:=Tryz.isAgg4
 z4:=Tryz.sizeOf4
 v4:=Tryz.zeroValue4
 t5:=Tryz.underlying5
 a5:=Tryz.isAgg5
 z5:=Tryz.sizeOf5
 v5:=Tryz.zeroValue5
 t9:=Tryz.underlying9
 a9:=Tryz.isAgg9
 z9:=Tryz.sizeOf9
 v9:=Tryz.zeroValue9
 t22:=Tryz.underlying64
 a22:=Tryz.isAgg64
 z22:=Tryz.sizeOf64
 v22:=Tryz.zeroValue64
 t25:=Tryz.underlying186
 a25:=Tryz.isAgg186
 z25:=Tryz.sizeOf186
 v25:=Tryz.zeroValue186
 t39:=Tryz.underlying187
 a39:=Tryz.isAgg187
 z39:=Tryz.sizeOf187
 v39:=Tryz.zeroValue187
 t45:=Tryz.underlying218
 a45:=Tryz.isAgg218
 z45:=Tryz.sizeOf218
 v45:=Tryz.zeroValue218
 t46:=Tryz.underlying219
 a46:=Tryz.isAgg219
 z46:=Tryz.sizeOf219
 v46:=Tryz.zeroValue219
 t50:=Tryz.underlying223
 a50:=Tryz.isAgg223
 z50:=Tryz.sizeOf223
 v50:=Tryz.zeroValue223
 t53:=Tryz.underlying182
 a53:=Tryz.isAgg182
 z53:=Tryz.sizeOf182
 v53:=Tryz.zeroValue182
 t55:=Tryz.underlying164
 a55:=Tryz.isAgg164
 z55:=Tryz.sizeOf164
 v55:=Tryz.zeroValue164
 t66:=Tryz.underlying234
 a66:=Tryz.isAgg234
 z66:=Tryz.sizeOf234
 v66:=Tryz.zeroValue234
 t70:=Tryz.underlying238
 a70:=Tryz.isAgg238
 z70:=Tryz.sizeOf238
 v70:=Tryz.zeroValue238
 t76:=Tryz.underlying246
 a76:=Tryz.isAgg246
 z76:=Tryz.sizeOf246
 v76:=Tryz.zeroValue246
 t77:=Tryz.underlying247
 a77:=Tryz.isAgg247
 z77:=Tryz.sizeOf247
 v77:=Tryz.zeroValue247 }
def Tryz.Zmq:Go.Shelf.Ren:=⟨fun|14=>186|20=>202|21=>203|22=>204|23=>205|24=>206|25=>207|26=>208|27=>209|46=>221|47=>222|48=>223|49=>224|50=>225|15=>187|57=>235|28=>201|29=>210|n=>n,fun|24=>65|22=>25|3=>3|25=>153|4=>4|0=>0|46=>219|45=>218|50=>223|66=>234|39=>187|55=>164|70=>238|76=>246|77=>247|53=>182|5=>5|9=>9|n=>n,fun|n=>n⟩
theorem Tryz.sortQ:Go.Proofs.SlLaysF.n14 Tryz.prog Tryz.Zmq:={
 mixed:=by kernel_rfl
 f14:=⟨Tryz.f186.name,by decide,Tryz.func186.trans (congrArg some (by kernel_rfl))⟩
 f15:=Tryz.func187.trans (congrArg some (by kernel_rfl))
 f20:=⟨Tryz.f202.name,by decide,Tryz.func202.trans (congrArg some (by kernel_rfl))⟩
 f21:=⟨Tryz.f203.name,by decide,Tryz.func203.trans (congrArg some (by kernel_rfl))⟩
 f22:=⟨Tryz.f204.name,by decide,Tryz.func204.trans (congrArg some (by kernel_rfl))⟩
 f23:=⟨Tryz.f205.name,by decide,Tryz.func205.trans (congrArg some (by kernel_rfl))⟩
 f24:=⟨Tryz.f206.name,by decide,Tryz.func206.trans (congrArg some (by kernel_rfl))⟩
 f25:=⟨Tryz.f207.name,by decide,Tryz.func207.trans (congrArg some (by kernel_rfl))⟩
 f26:=⟨Tryz.f208.name,by decide,Tryz.func208.trans (congrArg some (by kernel_rfl))⟩
 f27:=⟨Tryz.f209.name,by decide,Tryz.func209.trans (congrArg some (by kernel_rfl))⟩
 f28:=Tryz.func201.trans (congrArg some (by kernel_rfl))
 f29:=Tryz.func210.trans (congrArg some (by kernel_rfl))
 f46:=⟨Tryz.f221.name,by decide,Tryz.func221.trans (congrArg some (by kernel_rfl))⟩
 f47:=Tryz.func222.trans (congrArg some (by kernel_rfl))
 f48:=Tryz.func223.trans (congrArg some (by kernel_rfl))
 f49:=⟨Tryz.f224.name,by decide,Tryz.func224.trans (congrArg some (by kernel_rfl))⟩
 f50:=⟨Tryz.f225.name,by decide,Tryz.func225.trans (congrArg some (by kernel_rfl))⟩
 f57:=⟨Tryz.f235.name,by decide,Tryz.func235.trans (congrArg some (by kernel_rfl))⟩
 t0:=Tryz.underlying0
 a0:=Tryz.isAgg0
 z0:=Tryz.sizeOf0
 v0:=Tryz.zeroValue0
 t3:=Tryz.underlying3
 a3:=Tryz.isAgg3
 z3:=Tryz.sizeOf3
 v3:=Tryz.zeroValue3
 t4:=Tryz.underlying4
 a4:=Tryz.isAgg4
 z4:=Tryz.sizeOf4
 v4:=Tryz.zeroValue4
 t5:=Tryz.underlying5
 a5:=Tryz.isAgg5
 z5:=Tryz.sizeOf5
 v5:=Tryz.zeroValue5
 t9:=Tryz.underlying9
 a9:=Tryz.isAgg9
 z9:=Tryz.sizeOf9
 v9:=Tryz.zeroValue9
 t22:=Tryz.underlying25
 a22:=Tryz.isAgg25
 z22:=Tryz.sizeOf25
 v22:=Tryz.zeroValue25
 a24:=Tryz.isAgg65
 z24:=Tryz.sizeOf65
 t25:=Tryz.underlying153
 a25:=Tryz.isAgg153
 z25:=Tryz.sizeOf153
 v25:=Tryz.zeroValue153
 t39:=Tryz.underlying187
 a39:=Tryz.isAgg187
 z39:=Tryz.sizeOf187
 v39:=Tryz.zeroValue187
 t45:=Tryz.underlying218
 a45:=Tryz.isAgg218
 z45:=Tryz.sizeOf218
 v45:=Tryz.zeroValue218
 t46:=Tryz.underlying219
 a46:=Tryz.isAgg219
 z46:=Tryz.sizeOf219
 v46:=Tryz.zeroValue219
 t50:=Tryz.underlying223
 a50:=Tryz.isAgg223
 z50:=Tryz.sizeOf223
 v50:=Tryz.zeroValue223
 t53:=Tryz.underlying182
 a53:=Tryz.isAgg182
 z53:=Tryz.sizeOf182
 v53:=Tryz.zeroValue182
 t55:=Tryz.underlying164
 a55:=Tryz.isAgg164
 z55:=Tryz.sizeOf164
 v55:=Tryz.zeroValue164
 t66:=Tryz.underlying234
 a66:=Tryz.isAgg234
 z66:=Tryz.sizeOf234
 v66:=Tryz.zeroValue234
 t70:=Tryz.underlying238
 a70:=Tryz.isAgg238
 z70:=Tryz.sizeOf238
 v70:=Tryz.zeroValue238
 t76:=Tryz.underlying246
 a76:=Tryz.isAgg246
 z76:=Tryz.sizeOf246
 v76:=Tryz.zeroValue246
 t77:=Tryz.underlying247
 a77:=Tryz.isAgg247
 z77:=Tryz.sizeOf247
 v77:=Tryz.zeroValue247 }
end Go.Proofs

namespace Go.Proofs.YtoakocgcakgpnaaGreat
open Go.IntKind (i8 i16 i32 i64 u8 u16 u32 u64)
open Go.Proofs.Tryz
open Go Go.EL Go.RowKit Go.Proofs
abbrev i'(x:Int):Value:=.int .i64 x
abbrev sl{α:Type}(r:Rp α)(G:Mem)(p:Option Addr)(c:Nat)(xs:List α):Prop:=SlR r G (.slice p xs.length c) xs
abbrev v57'(x:Zb)(magp:Option Addr)(magc:Nat):List Value:=[.bool x.neg,.slice magp x.mag.length magc]
abbrev w57'(x:Zb):Mem->Value->Prop:=fun G v=>∃ q0 q1,v = .agg ((v57' x q0 q1)).toArray/\sl (Rp.int .u32) G q0 q1 x.mag
abbrev v59'(x:Zf)(nummagp:Option Addr)(nummagc:Nat)(denmagp:Option Addr)(denmagc:Nat):List Value:=[.bool x.num.neg,.slice nummagp x.num.mag.length nummagc,.bool x.den.neg,.slice denmagp x.den.mag.length denmagc]
abbrev w59'(x:Zf):Mem->Value->Prop:=fun G v=>∃ q0 q1 q2 q3,v = .agg ((v59' x q0 q1 q2 q3)).toArray/\sl (Rp.int .u32) G q0 q1 x.num.mag/\sl (Rp.int .u32) G q2 q3 x.den.mag
abbrev w59t'(x:Zf×Int):Mem->Value->Prop:=fun G v=>∃ q0 q1 q2 q3,v = .tuple #[.agg ((v59' x.1 q0 q1 q2 q3)).toArray,i' x.2]/\sl (Rp.int .u32) G q0 q1 x.1.num.mag/\sl (Rp.int .u32) G q2 q3 x.1.den.mag
abbrev v28'(x:Zc)(eqsp:Option Addr)(eqsc:Nat)(neqsp:Option Addr)(neqsc:Nat):List Value:=[.int .i64 x.n,.slice eqsp x.eqs.length eqsc,.slice neqsp x.neqs.length neqsc]
abbrev w28'(x:Zc):Mem->Value->Prop:=fun G v=>∃ q0 q1 q2 q3,v = .agg ((v28' x q0 q1 q2 q3)).toArray/\sl (Rp.sl Zj) G q0 q1 x.eqs/\sl (Rp.sl Zj) G q2 q3 x.neqs
abbrev w28t'(x:Zc×Int):Mem->Value->Prop:=fun G v=>∃ q0 q1 q2 q3,v = .tuple #[.agg ((v28' x.1 q0 q1 q2 q3)).toArray,i' x.2]/\sl (Rp.sl Zj) G q0 q1 x.1.eqs/\sl (Rp.sl Zj) G q2 q3 x.1.neqs
abbrev v37'(x:Zo)(lp:Option Addr)(lc:Nat)(gapp:Option Addr)(gapc:Nat):List Value:=[.int .u8 x.n,.slice lp x.l.length lc,.slice gapp x.gap.length gapc]
abbrev v70'(x:Zg)(pp:Option Addr)(pc:Nat):List Value:=[.int .i64 x.id,.slice pp x.p.length pc]
abbrev v42'(x:Zm)(varsp:Option Addr)(varsc:Nat)(eqsp:Option Addr)(eqsc:Nat)(neqsp:Option Addr)(neqsc:Nat):List Value:=[.slice varsp x.vars.length varsc,.slice eqsp x.eqs.length eqsc,.slice neqsp x.neqs.length neqsc,.int .i64 x.next]
abbrev w42'(x:Zm):Mem->Value->Prop:=fun G v=>∃ q0 q1 q2 q3 q4 q5,v = .agg ((v42' x q0 q1 q2 q3 q4 q5)).toArray/\sl Rp.str G q0 q1 x.vars/\sl Z4 G q2 q3 x.eqs/\sl Z4 G q4 q5 x.neqs
abbrev wl'{α:Type}(R:Rp α)(x:List α):Mem->Value->Prop:=fun G v=>∃ q0 q1,v = .slice q0 x.length q1/\sl @R G q0 q1 x
abbrev wlt'{α:Type}(R:Rp α)(x:List α×Int):Mem->Value->Prop:=fun G v=>∃ q0 q1,v = .tuple #[.slice q0 x.1.length q1,i' x.2]/\sl @R G q0 q1 x.1
abbrev ff:=false
abbrev tt:=true
theorem k0'{P:Program}{N:Nat}{fn:Func}{w0:Bs}{G0 G:Mem}{L:Lo}{fr:Fr}{r1:ResultVar}{α:Type}{f:α->Value}{x r:α}(e:x=r)(hr:fn.results = #[r1])(h1:RV P fr L r1 (f x)):WE N (bodyPost P fn (RetL w0 G0 fun _ _ v=>v=f r)) .ret fr (St w0 G0 G L):=e ▸ WE.ret1 hr h1 rfl
abbrev bk0(b:Nat)(c:List Value)(t:TypeId):Option Ow:=some ⟨b,.cells c.toArray t (0,0),0⟩
abbrev pt0(b:Nat):Value:=.pointer (some ⟨b,0,none⟩)
theorem sx0{P:Program}{N:Nat}{Q:Post}{fr:Fr}{S:Asrt}{ops:Array Oper}{dst:Option Nat}{ty:TypeId}{pos:String}{af:Array Edge}{y:Code}{v:Value}{x:Operand}(h:fr.ev x=some v)(hd:dstOK N dst)(k:WC P N y Q (putFr dst v fr) S):WL P N ops (Exit.then (y.wp P Q) Q) [⟨dst,.assign x,ty,pos,af,none⟩] fr S:=sg h hd (nx k)
abbrev y31'(G:Mem)(p:Option Addr)(c:Nat)(q:Option Addr)(d:Nat)(r:Option Addr)(e:Nat)(x:Zm):Prop:=sl Rp.str G p c x.vars/\sl Z4 G q d x.eqs/\sl Z4 G r e x.neqs
theorem f1{f:Fr}{a0:Nat}{b0:Value}(h0:f.get a0=some b0):Fr.sub [(a0,b0)] f:=Fr.Zd h0 (Fr.Zs f)
theorem f2{f:Fr}{a0:Nat}{b0:Value}{a1:Nat}{b1:Value}(h0:f.get a0=some b0)(h1:f.get a1=some b1):Fr.sub [(a0,b0),(a1,b1)] f:=Fr.Zd h0 (Fr.Zd h1 (Fr.Zs f))
theorem f3{f:Fr}{a0:Nat}{b0:Value}{a1:Nat}{b1:Value}{a2:Nat}{b2:Value}(h0:f.get a0=some b0)(h1:f.get a1=some b1)(h2:f.get a2=some b2):Fr.sub [(a0,b0),(a1,b1),(a2,b2)] f:=Fr.Zd h0 (Fr.Zd h1 (Fr.Zd h2 (Fr.Zs f)))
theorem f4{f:Fr}{a0:Nat}{b0:Value}{a1:Nat}{b1:Value}{a2:Nat}{b2:Value}{a3:Nat}{b3:Value}(h0:f.get a0=some b0)(h1:f.get a1=some b1)(h2:f.get a2=some b2)(h3:f.get a3=some b3):Fr.sub [(a0,b0),(a1,b1),(a2,b2),(a3,b3)] f:=Fr.Zd h0 (Fr.Zd h1 (Fr.Zd h2 (Fr.Zd h3 (Fr.Zs f))))
theorem f5{f:Fr}{a0:Nat}{b0:Value}{a1:Nat}{b1:Value}{a2:Nat}{b2:Value}{a3:Nat}{b3:Value}{a4:Nat}{b4:Value}(h0:f.get a0=some b0)(h1:f.get a1=some b1)(h2:f.get a2=some b2)(h3:f.get a3=some b3)(h4:f.get a4=some b4):Fr.sub [(a0,b0),(a1,b1),(a2,b2),(a3,b3),(a4,b4)] f:=Fr.Zd h0 (Fr.Zd h1 (Fr.Zd h2 (Fr.Zd h3 (Fr.Zd h4 (Fr.Zs f)))))
theorem f6{f:Fr}{a0:Nat}{b0:Value}{a1:Nat}{b1:Value}{a2:Nat}{b2:Value}{a3:Nat}{b3:Value}{a4:Nat}{b4:Value}{a5:Nat}{b5:Value}(h0:f.get a0=some b0)(h1:f.get a1=some b1)(h2:f.get a2=some b2)(h3:f.get a3=some b3)(h4:f.get a4=some b4)(h5:f.get a5=some b5):Fr.sub [(a0,b0),(a1,b1),(a2,b2),(a3,b3),(a4,b4),(a5,b5)] f:=Fr.Zd h0 (Fr.Zd h1 (Fr.Zd h2 (Fr.Zd h3 (Fr.Zd h4 (Fr.Zd h5 (Fr.Zs f))))))
theorem f7{f:Fr}{a0:Nat}{b0:Value}{a1:Nat}{b1:Value}{a2:Nat}{b2:Value}{a3:Nat}{b3:Value}{a4:Nat}{b4:Value}{a5:Nat}{b5:Value}{a6:Nat}{b6:Value}(h0:f.get a0=some b0)(h1:f.get a1=some b1)(h2:f.get a2=some b2)(h3:f.get a3=some b3)(h4:f.get a4=some b4)(h5:f.get a5=some b5)(h6:f.get a6=some b6):Fr.sub [(a0,b0),(a1,b1),(a2,b2),(a3,b3),(a4,b4),(a5,b5),(a6,b6)] f:=Fr.Zd h0 (Fr.Zd h1 (Fr.Zd h2 (Fr.Zd h3 (Fr.Zd h4 (Fr.Zd h5 (Fr.Zd h6 (Fr.Zs f)))))))
theorem f8{f:Fr}{a0:Nat}{b0:Value}{a1:Nat}{b1:Value}{a2:Nat}{b2:Value}{a3:Nat}{b3:Value}{a4:Nat}{b4:Value}{a5:Nat}{b5:Value}{a6:Nat}{b6:Value}{a7:Nat}{b7:Value}(h0:f.get a0=some b0)(h1:f.get a1=some b1)(h2:f.get a2=some b2)(h3:f.get a3=some b3)(h4:f.get a4=some b4)(h5:f.get a5=some b5)(h6:f.get a6=some b6)(h7:f.get a7=some b7):Fr.sub [(a0,b0),(a1,b1),(a2,b2),(a3,b3),(a4,b4),(a5,b5),(a6,b6),(a7,b7)] f:=Fr.Zd h0 (Fr.Zd h1 (Fr.Zd h2 (Fr.Zd h3 (Fr.Zd h4 (Fr.Zd h5 (Fr.Zd h6 (Fr.Zd h7 (Fr.Zs f))))))))
theorem f9{f:Fr}{a0:Nat}{b0:Value}{a1:Nat}{b1:Value}{a2:Nat}{b2:Value}{a3:Nat}{b3:Value}{a4:Nat}{b4:Value}{a5:Nat}{b5:Value}{a6:Nat}{b6:Value}{a7:Nat}{b7:Value}{a8:Nat}{b8:Value}(h0:f.get a0=some b0)(h1:f.get a1=some b1)(h2:f.get a2=some b2)(h3:f.get a3=some b3)(h4:f.get a4=some b4)(h5:f.get a5=some b5)(h6:f.get a6=some b6)(h7:f.get a7=some b7)(h8:f.get a8=some b8):Fr.sub [(a0,b0),(a1,b1),(a2,b2),(a3,b3),(a4,b4),(a5,b5),(a6,b6),(a7,b7),(a8,b8)] f:=Fr.Zd h0 (Fr.Zd h1 (Fr.Zd h2 (Fr.Zd h3 (Fr.Zd h4 (Fr.Zd h5 (Fr.Zd h6 (Fr.Zd h7 (Fr.Zd h8 (Fr.Zs f)))))))))
theorem f10{f:Fr}{a0:Nat}{b0:Value}{a1:Nat}{b1:Value}{a2:Nat}{b2:Value}{a3:Nat}{b3:Value}{a4:Nat}{b4:Value}{a5:Nat}{b5:Value}{a6:Nat}{b6:Value}{a7:Nat}{b7:Value}{a8:Nat}{b8:Value}{a9:Nat}{b9:Value}(h0:f.get a0=some b0)(h1:f.get a1=some b1)(h2:f.get a2=some b2)(h3:f.get a3=some b3)(h4:f.get a4=some b4)(h5:f.get a5=some b5)(h6:f.get a6=some b6)(h7:f.get a7=some b7)(h8:f.get a8=some b8)(h9:f.get a9=some b9):Fr.sub [(a0,b0),(a1,b1),(a2,b2),(a3,b3),(a4,b4),(a5,b5),(a6,b6),(a7,b7),(a8,b8),(a9,b9)] f:=Fr.Zd h0 (Fr.Zd h1 (Fr.Zd h2 (Fr.Zd h3 (Fr.Zd h4 (Fr.Zd h5 (Fr.Zd h6 (Fr.Zd h7 (Fr.Zd h8 (Fr.Zd h9 (Fr.Zs f))))))))))
theorem f11{f:Fr}{a0:Nat}{b0:Value}{a1:Nat}{b1:Value}{a2:Nat}{b2:Value}{a3:Nat}{b3:Value}{a4:Nat}{b4:Value}{a5:Nat}{b5:Value}{a6:Nat}{b6:Value}{a7:Nat}{b7:Value}{a8:Nat}{b8:Value}{a9:Nat}{b9:Value}{a10:Nat}{b10:Value}(h0:f.get a0=some b0)(h1:f.get a1=some b1)(h2:f.get a2=some b2)(h3:f.get a3=some b3)(h4:f.get a4=some b4)(h5:f.get a5=some b5)(h6:f.get a6=some b6)(h7:f.get a7=some b7)(h8:f.get a8=some b8)(h9:f.get a9=some b9)(h10:f.get a10=some b10):Fr.sub [(a0,b0),(a1,b1),(a2,b2),(a3,b3),(a4,b4),(a5,b5),(a6,b6),(a7,b7),(a8,b8),(a9,b9),(a10,b10)] f:=Fr.Zd h0 (Fr.Zd h1 (Fr.Zd h2 (Fr.Zd h3 (Fr.Zd h4 (Fr.Zd h5 (Fr.Zd h6 (Fr.Zd h7 (Fr.Zd h8 (Fr.Zd h9 (Fr.Zd h10 (Fr.Zs f)))))))))))
theorem f12{f:Fr}{a0:Nat}{b0:Value}{a1:Nat}{b1:Value}{a2:Nat}{b2:Value}{a3:Nat}{b3:Value}{a4:Nat}{b4:Value}{a5:Nat}{b5:Value}{a6:Nat}{b6:Value}{a7:Nat}{b7:Value}{a8:Nat}{b8:Value}{a9:Nat}{b9:Value}{a10:Nat}{b10:Value}{a11:Nat}{b11:Value}(h0:f.get a0=some b0)(h1:f.get a1=some b1)(h2:f.get a2=some b2)(h3:f.get a3=some b3)(h4:f.get a4=some b4)(h5:f.get a5=some b5)(h6:f.get a6=some b6)(h7:f.get a7=some b7)(h8:f.get a8=some b8)(h9:f.get a9=some b9)(h10:f.get a10=some b10)(h11:f.get a11=some b11):Fr.sub [(a0,b0),(a1,b1),(a2,b2),(a3,b3),(a4,b4),(a5,b5),(a6,b6),(a7,b7),(a8,b8),(a9,b9),(a10,b10),(a11,b11)] f:=Fr.Zd h0 (Fr.Zd h1 (Fr.Zd h2 (Fr.Zd h3 (Fr.Zd h4 (Fr.Zd h5 (Fr.Zd h6 (Fr.Zd h7 (Fr.Zd h8 (Fr.Zd h9 (Fr.Zd h10 (Fr.Zd h11 (Fr.Zs f))))))))))))
theorem f13{f:Fr}{a0:Nat}{b0:Value}{a1:Nat}{b1:Value}{a2:Nat}{b2:Value}{a3:Nat}{b3:Value}{a4:Nat}{b4:Value}{a5:Nat}{b5:Value}{a6:Nat}{b6:Value}{a7:Nat}{b7:Value}{a8:Nat}{b8:Value}{a9:Nat}{b9:Value}{a10:Nat}{b10:Value}{a11:Nat}{b11:Value}{a12:Nat}{b12:Value}(h0:f.get a0=some b0)(h1:f.get a1=some b1)(h2:f.get a2=some b2)(h3:f.get a3=some b3)(h4:f.get a4=some b4)(h5:f.get a5=some b5)(h6:f.get a6=some b6)(h7:f.get a7=some b7)(h8:f.get a8=some b8)(h9:f.get a9=some b9)(h10:f.get a10=some b10)(h11:f.get a11=some b11)(h12:f.get a12=some b12):Fr.sub [(a0,b0),(a1,b1),(a2,b2),(a3,b3),(a4,b4),(a5,b5),(a6,b6),(a7,b7),(a8,b8),(a9,b9),(a10,b10),(a11,b11),(a12,b12)] f:=Fr.Zd h0 (Fr.Zd h1 (Fr.Zd h2 (Fr.Zd h3 (Fr.Zd h4 (Fr.Zd h5 (Fr.Zd h6 (Fr.Zd h7 (Fr.Zd h8 (Fr.Zd h9 (Fr.Zd h10 (Fr.Zd h11 (Fr.Zd h12 (Fr.Zs f)))))))))))))
theorem f14{f:Fr}{a0:Nat}{b0:Value}{a1:Nat}{b1:Value}{a2:Nat}{b2:Value}{a3:Nat}{b3:Value}{a4:Nat}{b4:Value}{a5:Nat}{b5:Value}{a6:Nat}{b6:Value}{a7:Nat}{b7:Value}{a8:Nat}{b8:Value}{a9:Nat}{b9:Value}{a10:Nat}{b10:Value}{a11:Nat}{b11:Value}{a12:Nat}{b12:Value}{a13:Nat}{b13:Value}(h0:f.get a0=some b0)(h1:f.get a1=some b1)(h2:f.get a2=some b2)(h3:f.get a3=some b3)(h4:f.get a4=some b4)(h5:f.get a5=some b5)(h6:f.get a6=some b6)(h7:f.get a7=some b7)(h8:f.get a8=some b8)(h9:f.get a9=some b9)(h10:f.get a10=some b10)(h11:f.get a11=some b11)(h12:f.get a12=some b12)(h13:f.get a13=some b13):Fr.sub [(a0,b0),(a1,b1),(a2,b2),(a3,b3),(a4,b4),(a5,b5),(a6,b6),(a7,b7),(a8,b8),(a9,b9),(a10,b10),(a11,b11),(a12,b12),(a13,b13)] f:=Fr.Zd h0 (Fr.Zd h1 (Fr.Zd h2 (Fr.Zd h3 (Fr.Zd h4 (Fr.Zd h5 (Fr.Zd h6 (Fr.Zd h7 (Fr.Zd h8 (Fr.Zd h9 (Fr.Zd h10 (Fr.Zd h11 (Fr.Zd h12 (Fr.Zd h13 (Fr.Zs f))))))))))))))
theorem f15{f:Fr}{a0:Nat}{b0:Value}{a1:Nat}{b1:Value}{a2:Nat}{b2:Value}{a3:Nat}{b3:Value}{a4:Nat}{b4:Value}{a5:Nat}{b5:Value}{a6:Nat}{b6:Value}{a7:Nat}{b7:Value}{a8:Nat}{b8:Value}{a9:Nat}{b9:Value}{a10:Nat}{b10:Value}{a11:Nat}{b11:Value}{a12:Nat}{b12:Value}{a13:Nat}{b13:Value}{a14:Nat}{b14:Value}(h0:f.get a0=some b0)(h1:f.get a1=some b1)(h2:f.get a2=some b2)(h3:f.get a3=some b3)(h4:f.get a4=some b4)(h5:f.get a5=some b5)(h6:f.get a6=some b6)(h7:f.get a7=some b7)(h8:f.get a8=some b8)(h9:f.get a9=some b9)(h10:f.get a10=some b10)(h11:f.get a11=some b11)(h12:f.get a12=some b12)(h13:f.get a13=some b13)(h14:f.get a14=some b14):Fr.sub [(a0,b0),(a1,b1),(a2,b2),(a3,b3),(a4,b4),(a5,b5),(a6,b6),(a7,b7),(a8,b8),(a9,b9),(a10,b10),(a11,b11),(a12,b12),(a13,b13),(a14,b14)] f:=Fr.Zd h0 (Fr.Zd h1 (Fr.Zd h2 (Fr.Zd h3 (Fr.Zd h4 (Fr.Zd h5 (Fr.Zd h6 (Fr.Zd h7 (Fr.Zd h8 (Fr.Zd h9 (Fr.Zd h10 (Fr.Zd h11 (Fr.Zd h12 (Fr.Zd h13 (Fr.Zd h14 (Fr.Zs f)))))))))))))))
theorem f16{f:Fr}{a0:Nat}{b0:Value}{a1:Nat}{b1:Value}{a2:Nat}{b2:Value}{a3:Nat}{b3:Value}{a4:Nat}{b4:Value}{a5:Nat}{b5:Value}{a6:Nat}{b6:Value}{a7:Nat}{b7:Value}{a8:Nat}{b8:Value}{a9:Nat}{b9:Value}{a10:Nat}{b10:Value}{a11:Nat}{b11:Value}{a12:Nat}{b12:Value}{a13:Nat}{b13:Value}{a14:Nat}{b14:Value}{a15:Nat}{b15:Value}(h0:f.get a0=some b0)(h1:f.get a1=some b1)(h2:f.get a2=some b2)(h3:f.get a3=some b3)(h4:f.get a4=some b4)(h5:f.get a5=some b5)(h6:f.get a6=some b6)(h7:f.get a7=some b7)(h8:f.get a8=some b8)(h9:f.get a9=some b9)(h10:f.get a10=some b10)(h11:f.get a11=some b11)(h12:f.get a12=some b12)(h13:f.get a13=some b13)(h14:f.get a14=some b14)(h15:f.get a15=some b15):Fr.sub [(a0,b0),(a1,b1),(a2,b2),(a3,b3),(a4,b4),(a5,b5),(a6,b6),(a7,b7),(a8,b8),(a9,b9),(a10,b10),(a11,b11),(a12,b12),(a13,b13),(a14,b14),(a15,b15)] f:=Fr.Zd h0 (Fr.Zd h1 (Fr.Zd h2 (Fr.Zd h3 (Fr.Zd h4 (Fr.Zd h5 (Fr.Zd h6 (Fr.Zd h7 (Fr.Zd h8 (Fr.Zd h9 (Fr.Zd h10 (Fr.Zd h11 (Fr.Zd h12 (Fr.Zd h13 (Fr.Zd h14 (Fr.Zd h15 (Fr.Zs f))))))))))))))))
theorem w1{w0:Bs}{G0 G:Mem}{L:Lo}{a0:Nat}{b0:Option Ow}(h0:L.get a0=b0):∀ w,St w0 G0 G L w->St w0 G0 G [(a0,b0)] w:=wk (Lo.Zd h0 (Lo.Zs L))
theorem w2{w0:Bs}{G0 G:Mem}{L:Lo}{a0:Nat}{b0:Option Ow}{a1:Nat}{b1:Option Ow}(h0:L.get a0=b0)(h1:L.get a1=b1):∀ w,St w0 G0 G L w->St w0 G0 G [(a0,b0),(a1,b1)] w:=wk (Lo.Zd h0 (Lo.Zd h1 (Lo.Zs L)))
theorem w3{w0:Bs}{G0 G:Mem}{L:Lo}{a0:Nat}{b0:Option Ow}{a1:Nat}{b1:Option Ow}{a2:Nat}{b2:Option Ow}(h0:L.get a0=b0)(h1:L.get a1=b1)(h2:L.get a2=b2):∀ w,St w0 G0 G L w->St w0 G0 G [(a0,b0),(a1,b1),(a2,b2)] w:=wk (Lo.Zd h0 (Lo.Zd h1 (Lo.Zd h2 (Lo.Zs L))))
theorem w4{w0:Bs}{G0 G:Mem}{L:Lo}{a0:Nat}{b0:Option Ow}{a1:Nat}{b1:Option Ow}{a2:Nat}{b2:Option Ow}{a3:Nat}{b3:Option Ow}(h0:L.get a0=b0)(h1:L.get a1=b1)(h2:L.get a2=b2)(h3:L.get a3=b3):∀ w,St w0 G0 G L w->St w0 G0 G [(a0,b0),(a1,b1),(a2,b2),(a3,b3)] w:=wk (Lo.Zd h0 (Lo.Zd h1 (Lo.Zd h2 (Lo.Zd h3 (Lo.Zs L)))))
theorem w5{w0:Bs}{G0 G:Mem}{L:Lo}{a0:Nat}{b0:Option Ow}{a1:Nat}{b1:Option Ow}{a2:Nat}{b2:Option Ow}{a3:Nat}{b3:Option Ow}{a4:Nat}{b4:Option Ow}(h0:L.get a0=b0)(h1:L.get a1=b1)(h2:L.get a2=b2)(h3:L.get a3=b3)(h4:L.get a4=b4):∀ w,St w0 G0 G L w->St w0 G0 G [(a0,b0),(a1,b1),(a2,b2),(a3,b3),(a4,b4)] w:=wk (Lo.Zd h0 (Lo.Zd h1 (Lo.Zd h2 (Lo.Zd h3 (Lo.Zd h4 (Lo.Zs L))))))
abbrev a':=@Zj
abbrev b':=@WE.then
abbrev c':=@Y0.move
abbrev f':=@WE.thenRet
abbrev g':=@WC.seq
abbrev h':=@WE.thenExit
abbrev j':=@WE.ret1
abbrev k':=@WC.ret
abbrev m':=@YC.of
abbrev n':=@WC.skip
abbrev o':=@Y0.loadL
abbrev p':=@underlying55
abbrev q':=@WL.nil
abbrev t':=@Y0.pickF
abbrev w':=@Y0.pickT
abbrev x':=@WC.region
abbrev y':=@WC.block
abbrev A':=@WE.inBlockRet
abbrev B':=@WL.storeLA
abbrev C':=@underlying65
abbrev D':=@Y0.loadLA
abbrev E':=@Zge
abbrev F':=@WE.inBlock
abbrev H':=@Ctr.enter
abbrev I':=@WE.exitHere
abbrev J':=@At.mono
abbrev K':=@WL.call0
abbrev M':=@underlying25
abbrev N':=@WL.call
abbrev O':=@Y0.lenR
abbrev P':=@WC.cr
abbrev Q':=@Zz
abbrev R':=@Y0.extract
abbrev T':=@WE.backR
abbrev U':=@Z4
abbrev V':=@Y0.idxR
abbrev W':=@Y0.add
abbrev X':=@WL.alloc
abbrev Y':=@underlying40
abbrev Z':=@SlR.at
abbrev aa':=@Y0.lss
abbrev ab':=@WC.meetH
abbrev ac':=@WC.loopR
abbrev ad':=@underlying164
abbrev ae':=@WC.exit
abbrev af':=@WE.endH
abbrev ag':=@underlying182
abbrev ah':=@Chain.tail0
abbrev ai':=@WL.box
abbrev aj':=@Y0.loadG
abbrev ak':=@WC.drawn
abbrev al':=@Y0.loadLP
abbrev am':=@WE.nx
abbrev an':=@WE.endRet
abbrev ao':=@Y0.loadGA
abbrev ap':=@ZnN
abbrev aq':=@ZgZ
abbrev ar':=@underlying68
abbrev as':=@Y0.ZjN
abbrev at':=@ag57
abbrev au':=@Y0.build
abbrev av':=@Y0.conv
abbrev aw':=@RV.cellA
abbrev ax':=@WE.midH
abbrev ay':=@SlR.nil
abbrev az':=@Chain.callU
abbrev aA':=@Y0.not
abbrev aB':=@WC.condT
abbrev aC':=@Chain.skipU
abbrev aD':=@underlying3
abbrev aE':=@WL.cr
abbrev aF':=@WL.litR
abbrev aG':=@AtK.via
abbrev aH':=@Y0.eql
abbrev aI':=@underlying39
abbrev aJ':=@AtK.int
abbrev aK':=@WC.crB
abbrev aL':=@underlying5
abbrev aM':=@Y0.ZkL
abbrev aN':=@Chain.y0U
abbrev aO':=@WC.seqH
abbrev aP':=@sz182
abbrev aQ':=@Y0.ZlU
abbrev aR':=@underlying9
abbrev aS':=@Y0.gtr
abbrev aT':=@Y0.idxA0
abbrev aU':=@Zgc
abbrev aV':=@Y0.ZkK
abbrev aW':=@sz119
abbrev aX':=@WL.skip
abbrev aY':=@Y0.ZlW
abbrev aZ':=@underlying44
abbrev ba':=@Y0.sub
abbrev bb':=@WL.appendR
abbrev bc':=@ag59
abbrev bd':=@WE.ret2
abbrev be':=@sc55
abbrev bf':=@underlying4
abbrev bh':=@ZgI
abbrev bi':=@Chain.tailU1
abbrev bj':=@ag28
abbrev bk':=@Y0.ZlV
abbrev bl':=@AtK.sl
abbrev bm':=@underlying49
abbrev bn':=@sz57
abbrev bo':=@ag68
abbrev bp':=@Y0.neq
abbrev bq':=@AtK.snd
abbrev br':=@AtK.fst
abbrev bs':=@Y0.idxRow
abbrev bt':=@Y0.Zn2
abbrev bu':=@sc182
abbrev bw':=@WC.condF
abbrev bx':=@Y0.ZnZ
abbrev by':=@WL.storeL
abbrev bz':=@Y0.Zn1
abbrev bA':=@Y0.Zn0
abbrev bB':=@sz28
abbrev bC':=@Z9
abbrev bD':=@Rp.vec
abbrev bE':=@ZaO
abbrev bF':=@Chain.y0UU
abbrev bG':=@Chain.cr
abbrev bH':=@Y0.geq
abbrev bJ':=@Chain.callUU
abbrev bK':=@AtK.vec
abbrev bL':=@Chain.call0
abbrev bM':=@Zkt
abbrev bN':=@Chain.alloc
abbrev bO':=@sc40
abbrev bP':=@Y0.rem
abbrev bQ':=@Y0.ZnY
abbrev bR':=@sz70
abbrev bT':=@WL.storeT
abbrev bU':=@sc65
abbrev bV':=@WL.freezeT
abbrev bW':=@Y0.leq
abbrev cb':=@Tok.full
abbrev cd':=@CtrL.enter
abbrev ce':=@Zla
abbrev cf':=@WL.callT
abbrev cg':=@WE.conseq
abbrev ch':=@sz59
abbrev ci':=@Chain.floatB
abbrev cj':=@sz65
abbrev cl':=@Y0.Zn3
abbrev cn':=@underlying35
abbrev co':=@Y0.ZhU
abbrev cp':=@underlying2
abbrev cu':=@Chain.litU
abbrev cv':=@Chain.float
abbrev cx':=@Chain.tailU3
abbrev cy':=@underlying111
abbrev cA':=@ZhO
abbrev cB':=@Y0.ZjL
abbrev cD':=@Chain.tailU2
abbrev cE':=@ZaB
abbrev cF':=@ag119
abbrev cI':=@Chain.floatUD
abbrev cL':=@ZcT
abbrev cM':=@WLT.back
abbrev cP':=@underlying54
abbrev cR':=@Y0.ZjK
abbrev cS':=@WL.makeT
abbrev cV':=@Y0.quo
abbrev cX':=@SlR.eqv
abbrev cY':=@SlR.std
abbrev cZ':=@WLT.one
abbrev db':=@Y0.eq
abbrev dd':=@Y0.mul
abbrev de':=@Y0.indexS
abbrev df':=@RowR.zero
abbrev dg':=@underlying187
abbrev dh':=@underlying138
abbrev dj':=@underlying123
abbrev dl':=@WL.appendT
abbrev do':=@Y0.eqlB
abbrev dq':=@underlying22
abbrev ds':=@WL.unX
abbrev dt':=@Chain.callD
abbrev dy':=@WL.conseq
abbrev dJ':=@AtK.str
abbrev dO':=@underlying189
abbrev dQ':=@AtK.vecAt
abbrev dT':=@WL.adoptL
abbrev dW':=@Chain.floatEx
abbrev dY':=@underlying91
abbrev ea':=@ZhP
abbrev eb':=@Y0.ZnC
end Go.Proofs.YtoakocgcakgpnaaGreat

