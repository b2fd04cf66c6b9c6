/- The law EditAll holds for every input: a part of its proof (what the code does, plain models, and what they return). No condition. -/
import Derived.Test.YtenaadodnembpaaGreatXA7c
import Derived.Test.YtenaadodnembpaaGreatXA7b
import Derived.Shelf.SlGeneric
import Derived.Shelf.SlLaysF0
import Derived.Ground.SlsfProg
import Derived.Test.YtenaadodnembpaaGreatProg
set_option linter.unusedVariables false
set_option linter.unusedSimpArgs false
namespace Go.EL
open Go Go.RowKit
theorem IndexFunc_ret {l:List Za} (hl:l.length≤100) (id:Int):(Zs l id).Ret (findI l id):=by
 refine Comp.loop_idx l.length (fun k s=>s=(k:Int)∧findI l id=findFrom id (l.drop k) k) (fun k s hk hs=>?_) (fun s hs=>?_) ⟨rfl,rfl⟩
 ·obtain ⟨rfl,he⟩:=hs
  rw [List.drop_eq_getElem_cons hk] at he
  simp only [findFrom] at he
  rw [Comp.wp_ite,if_pos (by omega)]
  refine ⟨l[k],idxN hk,_,rfl,?_⟩
  rw [Comp.wp_ite]
  by_cases h:l[k].id=id
  ·rw [if_pos h] at he
   rw [if_pos (decide_eq_true h)]
   exact he.symm
  ·rw [if_neg h] at he
   rw [if_neg (by simpa using h)]
   exact ⟨wrapN (by omega),he⟩
 ·obtain ⟨rfl,he⟩:=hs
  rw [Comp.wp_ite,if_neg (by omega)]
  rw [List.drop_length] at he
  exact he.symm
theorem findI_first {id:Int}:∀ (l:List Za) (k:Nat) {j:Nat},findFrom id l k=((k + j:Nat):Int)→j < l.length∧dropL (l.take (j + 1)) id=l.take j
 | [],k,j,h=>by simp [findFrom] at h; omega
 | x::xs,k,j,h=>by
  simp only [findFrom] at h
  by_cases hx:x.id=id
  ·rw [if_pos hx] at h
   obtain rfl:j=0:=by omega
   exact ⟨by simp,by simp [dropL,hx]⟩
  ·rw [if_neg hx] at h
   have hj:0 < j:=by
    rcases findFrom_spec id xs (k + 1) with ⟨_,h2⟩|⟨i,q,_,h2,_⟩ <;> omega
   obtain ⟨i,rfl⟩:∃ i,j=i + 1:=⟨j - 1,by omega⟩
   obtain ⟨h1,h2⟩:=findI_first xs (k + 1) (j:=i) (by rw [h]; omega)
   refine ⟨by simp; omega,?_⟩
   unfold dropL at h2 ⊢
   rw [List.take_succ_cons,List.filter_cons,if_pos (by simpa using hx),h2,List.take_succ_cons]
theorem dropL_none {l:List Za} {id:Int} (h:findI l id = -1):dropL l id=l:=by
 unfold dropL
 rw [List.filter_eq_self]
 intro q hq
 rcases findI_spec l id with ⟨h1,_⟩|⟨j,q',_,h2,_⟩
 ·unfold findQ at h1
  have:=List.find?_eq_none.1 h1 q hq
  simpa using this
 ·omega
theorem DeleteFunc_ret {l:List Za} (hl:l.length≤100) (id:Int):(Zo l id).Ret (dropL l id):=by
 refine ⟨_,IndexFunc_ret hl id,?_⟩
 rcases findI_spec l id with ⟨_,h2⟩|⟨j,q,_,h2,_⟩
 ·rw [Comp.wp_ite,if_pos h2,dropL_none h2]
  rfl
 ·obtain ⟨hj,h3⟩:=findI_first l 0 (j:=j) (by unfold findI at h2; rw [h2]; simp)
  rw [Comp.wp_ite,if_neg (by omega),h2]
  show (Comp.next _ _).wp _
  refine Comp.loop_idx (l.length - (j + 1)) (fun k st=>∃ (s3:List Za) (i:Nat),st=(s3,(i:Int),((j + 1 + k:Nat):Int))∧i < j + 1 + k∧s3.length=l.length∧s3.take i=dropL (l.take (j + 1 + k)) id∧s3.drop (j + 1 + k) = l.drop (j + 1 + k)) (fun k st hk hs=>?_) (fun st hs=>?_) ⟨l,j,by rw [wrapN (by omega)],by omega,rfl,h3.symm,rfl⟩
  ·obtain ⟨s3,i,rfl,hi,hlen,ht,hd⟩:=hs
   have hk':j + 1 + k < l.length:=by omega
   have hk3:j + 1 + k < s3.length:=by omega
   have hx:s3[j + 1 + k] = l[j + 1 + k]:=by
    have:=congrArg (·[0]?) hd
    simpa [List.getElem?_drop,List.getElem?_eq_getElem hk',List.getElem?_eq_getElem hk3] using this
   have hd1:s3.drop (j + 1 + k + 1) = l.drop (j + 1 + k + 1):=by
    have:=congrArg (List.drop 1) hd
    rwa [List.drop_drop,List.drop_drop] at this
   have ef:=filter_take_succ hk' fun q=>decide (¬ q.id=id)
   show (if ((j + 1 + k:Nat):Int) < (s3.length:Int) then _ else _:Comp _).wp _
   rw [Comp.wp_ite,if_pos (by omega)]
   refine ⟨s3[j + 1 + k],idxN hk3,_,rfl,?_⟩
   rw [Comp.wp_ite,hx]
   by_cases hid:l[j + 1 + k].id=id
   ·rw [if_neg (by simp [hid])]
    refine ⟨s3,i,by rw [wrapN (by omega)]; rfl,by omega,hlen,?_,?_⟩
    ·rw [ht]
     unfold dropL
     rw [show j + 1 + (k + 1) = j + 1 + k + 1 by omega,ef,if_neg (by simp [hid]),List.append_nil]
    ·rw [show j + 1 + (k + 1) = j + 1 + k + 1 by omega,hd1]
   ·rw [if_pos (by simp [hid])]
    refine ⟨s3[i]'(by omega),idxN (by omega),s3.set i l[j + 1 + k],i + 1,by rw [wrapN (by omega),wrapN (by omega)]; rfl,by omega,by simp [hlen],?_,?_⟩
    ·unfold dropL at ht ⊢
     rw [show j + 1 + (k + 1) = j + 1 + k + 1 by omega,ef,if_pos (by simp [hid]),← ht]
     rw [List.take_set,List.take_succ_eq_append_getElem (by omega),List.set_append_right _ _ (by simp; omega)]
     simp [Nat.min_eq_left (show i≤s3.length by omega)]
    ·rw [show j + 1 + (k + 1) = j + 1 + k + 1 by omega,List.drop_set_of_lt (by omega),hd1]
  ·obtain ⟨s3,i,rfl,hi,hlen,ht,hd⟩:=hs
   have e:j + 1 + (l.length - (j + 1)) = l.length:=by omega
   rw [e] at hi ht
   show (if ((j + 1 + (l.length - (j + 1)):Nat):Int) < (s3.length:Int) then _ else _:Comp _).wp _
   rw [Comp.wp_ite,if_neg (by omega)]
   show (Zk s3 (i:Int)).wp _
   refine ⟨⟨by omega,by omega,by omega⟩,⟨by omega,by omega,by simp; omega⟩,?_⟩
   show _=_
   rw [List.take_length] at ht
   rw [Int.toNat_natCast,List.take_append_of_le_length (by simp; omega),List.take_take,Nat.min_self,ht]
end Go.EL

namespace Go.EL
open Go Go.RowKit
theorem half {i j:Nat} (h:i + j≤200):IntKind.i64.wrap (Int.fdiv (IntKind.u64.wrap (IntKind.i64.wrap ((i:Int) + (j:Int)))) (2 ^ (min (1:Int).toNat IntKind.u64.bits))) = (((i + j) / 2:Nat):Int):=by
 rw [wrap64 (x:=(i:Int) + (j:Int)) (by omega)]
 have hu:IntKind.u64.wrap ((i:Int) + (j:Int)) = (((i + j:Nat)):Int):=by
  simp only [IntKind.wrap,IntKind.bits,IntKind.signed,Bool.false_and,Bool.false_eq_true,if_false]
  omega
 rw [hu,show min (1:Int).toNat IntKind.u64.bits=1 from rfl,fdiv_nat,wrap64 (by rw [Nat.shiftRight_eq_div_pow]; omega)]
 rw [Nat.shiftRight_eq_div_pow]
theorem Compare_ret (a b:Int):(ZbM a b).Ret (if a < b then -1 else if b < a then 1 else 0):=by
 refine ⟨false,?_,false,?_,?_⟩
 ·exact (decide_eq_false (fun h=>h rfl):decide (¬ a=a) = false)
 ·exact (decide_eq_false (fun h=>h rfl):decide (¬ b=b) = false)
 rw [Comp.wp_ite,if_neg (by decide),Comp.wp_ite,if_neg (by decide),Comp.wp_ite]
 by_cases h:a < b
 ·rw [if_pos h,if_pos h]; rfl
 ·rw [if_neg h,if_neg h,Comp.wp_ite]
  by_cases h2:b < a
  ·rw [if_pos h2,if_pos h2]; rfl
  ·rw [if_neg h2,if_neg h2]; rfl
theorem insert_c1_ret (q:Za) (id:Int):(Zbj q id).Ret (if q.id < id then -1 else if id < q.id then 1 else 0):=⟨_,Compare_ret _ _,rfl⟩
theorem Search_ret {l:List Za} (hl:l.length≤100) (hi:l.Pairwise fun a b=>a.id < b.id) {id:Int} (hnew:∀ q ∈ l,q.id≠id) :
  (Zg l id).wp (fun r=>∃ k:Nat,k≤l.length∧r=((k:Int),false)∧(∀ m (hm:m < l.length),m < k→l[m].id < id)∧∀ m (hm:m < l.length),k≤m→id < l[m].id):=by
 have hpw:=List.pairwise_iff_getElem.1 hi
 show (Comp.next _ _).wp _
 refine Comp.loop_inv (fun st=>∃ a b:Nat,st=((a:Int),(b:Int))∧a≤b∧b≤l.length∧(∀ m (hm:m < l.length),m < a→l[m].id < id)∧∀ m (hm:m < l.length),b≤m→id < l[m].id) (fun st=>st.2.toNat - st.1.toNat) (fun st hs=>?_) _ ⟨0,l.length,rfl,by omega,by omega,fun m _ h=>by omega,fun m h1 h2=>by omega⟩
 obtain ⟨a,b,rfl,h1,h2,h3,h4⟩:=hs
 show (if (a:Int) < (b:Int) then _ else _:Comp _).wp _
 rw [Comp.wp_ite]
 split
 ·rename_i hab
  have hm:(a + b) / 2 < l.length:=by omega
  rw [half (by omega)]
  refine ⟨l[(a + b) / 2],idxN hm,_,insert_c1_ret _ _,?_⟩
  have hne:=hnew _ (List.getElem_mem hm)
  rw [Comp.wp_ite]
  by_cases hlt:l[(a + b) / 2].id < id
  ·rw [if_pos (by rw [if_pos hlt]; decide)]
   refine ⟨⟨(a + b) / 2 + 1,b,by rw [wrapN (by omega)],by omega,h2,fun m hm' hma=>?_,h4⟩,by rw [wrapN (by omega)]; simp; omega⟩
   by_cases e:m=(a + b) / 2
   ·subst e; exact hlt
   ·have:=hpw m ((a + b) / 2) hm' hm (by omega); omega
  ·rw [if_neg (by rw [if_neg hlt]; split <;> decide)]
   refine ⟨⟨a,(a + b) / 2,rfl,by omega,by omega,h3,fun m hm' hma=>?_⟩,by simp; omega⟩
   by_cases e:m=(a + b) / 2
   ·subst e; omega
   ·have:=hpw ((a + b) / 2) m hm hm' (by omega); omega
 ·rename_i hab
  obtain rfl:a=b:=by omega
  show (Zi l id (a:Int)).wp _
  unfold Zi
  rw [Comp.wp_ite]
  split
  ·rename_i hal
   have hg:=h4 a (by omega) (by omega)
   refine ⟨l[a]'(by omega),idxN (by omega),_,insert_c1_ret _ _,a,h2,?_,h3,h4⟩
   rw [if_neg (by omega),if_pos hg]; rfl
  ·exact ⟨a,h2,rfl,h3,h4⟩
theorem place {l:List Za} {id:Int} {k:Nat} (hk:k≤l.length) (h1:∀ m (hm:m < l.length),m < k→l[m].id < id) (h2:∀ m (hm:m < l.length),k≤m→id < l[m].id) :
  l.filter (fun q=>decide (q.id < id)) = l.take k∧l.filter (fun q=>decide (id < q.id)) = l.drop k:=by
 have hT:∀ q ∈ l.take k,q.id < id:=fun q hq=>by
  obtain ⟨m,hm,rfl⟩:=List.mem_iff_getElem.1 hq
  simp only [List.length_take] at hm
  rw [List.getElem_take]
  exact h1 m (by omega) (by omega)
 have hD:∀ q ∈ l.drop k,id < q.id:=fun q hq=>by
  obtain ⟨m,hm,rfl⟩:=List.mem_iff_getElem.1 hq
  simp only [List.length_drop] at hm
  rw [List.getElem_drop]
  exact h2 (k + m) (by omega) (by omega)
 constructor
 ·conv=>lhs; rw [← List.take_append_drop k l]
  rw [List.filter_append,filter_all fun q hq=>decide_eq_true (hT q hq),filter_none fun q hq=>decide_eq_false (by have:=hD q hq; omega),List.append_nil]
 ·conv=>lhs; rw [← List.take_append_drop k l]
  rw [List.filter_append,filter_none fun q hq=>decide_eq_false (by have:=hT q hq; omega),filter_all fun q hq=>decide_eq_true (hD q hq),List.nil_append]
end Go.EL

namespace Go.EL
open Go Go.RowKit
theorem Search_one {l:List Za} (hl:l.length≤100) (hi:l.Pairwise fun a b=>a.id < b.id) {id:Int} (hnew:∀ q ∈ l,q.id≠id) :
  ∃ k:Nat,k≤l.length∧(Zg l id).Ret ((k:Int),false)∧l.filter (fun q=>decide (q.id < id)) = l.take k∧l.filter (fun q=>decide (id < q.id)) = l.drop k:=by
 have hs:=Search_ret hl hi hnew
 have huniq:∀ r:Int×Bool,(∃ k:Nat,k≤l.length∧r=((k:Int),false)∧(∀ m (hm:m < l.length),m < k→l[m].id < id)∧∀ m (hm:m < l.length),k≤m→id < l[m].id)→r=(((l.filter fun q:Za=>decide (q.id < id)).length:Int),false):=by
  rintro r ⟨k,h1,rfl,h2,h3⟩
  have:=(place h1 h2 h3).1
  rw [this,List.length_take,Nat.min_eq_left h1]
 have hret:=(Zg l id).mono huniq hs
 refine ⟨_,List.length_filter_le (fun q:Za=>decide (q.id < id)) l,hret,?_⟩
 have hpw:=List.pairwise_iff_getElem.1 hi
 have key:∀ (l:List Za),l.Pairwise (fun a b=>a.id < b.id)→(∀ q ∈ l,q.id≠id)→l.filter (fun q=>decide (q.id < id)) = l.take (l.filter fun q:Za=>decide (q.id < id)).length∧l.filter (fun q=>decide (id < q.id)) = l.drop (l.filter fun q:Za=>decide (q.id < id)).length:=by
  intro l
  induction l with
  | nil=>intro _ _; exact ⟨rfl,rfl⟩
  | cons x xs ih=>
   intro hp hn
   obtain ⟨p1,p2⟩:=List.pairwise_cons.1 hp
   obtain ⟨i1,i2⟩:=ih p2 fun q hq=>hn q (by simp [hq])
   have hx:=hn x (by simp)
   by_cases hlt:x.id < id
   ·rw [List.filter_cons,if_pos (decide_eq_true hlt),List.filter_cons,if_neg (by simp; omega)]
    rw [List.length_cons,List.take_succ_cons,List.drop_succ_cons]
    exact ⟨congrArg (x::·) i1,i2⟩
   ·have h0:(x::xs).filter (fun q=>decide (q.id < id)) = []:=filter_none fun q hq=>decide_eq_false (by
     rcases List.mem_cons.1 hq with rfl|hq
     ·exact hlt
     ·have:=p1 q hq; omega)
    have h1:(x::xs).filter (fun q=>decide (id < q.id)) = x::xs:=filter_all fun q hq=>decide_eq_true (by
     rcases List.mem_cons.1 hq with rfl|hq
     ·omega
     ·have:=p1 q hq; omega)
    rw [h0,h1]
    exact ⟨rfl,rfl⟩
 exact key l hi hnew
theorem insertL_ret {l:List Za} (hl:l.length≤100) (hi:l.Pairwise fun a b=>a.id < b.id) {q:Za} (hnew:∀ p ∈ l,p.id≠q.id) :
  ∃ k:Int×Bool,(Zg l q.id).Ret k∧(ZL l k.1 [q]).Ret (putL l q):=by
 obtain ⟨k,h1,h2,h3,h4⟩:=Search_one hl hi hnew
 refine ⟨_,h2,⟨⟨by omega,by omega⟩,rfl,by omega⟩,?_⟩
 show _=_
 unfold putL
 rw [h3,h4]
 simp
def insS (s:Zb) (q:Za) (neq:Bool):Zb:=if neq=true then ⟨s.vars,s.eqs,putL s.neqs q,s.next⟩ else ⟨s.vars,putL s.eqs q,s.neqs,s.next⟩
theorem insert_ret {s:Zb} {q:Za} {neq:Bool} (hl:(if neq=true then s.neqs else s.eqs).length≤100) (hi:(if neq=true then s.neqs else s.eqs).Pairwise fun a b=>a.id < b.id) (hnew:∀ p ∈ (if neq=true then s.neqs else s.eqs),p.id≠q.id):(Zcl s q neq).Ret (insS s q neq):=by
 cases neq with
 | true=>
  obtain ⟨k,h1,h2⟩:=insertL_ret hl hi hnew
  exact ⟨s.neqs,rfl,s.neqs,CloneE_ret hl,k,h1,putL s.neqs q,h2,rfl⟩
 | false=>
  obtain ⟨k,h1,h2⟩:=insertL_ret hl hi hnew
  exact ⟨s.eqs,rfl,s.eqs,CloneE_ret hl,k,h1,putL s.eqs q,h2,rfl⟩
end Go.EL

namespace Go.EL
open Go Go.RowKit
theorem findQ_mem {l:List Za} {id:Int} {q:Za} (h:findQ l id=some q):q ∈ l∧q.id=id:=by
 unfold findQ at h
 exact ⟨List.mem_of_find?_eq_some h,by have:=List.find?_some h; simpa using this⟩
theorem findQ_none {l:List Za} {id:Int} (h:findQ l id=none):∀ q ∈ l,q.id≠id:=fun q hq e=>by
 unfold findQ at h
 have:=List.find?_eq_none.1 h q hq
 simp at this; exact this e
theorem has_iff (s:Zb) (id:Int):hasB s id=true↔(∃ q ∈ s.eqs,q.id=id)∨∃ q ∈ s.neqs,q.id=id:=by
 unfold hasB
 rw [findI_some,findI_some,Bool.or_eq_true,Option.isSome_iff_exists,Option.isSome_iff_exists]
 constructor
 ·rintro (⟨q,h⟩|⟨q,h⟩)
  ·exact .inl ⟨q,findQ_mem h⟩
  ·exact .inr ⟨q,findQ_mem h⟩
 ·rintro (⟨q,h1,h2⟩|⟨q,h1,h2⟩)
  ·cases h:findQ s.eqs id with
   | some q=>exact .inl ⟨q,rfl⟩
   | none=>exact absurd h2 (findQ_none h q h1)
  ·cases h:findQ s.neqs id with
   | some q=>exact .inr ⟨q,rfl⟩
   | none=>exact absurd h2 (findQ_none h q h1)
theorem has_zero {s:Zb} (h:Good s) {id:Int} (hid:id≤0):hasB s id=false:=by
 cases hb:hasB s id with
 | false=>rfl
 | true=>
  rcases (has_iff s id).1 hb with ⟨q,h1,h2⟩|⟨q,h1,h2⟩
  ·have:=h.eqs.ids q h1; omega
  ·have:=h.neqs.ids q h1; omega
theorem has_next {s:Zb} (h:Good s) {id:Int} (hid:s.next≤id):hasB s id=false:=by
 cases hb:hasB s id with
 | false=>rfl
 | true=>
  rcases (has_iff s id).1 hb with ⟨q,h1,h2⟩|⟨q,h1,h2⟩
  ·have:=h.eqs.ids q h1; omega
  ·have:=h.neqs.ids q h1; omega
def numE (s:Zb) (e:Zc):Int:=if e.id=0 then s.next else e.id
def addE (s:Zb) (e:Zc):Zb:=
 ⟨s.vars,if e.neq=true then s.eqs else putL s.eqs ⟨numE s e,e.p⟩,if e.neq=true then putL s.neqs ⟨numE s e,e.p⟩ else s.neqs,if s.next < numE s e + 1 then numE s e + 1 else s.next⟩
theorem check5 {s:Zb} {e:Zc} (hk:e.kind=5) (hc:checkF s e=0):0≤e.id∧e.id≤999999∧(0 < e.id→hasB s e.id=false)∧(e.neq=false→s.eqs.length < 12)∧(e.neq=true→s.neqs.length < 12)∧(e.id=0→s.next < 1000000)∧fitB e.p (s.vars.length:Int) = true:=by
 unfold checkF at hc
 rw [if_neg (by omega),if_neg (by omega),if_neg (by omega),if_neg (by omega),if_pos hk] at hc
 unfold addC at hc
 by_cases c1:e.id < 0∨999999 < e.id∨(0 < e.id∧hasB s e.id=true)
 ·rw [if_pos c1] at hc; exact absurd hc (by decide)
 ·rw [if_neg c1] at hc
  by_cases c2:(e.neq=false∧12≤s.eqs.length)∨(e.neq=true∧12≤s.neqs.length)∨(e.id=0∧1000000≤s.next)
  ·rw [if_pos c2] at hc; exact absurd hc (by decide)
  ·rw [if_neg c2] at hc
   by_cases c3:fitB e.p (s.vars.length:Int) = true
   ·refine ⟨Int.not_lt.1 fun h=>c1 (.inl h),Int.not_lt.1 fun h=>c1 (.inr (.inl h)),fun h=>?_,fun h=>Nat.not_le.1 fun h2=>c2 (.inl ⟨h,h2⟩),fun h=>Nat.not_le.1 fun h2=>c2 (.inr (.inl ⟨h,h2⟩)),fun h=>Int.not_le.1 fun h2=>c2 (.inr (.inr ⟨h,h2⟩)),c3⟩
    cases hb:hasB s e.id with
    | false=>rfl
    | true=>exact absurd (.inr (.inr ⟨h,hb⟩)) c1
   ·rw [if_neg c3] at hc; exact absurd hc (by decide)
theorem num_new {s:Zb} (h:Good s) {e:Zc} (h0:0≤e.id) (h1:0 < e.id→hasB s e.id=false):hasB s (numE s e) = false:=by
 unfold numE
 by_cases hz:e.id=0
 ·rw [if_pos hz]; exact has_next h (Int.le_refl _)
 ·rw [if_neg hz]; exact h1 (by omega)
theorem add_ret {s:Zb} (h:Good s) {e:Zc} (hp:PolOk e.p) (hk:e.kind=5):(ZeX s e).Ret (if checkF s e=0 then (addE s e,0) else (zeroS,checkF s e)):=by
 have he:=h.eqs.len
 have hn:=h.neqs.len
 have h1:(Zad e s).Ret (decide (0≤e.id∧e.id < 1000000∧hasB s e.id=false)):=by
  unfold Zad
  by_cases c1:0≤e.id
  ·rw [if_pos c1]
   by_cases c2:e.id < 1000000
   ·rw [if_pos c2]
    refine ⟨_,rfl,_,isEntry_ret h e.id,?_⟩
    show (!hasB s e.id) = _
    cases hb:hasB s e.id with
    | false=>rw [decide_eq_true ⟨c1,c2,rfl⟩]; rfl
    | true=>rw [decide_eq_false (fun k=>absurd k.2.2 (by decide))]; rfl
   ·rw [if_neg c2]
    exact (decide_eq_false fun k=>c2 k.2.1).symm
  ·rw [if_neg c1]
   exact (decide_eq_false fun k=>c1 k.1).symm
 have h2:(Zas s e).Ret (decide ((if e.neq=true then s.neqs else s.eqs).length < 12∧(e.id=0→s.next < 1000000))):=by
  refine ⟨if e.neq=true then s.neqs else s.eqs,?_,?_⟩
  ·unfold ZbB
   cases e.neq <;> rfl
  ·rw [Comp.wp_ite]
   by_cases c1:(if e.neq=true then s.neqs else s.eqs).length < 12
   ·rw [if_pos (by omega),Comp.wp_ite]
    by_cases c2:e.id=0
    ·rw [if_pos c2]
     exact decide_eq_decide.2 ⟨fun k=>⟨c1,fun _=>by omega⟩,fun k=>by have:=k.2 c2; omega⟩
    ·rw [if_neg c2]
     exact (decide_eq_true ⟨c1,fun k=>absurd k c2⟩).symm
   ·rw [if_neg (by omega)]
    exact (decide_eq_false fun k=>c1 k.1).symm
 have hfirst:(Zt [fun _=>Zh (fun _=>Zad e s) 332,fun _=>Zh (fun _=>Zas s e) 2,fun _=>Zh (fun _=>Z5 e.p s) 320]).Ret (checkF s e):=by
  have hh:=first3 (a:=fun _=>Zh (fun _=>Zad e s) 332) (b:=fun _=>Zh (fun _=>Zas s e) 2) (c:=fun _=>Zh (fun _=>Z5 e.p s) 320) (unless_ret h1 332) (fun _=>unless_ret h2 2) (fun _ _=>unless_ret (fits_ret (s:=s) hp) 320)
  have e1:checkF s e=addC s e:=by
   unfold checkF
   rw [if_neg (by omega),if_neg (by omega),if_neg (by omega),if_neg (by omega),if_pos hk]
  rw [e1]
  refine Eq.mp (congrArg _ ?_) hh
  unfold addC
  by_cases c1:0≤e.id∧e.id < 1000000∧hasB s e.id=false
  ·rw [decide_eq_true c1,if_neg (show ¬ (e.id < 0∨999999 < e.id∨(0 < e.id∧hasB s e.id=true)) from fun k=>by
    rcases k with k|k|k
    ·omega
    ·omega
    ·rw [c1.2.2] at k; exact absurd k.2 (by decide))]
   by_cases c2:(if e.neq=true then s.neqs else s.eqs).length < 12∧(e.id=0→s.next < 1000000)
   ·rw [decide_eq_true c2,if_neg (show ¬ ((e.neq=false∧12≤s.eqs.length)∨(e.neq=true∧12≤s.neqs.length)∨(e.id=0∧1000000≤s.next)) from fun k=>by
     rcases k with k|k|k
     ·have:=c2.1; rw [k.1,if_neg (by decide)] at this; omega
     ·have:=c2.1; rw [if_pos k.1] at this; omega
     ·have:=c2.2 k.1; omega)]
    rfl
   ·rw [decide_eq_false c2,if_pos (show (e.neq=false∧12≤s.eqs.length)∨(e.neq=true∧12≤s.neqs.length)∨(e.id=0∧1000000≤s.next) from by
     by_cases k:(if e.neq=true then s.neqs else s.eqs).length < 12
     ·refine .inr (.inr ?_)
      by_cases kz:e.id=0
      ·exact ⟨kz,Int.not_lt.1 fun kk=>c2 ⟨k,fun _=>kk⟩⟩
      ·exact absurd ⟨k,fun z=>absurd z kz⟩ c2
     ·cases hb:e.neq with
      | false=>rw [hb,if_neg (by decide)] at k; exact .inl ⟨rfl,by omega⟩
      | true=>rw [hb,if_pos rfl] at k; exact .inr (.inl ⟨rfl,by omega⟩))]
    rfl
  ·rw [decide_eq_false c1,if_pos (show e.id < 0∨999999 < e.id∨(0 < e.id∧hasB s e.id=true) from by
    by_cases k1:e.id < 0
    ·exact .inl k1
    ·by_cases k2:999999 < e.id
     ·exact .inr (.inl k2)
     ·refine .inr (.inr ?_)
      cases hb:hasB s e.id with
      | false=>exact absurd ⟨by omega,by omega,hb⟩ c1
      | true=>exact ⟨Int.not_le.1 fun k=>(by rw [has_zero h k] at hb; cases hb),rfl⟩)]
   rfl
 refine ⟨_,rfl,_,rfl,_,rfl,_,rfl,_,hfirst,?_⟩
 by_cases hc:checkF s e=0
 ·obtain ⟨k1,k2,k3,k4,k5,k6,k7⟩:=check5 hk hc
  have hnew:=num_new h k1 k3
  rw [if_pos hc,Comp.wp_ite,if_neg (fun hh=>hh hc)]
  refine ⟨numE s e,?_,?_⟩
  ·unfold Zbp numE
   by_cases hz:e.id=0
   ·rw [if_pos hz,if_pos hz]; rfl
   ·rw [if_neg hz,if_neg hz]; rfl
  ·have hno:∀ q ∈ (if e.neq=true then s.neqs else s.eqs),q.id≠numE s e:=fun q hq e'=>by
    have:hasB s (numE s e) = true:=(has_iff s _).2 (by
     cases hb:e.neq with
     | false=>rw [hb,if_neg (by decide)] at hq; exact .inl ⟨q,hq,e'⟩
     | true=>rw [hb,if_pos rfl] at hq; exact .inr ⟨q,hq,e'⟩)
    rw [hnew] at this; cases this
   have hb:numE s e < 1000000∧0≤numE s e:=by
    have:=h.next
    unfold numE
    split
    ·rename_i hz; have:=k6 hz; omega
    ·omega
   have hlen:(if e.neq=true then s.neqs else s.eqs).length≤100:=by split <;> omega
   have hinc:(if e.neq=true then s.neqs else s.eqs).Pairwise fun a b=>a.id < b.id:=by
    split
    ·exact h.neqs.inc
    ·exact h.eqs.inc
   refine ⟨insS s ⟨numE s e,e.p⟩ e.neq,insert_ret hlen hinc hno,?_⟩
   show _=_
   rw [wrap64 (by omega)]
   unfold addE insS
   cases e.neq <;> rfl
 ·rw [if_neg hc,Comp.wp_ite,if_pos hc]
  rfl
end Go.EL

namespace Go.EL
open Go Go.RowKit
theorem first1 {a:Unit→Comp Int} {x:Int} (ha:(a ()).Ret x):(Zt [a]).Ret x:=by
 by_cases hx:x=0
 ·subst hx
  refine first_ok (by simp) fun j hj=>?_
  match j,hj with
  | 0,_=>exact ha
 ·exact first_hit (k:=0) (by simp) (by simp) (fun j hj hj2=>by omega) ha hx
def dropE (s:Zb) (id:Int):Zb:=⟨s.vars,dropL s.eqs id,dropL s.neqs id,s.next⟩
def setL (id:Int) (p:List Zd) (l:List Za):List Za:=l.map fun q=>if q.id=id then ⟨q.id,p⟩ else q
def setE (s:Zb) (e:Zc):Zb:=⟨s.vars,setL e.id e.p s.eqs,setL e.id e.p s.neqs,s.next⟩
def flipE (s:Zb) (id:Int):Zb:=insS (dropE s id) (findE s id).1 (!(findE s id).2.1)
theorem without_ret {s:Zb} (h:Good s) (id:Int):(ZbP s id).Ret (dropE s id):=by
 have he:=h.eqs.len
 have hn:=h.neqs.len
 exact ⟨_,CloneE_ret (by omega),_,DeleteFunc_ret (by omega) id,_,CloneE_ret (by omega),_,DeleteFunc_ret (by omega) id,rfl⟩
theorem check678 {s:Zb} {e:Zc} (hk:e.kind=6∨e.kind=7∨e.kind=8):checkF s e=idC s e:=by
 unfold checkF
 rw [if_neg (by omega),if_neg (by omega),if_neg (by omega),if_neg (by omega),if_neg (by omega),if_pos hk]
theorem drop_edit_ret {s:Zb} (h:Good s) {e:Zc} (hk:e.kind=6):(Zew s e).Ret (if checkF s e=0 then (dropE s e.id,0) else (zeroS,checkF s e)):=by
 have hfirst:(Zt [fun _=>Zh (fun _=>ZM s e.id) 332]).Ret (checkF s e):=by
  have e1:checkF s e=(if hasB s e.id=true then (0:Int) else 332):=by
   rw [check678 (.inl hk)]
   unfold idC
   cases hb:hasB s e.id with
   | false=>rfl
   | true=>rw [if_neg (show ¬ (true=false) by decide),if_neg (show ¬ (e.kind=7∧_) from fun k=>by omega),if_neg (show ¬ (e.kind=8∧_) from fun k=>by omega)]; rfl
  rw [e1]
  exact first1 (unless_ret (isEntry_ret h e.id) 332)
 refine ⟨_,rfl,_,rfl,_,hfirst,?_⟩
 by_cases hc:checkF s e=0
 ·rw [if_pos hc,Comp.wp_ite,if_neg (fun hh=>hh hc)]
  exact ⟨_,without_ret h e.id,rfl⟩
 ·rw [if_neg hc,Comp.wp_ite,if_pos hc]
  rfl
theorem setL_ret {l:List Za} (hl:l.length≤100) (e:Zc):(ZF l e).Ret (setL e.id e.p l):=by
 refine ⟨⟨by omega,by omega⟩,?_⟩
 show (Comp.next _ _).wp _
 refine Comp.loop_idx l.length (fun k s=>s=(setL e.id e.p (l.take k)++List.replicate (l.length - k) (Za.mk 0 []),(k:Int))) (fun k s hk hs=>?_) (fun s hs=>?_) (by simp [setL])
 ·subst hs
  have hlen:(setL e.id e.p (l.take k)).length=k:=by simp [setL]; omega
  have hrep:List.replicate (l.length - k) (Za.mk 0 []) = Za.mk 0 []::List.replicate (l.length - (k + 1)) (Za.mk 0 []):=by
   rw [show l.length - k=(l.length - (k + 1)) + 1 by omega,List.replicate_succ]
  show (if (k:Int) < (l.length:Int) then _ else _:Comp _).wp _
  rw [Comp.wp_ite,if_pos (by omega)]
  refine ⟨l[k],idxN hk,if l[k].id=e.id then ⟨l[k].id,e.p⟩ else l[k],?_,Za.mk 0 [],⟨by omega,?_⟩,?_⟩
  ·unfold ZdD
   split <;> rfl
  ·rw [Int.toNat_natCast,List.getElem?_append_right (by omega),hlen,Nat.sub_self,hrep]; rfl
  ·show _=_
   rw [wrapN (by omega),Int.toNat_natCast,List.set_append_right _ _ (by omega),hlen,Nat.sub_self,hrep,List.set_cons_zero]
   have e':setL e.id e.p (l.take (k + 1)) = setL e.id e.p (l.take k)++[if l[k].id=e.id then ⟨l[k].id,e.p⟩ else l[k]]:=by
    unfold setL
    rw [← List.take_append_getElem hk,List.map_append]; rfl
   rw [e',List.append_assoc]; rfl
 ·subst hs
  show (if ((l.length:Nat):Int) < (l.length:Int) then _ else _:Comp _).wp _
  rw [Comp.wp_ite,if_neg (by omega),List.take_length,Nat.sub_self]
  show _=_
  simp
theorem set_edit_ret {s:Zb} (h:Good s) {e:Zc} (hp:PolOk e.p) (hk:e.kind=7):(ZeZ s e).Ret (if checkF s e=0 then (setE s e,0) else (zeroS,checkF s e)):=by
 have he:=h.eqs.len
 have hn:=h.neqs.len
 have hfirst:(Zt [fun _=>Zh (fun _=>ZM s e.id) 332,fun _=>Zh (fun _=>Z5 e.p s) 320]).Ret (checkF s e):=by
  have e1:checkF s e=(if (if hasB s e.id=true then (0:Int) else 332) = 0 then (if fitB e.p (s.vars.length:Int) = true then (0:Int) else 320) else (if hasB s e.id=true then (0:Int) else 332)):=by
   rw [check678 (.inr (.inl hk))]
   unfold idC
   cases hb:hasB s e.id with
   | false=>rfl
   | true=>
    rw [if_neg (show ¬ (true=false) by decide)]
    cases hf:fitB e.p (s.vars.length:Int) with
    | false=>rw [if_pos ⟨hk,rfl⟩]; rfl
    | true=>rw [if_neg (show ¬ (e.kind=7∧true=false) from fun k=>absurd k.2 (by decide)),if_neg (show ¬ (e.kind=8∧_) from fun k=>by omega)]; rfl
  rw [e1]
  exact first2 (unless_ret (isEntry_ret h e.id) 332) (fun _=>unless_ret (fits_ret hp) 320)
 refine ⟨_,rfl,_,rfl,_,rfl,_,rfl,_,hfirst,?_⟩
 by_cases hc:checkF s e=0
 ·rw [if_pos hc,Comp.wp_ite,if_neg (fun hh=>hh hc)]
  exact ⟨_,setL_ret (by omega) e,_,setL_ret (by omega) e,rfl⟩
 ·rw [if_neg hc,Comp.wp_ite,if_pos hc]
  rfl
end Go.EL

namespace Go.EL
open Go Go.RowKit
theorem dropL_new (l:List Za) (id:Int):∀ q ∈ dropL l id,q.id≠id:=fun q hq=>by
 unfold dropL at hq
 simpa using (List.mem_filter.1 hq).2
theorem dropL_inc {l:List Za} (h:l.Pairwise fun a b=>a.id < b.id) (id:Int):(dropL l id).Pairwise fun a b=>a.id < b.id:=h.filter _
theorem dropL_len (l:List Za) (id:Int):(dropL l id).length≤l.length:=List.length_filter_le _ _
theorem findE_id {s:Zb} {id:Int} (h:hasB s id=true):(findE s id).1.id=id:=by
 rw [← findE_has] at h
 unfold findE at h ⊢
 cases h1:findQ s.eqs id with
 | some q=>exact (findQ_mem h1).2
 | none=>
  rw [h1] at h
  cases h2:findQ s.neqs id with
  | some q=>exact (findQ_mem h2).2
  | none=>rw [h2] at h; cases h
theorem findE_neq (s:Zb) (id:Int) (h:hasB s id=true):(findE s id).2.1=decide (¬ 0≤findI s.eqs id):=by
 rw [← findE_has] at h
 have h0:decide (0≤findI s.eqs id) = (findQ s.eqs id).isSome:=findI_some
 rw [decide_not,h0]
 unfold findE at h ⊢
 cases h1:findQ s.eqs id with
 | some q=>rfl
 | none=>
  rw [h1] at h
  cases h2:findQ s.neqs id with
  | some q=>rfl
  | none=>rw [h2] at h; cases h
theorem flip_ret {s:Zb} (h:Good s) {e:Zc} (hk:e.kind=8):(Zey s e).Ret (if checkF s e=0 then (flipE s e.id,0) else (zeroS,checkF s e)):=by
 have he:=h.eqs.len
 have hn:=h.neqs.len
 have h2:(Zaj s (findE s e.id).2.1).Ret (decide ((if (!(findE s e.id).2.1) = true then s.neqs else s.eqs).length < 12)):=by
  refine ⟨if (!(findE s e.id).2.1) = true then s.neqs else s.eqs,?_,?_⟩
  ·unfold ZbB
   cases (findE s e.id).2.1 <;> rfl
  ·exact decide_eq_decide.2 ⟨fun k=>by omega,fun k=>by omega⟩
 have hfirst:(Zt [fun _=>Zh (fun _=>ZM s e.id) 332,fun _=>Zh (fun _=>Zaj s (findE s e.id).2.1) 2]).Ret (checkF s e):=by
  have hh:=first2 (a:=fun _=>Zh (fun _=>ZM s e.id) 332) (b:=fun _=>Zh (fun _=>Zaj s (findE s e.id).2.1) 2) (unless_ret (isEntry_ret h e.id) 332) (fun _=>unless_ret h2 2)
  rw [check678 (.inr (.inr hk))]
  refine Eq.mp (congrArg _ ?_) hh
  unfold idC
  cases hb:hasB s e.id with
  | false=>rfl
  | true=>
   have hq:=findE_neq s e.id hb
   rw [if_neg (show ¬ (true=false) by decide),if_neg (show ¬ (e.kind=7∧_) from fun k=>by omega),hq]
   by_cases hf:0≤findI s.eqs e.id
   ·rw [decide_eq_false (show ¬ ¬ _ from fun k=>k hf)]
    by_cases hl:s.neqs.length < 12
    ·rw [if_neg (show ¬ (e.kind=8∧((0≤findI s.eqs e.id∧12≤s.neqs.length)∨(¬ 0≤findI s.eqs e.id∧12≤s.eqs.length))) from fun k=>by rcases k.2 with k|k; omega; exact k.1 hf)]
     simp [hl]
    ·rw [if_pos (show e.kind=8∧((0≤findI s.eqs e.id∧12≤s.neqs.length)∨(¬ 0≤findI s.eqs e.id∧12≤s.eqs.length)) from ⟨hk,.inl ⟨hf,by omega⟩⟩)]
     simp [hl]
   ·rw [decide_eq_true hf]
    by_cases hl:s.eqs.length < 12
    ·rw [if_neg (show ¬ (e.kind=8∧((0≤findI s.eqs e.id∧12≤s.neqs.length)∨(¬ 0≤findI s.eqs e.id∧12≤s.eqs.length))) from fun k=>by rcases k.2 with k|k; exact hf k.1; omega)]
     simp [hl]
    ·rw [if_pos (show e.kind=8∧((0≤findI s.eqs e.id∧12≤s.neqs.length)∨(¬ 0≤findI s.eqs e.id∧12≤s.eqs.length)) from ⟨hk,.inr ⟨hf,by omega⟩⟩)]
     simp [hl]
 refine ⟨_,Find_ret h e.id,_,rfl,_,rfl,_,rfl,_,hfirst,?_⟩
 by_cases hc:checkF s e=0
 ·have hb:hasB s e.id=true:=by
   rw [check678 (.inr (.inr hk))] at hc
   unfold idC at hc
   cases hb:hasB s e.id with
   | true=>rfl
   | false=>rw [hb,if_pos rfl] at hc; exact absurd hc (by decide)
  rw [if_pos hc,Comp.wp_ite,if_neg (fun hh=>hh hc)]
  refine ⟨_,without_ret h e.id,flipE s e.id,insert_ret ?_ ?_ ?_,rfl⟩
  ·have h1:=dropL_len s.eqs e.id
   have h2:=dropL_len s.neqs e.id
   unfold dropE
   split <;> (simp only; omega)
  ·unfold dropE
   split
   ·exact dropL_inc h.neqs.inc _
   ·exact dropL_inc h.eqs.inc _
  ·rw [findE_id hb]
   unfold dropE
   split
   ·exact dropL_new _ _
   ·exact dropL_new _ _
 ·rw [if_neg hc,Comp.wp_ite,if_pos hc]
  rfl
end Go.EL

namespace Go.EL
open Go Go.RowKit
theorem Apply5_ret {s:Zb} (h:Good s) {e:Zc} (hp:PolOk e.p) (hk:e.kind=5):(ZW s e).Ret (if checkF s e=0 then (addE s e,0) else (zeroS,checkF s e)):=by
 have hv:=h.vars
 have he:=h.eqs.len
 have hn:=h.neqs.len
 refine ⟨_,Check_ret h hp,?_⟩
 by_cases hc:checkF s e=0
 ·obtain ⟨k1,k2,k3,k4,k5,k6,k7⟩:=check5 hk hc
  have hb:numE s e < 1000000∧0≤numE s e:=by
   have:=h.next
   unfold numE
   split
   ·rename_i hz; have:=k6 hz; omega
   ·omega
  rw [if_pos hc,Comp.wp_ite,if_neg (fun hh=>hh hc)]
  refine ⟨by simp [small]; omega,?_⟩
  rw [Comp.wp_ite,if_neg (by omega),Comp.wp_ite,if_neg (by omega),Comp.wp_ite,if_neg (by omega),Comp.wp_ite,if_neg (by omega)]
  refine ⟨addE s e,?_,rfl⟩
  refine ⟨_,find_ret (by omega) _,_,find_ret (by omega) _,?_⟩
  rw [Comp.wp_ite,if_pos hk]
  have hk1:(Zal s e (Za.mk (numE s e) e.p)).wp fun a=>a=addE s e:=by
   unfold Zal
   rw [Comp.wp_ite]
   cases hq:e.neq with
   | true=>
    rw [if_pos rfl]
    refine ⟨_,put_ret (by omega) h.neqs.inc _,?_⟩
    show _=_
    unfold addE
    rw [hq,wrap64 (x:=numE s e + 1) (by omega)]
    rfl
   | false=>
    rw [if_neg (by decide)]
    refine ⟨_,put_ret (by omega) h.eqs.inc _,?_⟩
    show _=_
    unfold addE
    rw [hq,wrap64 (x:=numE s e + 1) (by omega)]
    rfl
  rw [Comp.wp_ite]
  unfold numE at hk1
  by_cases hz:e.id=0
  ·rw [if_pos hz]; rw [if_pos hz] at hk1; exact hk1
  ·rw [if_neg hz]; rw [if_neg hz] at hk1; exact hk1
 ·rw [if_neg hc,Comp.wp_ite,if_pos hc]
  rfl
theorem Apply6_ret {s:Zb} (h:Good s) {e:Zc} (hp:PolOk e.p) (hk:e.kind=6):(ZW s e).Ret (if checkF s e=0 then (dropE s e.id,0) else (zeroS,checkF s e)):=by
 have hv:=h.vars
 have he:=h.eqs.len
 have hn:=h.neqs.len
 refine ⟨_,Check_ret h hp,?_⟩
 by_cases hc:checkF s e=0
 ·rw [if_pos hc,Comp.wp_ite,if_neg (fun hh=>hh hc)]
  refine ⟨by simp [small]; omega,?_⟩
  rw [Comp.wp_ite,if_neg (by omega),Comp.wp_ite,if_neg (by omega),Comp.wp_ite,if_neg (by omega),Comp.wp_ite,if_neg (by omega)]
  refine ⟨dropE s e.id,?_,rfl⟩
  refine ⟨_,find_ret (by omega) _,_,find_ret (by omega) _,?_⟩
  rw [Comp.wp_ite,if_neg (by omega),Comp.wp_ite,if_pos hk]
  exact ⟨_,drop_ret (by omega) _,_,drop_ret (by omega) _,rfl⟩
 ·rw [if_neg hc,Comp.wp_ite,if_pos hc]
  rfl
theorem setL_none {id:Int} {p:List Zd} {l:List Za} (h:∀ q ∈ l,q.id≠id):setL id p l=l:=by
 unfold setL
 refine (List.map_congr_left (g:=fun q=>q) fun q hq=>?_).trans (List.map_id' l)
 rw [if_neg (h q hq)]
theorem putL_set {x:Za}:∀ {l:List Za},(l.Pairwise fun a b=>a.id < b.id)→(∃ q ∈ l,q.id=x.id)→putL l x=setL x.id x.p l
 | [],_,⟨q,hq,_⟩=>by cases hq
 | y::l,hi,⟨q,hq,e⟩=>by
  obtain ⟨h1,h2⟩:=List.pairwise_cons.1 hi
  by_cases hy:y.id=x.id
  ·have hn:∀ z ∈ l,z.id≠x.id:=fun z hz=>by have:=h1 z hz; omega
   have hs:setL x.id x.p (y::l) = x::setL x.id x.p l:=by
    show (if y.id=x.id then (⟨y.id,x.p⟩:Za) else y)::_=_
    rw [if_pos hy,hy]; rfl
   rw [hs,setL_none hn]
   unfold putL
   rw [filter_none (l:=y::l) (p:=fun q=>decide (q.id < x.id)) (fun z hz=>decide_eq_false (by
    rcases List.mem_cons.1 hz with rfl|hz
    ·omega
    ·have:=h1 z hz; omega)),List.nil_append,List.filter_cons_of_neg (by simp; omega),filter_all (l:=l) (fun z hz=>decide_eq_true (by have:=h1 z hz; omega))]
  ·have hq2:q ∈ l:=by
    rcases List.mem_cons.1 hq with rfl|hq
    ·exact absurd e hy
    ·exact hq
   have hlt:y.id < x.id:=by have:=h1 q hq2; omega
   have ih:=putL_set h2 ⟨q,hq2,e⟩
   have hs:setL x.id x.p (y::l) = y::setL x.id x.p l:=by
    show (if y.id=x.id then (⟨y.id,x.p⟩:Za) else y)::_=_
    rw [if_neg hy]; rfl
   rw [hs,← ih]
   unfold putL
   rw [List.filter_cons_of_pos (by simpa using hlt),List.filter_cons_of_neg (by simp; omega)]
   rfl
theorem dropL_free {l:List Za} {id:Int} (h:∀ q ∈ l,q.id≠id):dropL l id=l:=filter_all fun q hq=>decide_eq_true (h q hq)
theorem has_eqs {s:Zb} (h:Good s) {id:Int} (h1:0≤findI s.eqs id):∃ j q,findQ s.eqs id=some q∧findI s.eqs id=((j:Nat):Int)∧s.eqs[j]? = some q∧q ∈ s.eqs∧q.id=id∧findQ s.neqs id=none∧∀ z ∈ s.neqs,z.id≠id:=by
 rcases findI_spec s.eqs id with ⟨_,h2⟩|⟨j,q,h2,h3,h4⟩
 ·omega
 ·obtain ⟨h5,h6⟩:=findQ_mem h2
  have hno:∀ z ∈ s.neqs,z.id≠id:=fun z hz e=>h.apart q h5 z hz (by omega)
  refine ⟨j,q,h2,h3,h4,h5,h6,?_,hno⟩
  cases hb:findQ s.neqs id with
  | none=>rfl
  | some z=>exact absurd (findQ_mem hb).2 (hno z (findQ_mem hb).1)
theorem has_neqs {s:Zb} {id:Int} (h0:hasB s id=true) (h1:¬ 0≤findI s.eqs id):findQ s.eqs id=none∧findI s.eqs id = -1∧(∀ z ∈ s.eqs,z.id≠id)∧∃ j q,findQ s.neqs id=some q∧findI s.neqs id=((j:Nat):Int)∧s.neqs[j]? = some q∧q ∈ s.neqs∧q.id=id:=by
 rcases findI_spec s.eqs id with ⟨h2,h3⟩|⟨j,q,h2,h3,h4⟩
 ·refine ⟨h2,h3,findQ_none h2,?_⟩
  rcases findI_spec s.neqs id with ⟨h4,h5⟩|⟨j,q,h4,h5,h6⟩
  ·unfold hasB at h0
   rw [h3,h5] at h0
   exact absurd h0 (by decide)
  ·exact ⟨j,q,h4,h5,h6,(findQ_mem h4).1,(findQ_mem h4).2⟩
 ·omega
theorem check78 {s:Zb} {e:Zc} (hk:e.kind=6∨e.kind=7∨e.kind=8) (hc:checkF s e=0):hasB s e.id=true:=by
 rw [check678 hk] at hc
 unfold idC at hc
 cases hb:hasB s e.id with
 | true=>rfl
 | false=>rw [hb,if_pos rfl] at hc; exact absurd hc (by decide)
theorem Apply7_ret {s:Zb} (h:Good s) {e:Zc} (hp:PolOk e.p) (hk:e.kind=7):(ZW s e).Ret (if checkF s e=0 then (setE s e,0) else (zeroS,checkF s e)):=by
 have hv:=h.vars
 have he:=h.eqs.len
 have hn:=h.neqs.len
 refine ⟨_,Check_ret h hp,?_⟩
 by_cases hc:checkF s e=0
 ·rw [if_pos hc,Comp.wp_ite,if_neg (fun hh=>hh hc)]
  refine ⟨by simp [small]; omega,?_⟩
  rw [Comp.wp_ite,if_neg (by omega),Comp.wp_ite,if_neg (by omega),Comp.wp_ite,if_neg (by omega),Comp.wp_ite,if_neg (by omega)]
  refine ⟨setE s e,?_,rfl⟩
  refine ⟨_,find_ret (by omega) _,_,find_ret (by omega) _,?_⟩
  rw [Comp.wp_ite,if_neg (by omega),Comp.wp_ite,if_neg (by omega),Comp.wp_ite,if_pos hk,Comp.wp_ite]
  have hb:=check78 (.inr (.inl hk)) hc
  by_cases hf:0≤findI s.eqs e.id
  ·obtain ⟨j,q,_,_,_,h5,h6,_,h8⟩:=has_eqs h hf
   rw [if_pos hf]
   refine ⟨_,put_ret (by omega) h.eqs.inc _,?_⟩
   show _=_
   unfold setE
   rw [putL_set h.eqs.inc ⟨q,h5,h6⟩,setL_none h8]
  ·obtain ⟨_,_,h3,j,q,_,_,_,h5,h6⟩:=has_neqs hb hf
   rw [if_neg hf]
   refine ⟨_,put_ret (by omega) h.neqs.inc _,?_⟩
   show _=_
   unfold setE
   rw [putL_set h.neqs.inc ⟨q,h5,h6⟩,setL_none h3]
 ·rw [if_neg hc,Comp.wp_ite,if_pos hc]
  rfl
theorem Apply8_ret {s:Zb} (h:Good s) {e:Zc} (hp:PolOk e.p) (hk:e.kind=8):(ZW s e).Ret (if checkF s e=0 then (flipE s e.id,0) else (zeroS,checkF s e)):=by
 have hv:=h.vars
 have he:=h.eqs.len
 have hn:=h.neqs.len
 refine ⟨_,Check_ret h hp,?_⟩
 by_cases hc:checkF s e=0
 ·rw [if_pos hc,Comp.wp_ite,if_neg (fun hh=>hh hc)]
  refine ⟨by simp [small]; omega,?_⟩
  rw [Comp.wp_ite,if_neg (by omega),Comp.wp_ite,if_neg (by omega),Comp.wp_ite,if_neg (by omega),Comp.wp_ite,if_neg (by omega)]
  refine ⟨flipE s e.id,?_,rfl⟩
  refine ⟨_,find_ret (by omega) _,_,find_ret (by omega) _,?_⟩
  rw [Comp.wp_ite,if_neg (by omega),Comp.wp_ite,if_neg (by omega),Comp.wp_ite,if_neg (by omega),Comp.wp_ite,if_pos hk]
  refine ⟨_,drop_ret (by omega) _,_,drop_ret (by omega) _,?_⟩
  rw [Comp.wp_ite]
  have hb:=check78 (.inr (.inr hk)) hc
  by_cases hf:0≤findI s.eqs e.id
  ·obtain ⟨j,q,h1,h2,h3,h5,h6,h7,h8⟩:=has_eqs h hf
   rw [if_pos hf,h2]
   refine ⟨q,⟨by omega,h3⟩,_,put_ret (by omega) h.neqs.inc _,?_⟩
   show _=_
   unfold flipE findE
   rw [h1]
   unfold insS dropE
   rw [if_pos (by rfl)]
   simp only
   rw [dropL_free h8]
  ·obtain ⟨h1,h2,h3,j,q,h4,h7,h8,h5,h6⟩:=has_neqs hb hf
   rw [if_neg hf,h7]
   refine ⟨q,⟨by omega,h8⟩,_,put_ret (by omega) h.eqs.inc _,?_⟩
   show _=_
   unfold flipE findE
   rw [h1,h4]
   unfold insS dropE
   rw [if_neg (show ¬ (!true) = true by decide)]
   simp only
   rw [dropL_none h2]
 ·rw [if_neg hc,Comp.wp_ite,if_pos hc]
  rfl
end Go.EL

namespace Go.EL
open Go Go.RowKit
def doF (s:Zb) (e:Zc):Zb:=
 if e.kind=1 then addV s e else if e.kind=2 then dropV s e else if e.kind=3 then renV s e else if e.kind=4 then swpV s e
 else if e.kind=5 then addE s e else if e.kind=6 then dropE s e.id else if e.kind=7 then setE s e else flipE s e.id
def applyF (s:Zb) (e:Zc):Zb×Int:=if checkF s e=0 then (doF s e,0) else (zeroS,checkF s e)
theorem doF1 {s:Zb} {e:Zc} (h:e.kind=1):doF s e=addV s e:=if_pos h
theorem doF2 {s:Zb} {e:Zc} (h:e.kind=2):doF s e=dropV s e:=by unfold doF; rw [if_neg (by omega),if_pos h]
theorem doF3 {s:Zb} {e:Zc} (h:e.kind=3):doF s e=renV s e:=by unfold doF; rw [if_neg (by omega),if_neg (by omega),if_pos h]
theorem doF4 {s:Zb} {e:Zc} (h:e.kind=4):doF s e=swpV s e:=by unfold doF; rw [if_neg (by omega),if_neg (by omega),if_neg (by omega),if_pos h]
theorem doF5 {s:Zb} {e:Zc} (h:e.kind=5):doF s e=addE s e:=by unfold doF; rw [if_neg (by omega),if_neg (by omega),if_neg (by omega),if_neg (by omega),if_pos h]
theorem doF6 {s:Zb} {e:Zc} (h:e.kind=6):doF s e=dropE s e.id:=by unfold doF; rw [if_neg (by omega),if_neg (by omega),if_neg (by omega),if_neg (by omega),if_neg (by omega),if_pos h]
theorem doF7 {s:Zb} {e:Zc} (h:e.kind=7):doF s e=setE s e:=by unfold doF; rw [if_neg (by omega),if_neg (by omega),if_neg (by omega),if_neg (by omega),if_neg (by omega),if_neg (by omega),if_pos h]
theorem doF8 {s:Zb} {e:Zc} (h:e.kind=8):doF s e=flipE s e.id:=by unfold doF; rw [if_neg (by omega),if_neg (by omega),if_neg (by omega),if_neg (by omega),if_neg (by omega),if_neg (by omega),if_neg (by omega)]
theorem kind_cases {s:Zb} {e:Zc}:(e.kind=1∨e.kind=2∨e.kind=3∨e.kind=4∨e.kind=5∨e.kind=6∨e.kind=7∨e.kind=8)∨(¬ (1≤e.kind∧e.kind≤8)∧checkF s e=1):=by
 by_cases h:1≤e.kind∧e.kind≤8
 ·exact .inl (by omega)
 ·refine .inr ⟨h,?_⟩
  unfold checkF
  rw [if_neg (by omega),if_neg (by omega),if_neg (by omega),if_neg (by omega),if_neg (by omega),if_neg (by omega)]
theorem Zbq {s:Zb} (h:Good s) {e:Zc} (hp:PolOk e.p):(ZW s e).Ret (applyF s e):=by
 unfold applyF
 rcases kind_cases (s:=s) (e:=e) with (k|k|k|k|k|k|k|k)|⟨k,hc⟩
 ·rw [doF1 k]; exact Apply1_ret h hp k
 ·rw [doF2 k]; exact Apply2_ret h hp k
 ·rw [doF3 k]; exact Apply3_ret h hp k
 ·rw [doF4 k]; exact Apply4_ret h hp k
 ·rw [doF5 k]; exact Apply5_ret h hp k
 ·rw [doF6 k]; exact Apply6_ret h hp k
 ·rw [doF7 k]; exact Apply7_ret h hp k
 ·rw [doF8 k]; exact Apply8_ret h hp k
 ·rw [if_neg (show ¬ checkF s e=0 by omega)]
  refine ⟨_,Check_ret h hp,?_⟩
  rw [Comp.wp_ite,if_pos (by omega)]
  rfl
theorem apply_pair {α β:Type} {c:Comp (α×β)} {r:α×β} (h:c.Ret r):(Comp.bind c fun y=>Comp.ret (y.1,y.2)).Ret r:=⟨r,h,rfl⟩
def KindOk (e:Zc):Prop:=-1000≤e.kind∧e.kind≤1000
theorem kinds_none {k:Int} (h:¬ (1≤k∧k≤8)):mget Zm k=none:=by
 unfold Zm
 simp only [mget]
 rw [if_neg (by omega),if_neg (by omega),if_neg (by omega),if_neg (by omega),if_neg (by omega),if_neg (by omega),if_neg (by omega),if_neg (by omega)]
theorem kinds_some {k:Int} (h:1≤k∧k≤8):(mget Zm k).isSome=true:=by
 have:k=1∨k=2∨k=3∨k=4∨k=5∨k=6∨k=7∨k=8:=by omega
 rcases this with rfl|rfl|rfl|rfl|rfl|rfl|rfl|rfl <;> rfl
theorem Apply_ret {s:Zb} (h:Good s) {e:Zc} (hp:PolOk e.p) (hk:KindOk e):(ZaR s e).Ret (applyF s e):=by
 refine ⟨by
  simp only [Lit.wf,Bool.and_eq_true,decide_eq_true_eq]
  exact ⟨Int.le_trans (by decide) hk.1,Int.le_trans hk.2 (by decide)⟩,?_⟩
 unfold applyF
 rcases kind_cases (s:=s) (e:=e) with (k|k|k|k|k|k|k|k)|⟨k,hc⟩
 ·rw [Comp.wp_ite,if_neg (by rw [kinds_some (by omega)]; decide),Comp.wp_ite,if_pos (by omega),doF1 k]
  exact apply_pair (addVar_ret h k)
 ·rw [Comp.wp_ite,if_neg (by rw [kinds_some (by omega)]; decide),Comp.wp_ite,if_neg (by omega),Comp.wp_ite,if_pos (by omega),doF2 k]
  exact apply_pair (dropVar_ret h k)
 ·rw [Comp.wp_ite,if_neg (by rw [kinds_some (by omega)]; decide),Comp.wp_ite,if_neg (by omega),Comp.wp_ite,if_neg (by omega),Comp.wp_ite,if_pos (by omega),doF3 k]
  exact apply_pair (rename_ret h k)
 ·rw [Comp.wp_ite,if_neg (by rw [kinds_some (by omega)]; decide),Comp.wp_ite,if_neg (by omega),Comp.wp_ite,if_neg (by omega),Comp.wp_ite,if_neg (by omega),Comp.wp_ite,if_pos (by omega),doF4 k]
  exact apply_pair (swap_ret h k)
 ·rw [Comp.wp_ite,if_neg (by rw [kinds_some (by omega)]; decide),Comp.wp_ite,if_neg (by omega),Comp.wp_ite,if_neg (by omega),Comp.wp_ite,if_neg (by omega),Comp.wp_ite,if_neg (by omega),Comp.wp_ite,if_pos (by omega),doF5 k]
  exact apply_pair (add_ret h hp k)
 ·rw [Comp.wp_ite,if_neg (by rw [kinds_some (by omega)]; decide),Comp.wp_ite,if_neg (by omega),Comp.wp_ite,if_neg (by omega),Comp.wp_ite,if_neg (by omega),Comp.wp_ite,if_neg (by omega),Comp.wp_ite,if_neg (by omega),Comp.wp_ite,if_pos (by omega),doF6 k]
  exact apply_pair (drop_edit_ret h k)
 ·rw [Comp.wp_ite,if_neg (by rw [kinds_some (by omega)]; decide),Comp.wp_ite,if_neg (by omega),Comp.wp_ite,if_neg (by omega),Comp.wp_ite,if_neg (by omega),Comp.wp_ite,if_neg (by omega),Comp.wp_ite,if_neg (by omega),Comp.wp_ite,if_neg (by omega),Comp.wp_ite,if_pos (by omega),doF7 k]
  exact apply_pair (set_edit_ret h hp k)
 ·rw [Comp.wp_ite,if_neg (by rw [kinds_some (by omega)]; decide),Comp.wp_ite,if_neg (by omega),Comp.wp_ite,if_neg (by omega),Comp.wp_ite,if_neg (by omega),Comp.wp_ite,if_neg (by omega),Comp.wp_ite,if_neg (by omega),Comp.wp_ite,if_neg (by omega),Comp.wp_ite,if_neg (by omega),Comp.wp_ite,if_pos (by omega),doF8 k]
  exact apply_pair (flip_ret h k)
 ·rw [Comp.wp_ite,if_pos (by rw [kinds_none k]; rfl),if_neg (show ¬ checkF s e=0 by omega),hc]
  rfl
end Go.EL

namespace Go.EL
open Go Go.RowKit
theorem idx_spec (v:ByteArray):∀ (l:List ByteArray) (k:Nat),(v ∉ l∧idxFrom v l k = -1)∨∃ j,idxFrom v l k=((k + j:Nat):Int)∧l[j]? = some v
 | [],_=>.inl ⟨by simp,rfl⟩
 | x::xs,k=>by
  unfold idxFrom
  by_cases h:x=v
  ·rw [if_pos h]
   exact .inr ⟨0,by simp,by simp [h]⟩
  ·rw [if_neg h]
   rcases idx_spec v xs (k + 1) with ⟨h1,h2⟩|⟨j,h1,h2⟩
   ·exact .inl ⟨fun hm=>by
     rcases List.mem_cons.1 hm with e|hm
     ·exact h e.symm
     ·exact h1 hm,h2⟩
   ·exact .inr ⟨j + 1,by rw [h1]; omega,by simpa using h2⟩
theorem idx_no {l:List ByteArray} {v:ByteArray} (h:idxI l v < 0):v ∉ l:=by
 rcases idx_spec v l 0 with ⟨h1,_⟩|⟨j,h1,_⟩
 ·exact h1
 ·unfold idxI at h; omega
theorem idx_at {l:List ByteArray} {v:ByteArray} {k:Nat} (h:idxI l v=(k:Int)):l[k]? = some v:=by
 rcases idx_spec v l 0 with ⟨_,h1⟩|⟨j,h1,h2⟩
 ·unfold idxI at h; omega
 ·unfold idxI at h
  rw [h] at h1
  rw [show k=j by omega]; exact h2
theorem fit_perm {π:M} (h:IsPerm π) {p:List Zd} (hp:PolOk p) {n n':Nat} (hn:n≤8) (hn':n'≤8) (hf:fitB p (n:Int) = true) (hv:∀ i:Fin 8,n'≤i.val→∃ j:Fin 8,(i.val:Int) = π j∧(n≤j.val∨Occurs j p=false)):fitB (permP π p) (n':Int) = true:=by
 obtain ⟨h1,h2⟩:=(fitB_iff hn).1 hf
 refine (fitB_iff hn').2 ⟨fun t ht i hi=>?_,fun t ht=>?_⟩
 ·obtain ⟨y,hy,rfl⟩:=List.mem_map.1 ((permP_perm h hp.ord).1.mem_iff.1 ht)
  obtain ⟨j,hj,hj2⟩:=hv i hi
  show ¬ 0 < permM π y.m i
  rw [permM_at h y.m j i hj]
  rcases hj2 with hj2|hj2
  ·exact h1 y hy j hj2
  ·intro hpos
   unfold Occurs at hj2
   have:=List.any_eq_false.1 hj2 y hy
   simp only [decide_eq_true_eq] at this
   exact this hpos
 ·obtain ⟨y,hy,rfl⟩:=List.mem_map.1 ((permP_perm h hp.ord).1.mem_iff.1 ht)
  show degM (permM π y.m)≤12
  rw [degM_perm h]
  exact h2 y hy
theorem moved_ids (π:M) (l:List Za) {q:Za} (h:q ∈ movedL π l):∃ y ∈ l,y.id=q.id:=by
 obtain ⟨y,hy,rfl⟩:=List.mem_map.1 h
 exact ⟨y,hy,rfl⟩
theorem moved_ok {π:M} (h:IsPerm π) {n n':Nat} {next:Int} {l:List Za} (hl:EqsOk n next l) (hf:∀ q ∈ l,fitB (permP π q.p) (n':Int) = true):EqsOk n' next (movedL π l) where
 len:=by unfold movedL; rw [List.length_map]; exact hl.len
 ids q hq:=by
  obtain ⟨y,hy,e⟩:=moved_ids π l hq
  have:=hl.ids y hy; omega
 inc:=by
  unfold movedL
  exact List.pairwise_map.2 hl.inc
 pol q hq:=by
  obtain ⟨y,hy,rfl⟩:=List.mem_map.1 hq
  exact ⟨permP_ok h (hl.pol y hy).1,hf y hy⟩
theorem moved_apart {π:M} {a b:List Za} (h:∀ x ∈ a,∀ y ∈ b,x.id≠y.id):∀ x ∈ movedL π a,∀ y ∈ movedL π b,x.id≠y.id:=fun x hx y hy=>by
 obtain ⟨x',hx',e1⟩:=moved_ids π a hx
 obtain ⟨y',hy',e2⟩:=moved_ids π b hy
 have:=h x' hx' y' hy'; omega
theorem Good.add1 {s:Zb} (h:Good s) {e:Zc} (hk:e.kind=1) (hc:checkF s e=0):Good (addV s e):=by
 obtain ⟨h1,h2,h3,h4,h5⟩:=check1 hk hc
 obtain ⟨a,ha⟩:=Int.eq_ofNat_of_zero_le h2
 have ha2:a≤s.vars.length:=by omega
 have hπ:=rot_perm (a:=s.vars.length) (b:=a) (by omega) (by omega)
 have hno:=idx_no h5
 have hlen:(s.vars.take a++[e.name]++s.vars.drop a).length=s.vars.length + 1:=by simp; omega
 have hperm:(s.vars.take a++[e.name]++s.vars.drop a).Perm (e.name::s.vars):=by
  have h0:(s.vars.take a++([e.name]++s.vars.drop a)).Perm ([e.name]++(s.vars.take a++s.vars.drop a)):=List.perm_append_comm_assoc _ _ _
  rw [List.take_append_drop] at h0
  rw [List.append_assoc]; exact h0
 have hfit:∀ l,EqsOk s.vars.length s.next l→∀ q ∈ l,fitB (permP (rotF s.vars.length a) q.p) ((s.vars.length + 1:Nat):Int) = true:=fun l hl q hq=>
  fit_perm hπ (hl.pol q hq).1 (n:=s.vars.length) (by omega) (by omega) (hl.pol q hq).2 fun i hi=>⟨i,by unfold rotF; rw [if_neg (by omega),if_neg (by omega),if_neg (by omega)],.inl (by omega)⟩
 unfold addV
 rw [ha,Int.toNat_natCast]
 constructor
 ·show (s.vars.take a++[e.name]++s.vars.drop a).length≤4
  omega
 ·intro v hv
  rcases List.mem_cons.1 (hperm.mem_iff.1 hv) with rfl|hv
  ·exact h4
  ·exact h.name v hv
 ·exact (hperm.pairwise_iff (fun hab e=>hab e.symm)).2 (List.pairwise_cons.2 ⟨fun b hb e=>hno (by rw [e]; exact hb),h.diff⟩)
 ·exact h.next
 ·show EqsOk (s.vars.take a++[e.name]++s.vars.drop a).length _ _
  rw [hlen]; exact moved_ok hπ h.eqs (hfit _ h.eqs)
 ·show EqsOk (s.vars.take a++[e.name]++s.vars.drop a).length _ _
  rw [hlen]; exact moved_ok hπ h.neqs (hfit _ h.neqs)
 ·exact moved_apart h.apart
theorem usedL_not {i:Fin 8} {l:List Za} (h:usedL i l=false):∀ q ∈ l,Occurs i q.p=false:=fun q hq=>by
 unfold usedL at h
 have:=List.any_eq_false.1 h q hq
 simpa using this
theorem Good.drop2 {s:Zb} (h:Good s) {e:Zc} (hk:e.kind=2) (hc:checkF s e=0):Good (dropV s e):=by
 obtain ⟨h1,h2⟩:=check2 hk hc
 have hv:=h.vars
 obtain ⟨j,hj,hu⟩:=usedAt_eq h.vars h1
 have h1':=of_decide_eq_true h1
 rw [hu] at h2
 have hj2:j.val < s.vars.length:=by omega
 have hπ:=rot_perm (a:=j.val) (b:=s.vars.length - 1) (by omega) (by omega)
 have hlen:(s.vars.take j.val++s.vars.drop (j.val + 1)).length=s.vars.length - 1:=by simp; omega
 have hsub:(s.vars.take j.val++s.vars.drop (j.val + 1)).Sublist s.vars:=by
  rw [← List.eraseIdx_eq_take_drop_succ]; exact List.eraseIdx_sublist ..
 have hno:usedL j s.eqs=false∧usedL j s.neqs=false:=by
  unfold usedS at h2
  exact Bool.or_eq_false_iff.1 h2
 have hfit:∀ l,EqsOk s.vars.length s.next l→usedL j l=false→∀ q ∈ l,fitB (permP (rotF j.val (s.vars.length - 1)) q.p) ((s.vars.length - 1:Nat):Int) = true:=fun l hl hul q hq=>
  fit_perm hπ (hl.pol q hq).1 (n:=s.vars.length) (by omega) (by omega) (hl.pol q hq).2 fun i hi=>by
   by_cases hi2:i.val=s.vars.length - 1
   ·refine ⟨j,?_,.inr (usedL_not hul q hq)⟩
    unfold rotF
    rw [if_pos rfl]; omega
   ·refine ⟨i,?_,.inl (by omega)⟩
    unfold rotF
    rw [if_neg (by omega),if_neg (by omega),if_neg (by omega)]
 unfold dropV
 rw [hj,Int.toNat_natCast]
 constructor
 ·show (s.vars.take j.val++s.vars.drop (j.val + 1)).length≤4
  omega
 ·exact fun v hv=>h.name v (hsub.subset hv)
 ·exact h.diff.sublist hsub
 ·exact h.next
 ·show EqsOk (s.vars.take j.val++s.vars.drop (j.val + 1)).length _ _
  rw [hlen]; exact moved_ok hπ h.eqs (hfit _ h.eqs hno.1)
 ·show EqsOk (s.vars.take j.val++s.vars.drop (j.val + 1)).length _ _
  rw [hlen]; exact moved_ok hπ h.neqs (hfit _ h.neqs hno.2)
 ·exact moved_apart h.apart
theorem Good.ren3 {s:Zb} (h:Good s) {e:Zc} (hk:e.kind=3) (hc:checkF s e=0):Good (renV s e):=by
 obtain ⟨h1,h2,h3⟩:=check3 hk hc
 have h1':=of_decide_eq_true h1
 obtain ⟨a,ha⟩:=Int.eq_ofNat_of_zero_le h1'.1
 have ha2:a < s.vars.length:=by omega
 unfold renV
 rw [ha,Int.toNat_natCast]
 have hlen:(s.vars.set a e.name).length=s.vars.length:=List.length_set
 constructor
 ·show (s.vars.set a e.name).length≤4
  rw [hlen]; exact h.vars
 ·intro v hv
  rcases List.mem_or_eq_of_mem_set hv with hv|rfl
  ·exact h.name v hv
  ·exact h2
 ·show (s.vars.set a e.name).Pairwise fun a b=>a≠b
  rcases h3 with h3|h3
  ·have hno:=idx_no h3
   refine List.pairwise_iff_getElem.2 fun i j hi hj hij=>?_
   rw [List.getElem_set,List.getElem_set]
   rw [hlen] at hi hj
   by_cases e1:a=i
   ·rw [if_pos e1,if_neg (by omega)]
    exact fun e=>hno (by rw [e]; exact List.getElem_mem hj)
   ·rw [if_neg e1]
    by_cases e2:a=j
    ·rw [if_pos e2]
     exact fun e=>hno (by rw [← e]; exact List.getElem_mem hi)
    ·rw [if_neg e2]
     exact List.pairwise_iff_getElem.1 h.diff i j hi hj hij
  ·have hx:=idx_at (k:=a) (by rw [h3,ha])
   rw [List.getElem?_eq_getElem ha2] at hx
   rw [← Option.some.inj hx,List.set_getElem_self]
   exact h.diff
 ·exact h.next
 ·show EqsOk (s.vars.set a e.name).length _ _
  rw [hlen]; exact h.eqs
 ·show EqsOk (s.vars.set a e.name).length _ _
  rw [hlen]; exact h.neqs
 ·exact h.apart
def swapL (l:List ByteArray) (a b:Nat):List ByteArray:=(l.set a (l.getD b ByteArray.empty)).set b (l.getD a ByteArray.empty)
theorem swapL_len (l:List ByteArray) (a b:Nat):(swapL l a b).length=l.length:=by unfold swapL; rw [List.length_set,List.length_set]
theorem swapL_get {l:List ByteArray} {a b:Nat} (ha:a < l.length) (hb:b < l.length) {i:Nat} (hi:i < (swapL l a b).length):(swapL l a b)[i] = if b=i then l[a] else if a=i then l[b] else l[i]'(by rw [swapL_len] at hi; exact hi):=by
 have hi':i < ((l.set a (l.getD b ByteArray.empty)).set b (l.getD a ByteArray.empty)).length:=hi
 show ((l.set a (l.getD b ByteArray.empty)).set b (l.getD a ByteArray.empty))[i]'hi' = _
 rw [List.getElem_set,List.getElem_set]
 simp [List.getD_eq_getElem?_getD,List.getElem?_eq_getElem ha,List.getElem?_eq_getElem hb]
theorem swapL_mem {l:List ByteArray} {a b:Nat} (ha:a < l.length) (hb:b < l.length) {v:ByteArray} (hv:v ∈ swapL l a b):v ∈ l:=by
 obtain ⟨i,hi,rfl⟩:=List.mem_iff_getElem.1 hv
 rw [swapL_get ha hb hi]
 split
 ·exact List.getElem_mem _
 ·split <;> exact List.getElem_mem _
theorem diff_ne {l:List ByteArray} (h:l.Pairwise fun a b=>a≠b) {i j:Nat} (hi:i < l.length) (hj:j < l.length) (hij:i≠j):l[i]≠l[j]:=by
 rcases Nat.lt_or_gt_of_ne hij with h1|h1
 ·exact List.pairwise_iff_getElem.1 h i j hi hj h1
 ·exact fun e=>List.pairwise_iff_getElem.1 h j i hj hi h1 e.symm
theorem swapL_diff {l:List ByteArray} {a b:Nat} (ha:a < l.length) (hb:b < l.length) (h:l.Pairwise fun a b=>a≠b):(swapL l a b).Pairwise fun a b=>a≠b:=by
 refine List.pairwise_iff_getElem.2 fun i j hi hj hij=>?_
 rw [swapL_get ha hb hi,swapL_get ha hb hj]
 rw [swapL_len] at hi hj
 by_cases e1:b=i
 ·rw [if_pos e1,if_neg (by omega)]
  by_cases e2:a=j
  ·rw [if_pos e2]; exact diff_ne h ha hb (by omega)
  ·rw [if_neg e2]; exact diff_ne h ha hj (by omega)
 ·rw [if_neg e1]
  by_cases e2:b=j
  ·rw [if_pos e2]
   by_cases e3:a=i
   ·rw [if_pos e3]; exact diff_ne h hb ha (by omega)
   ·rw [if_neg e3]; exact diff_ne h hi ha (by omega)
  ·rw [if_neg e2]
   by_cases e3:a=i
   ·rw [if_pos e3,if_neg (by omega)]; exact diff_ne h hb hj (by omega)
   ·rw [if_neg e3]
    by_cases e4:a=j
    ·rw [if_pos e4]; exact diff_ne h hi hb (by omega)
    ·rw [if_neg e4]; exact diff_ne h hi hj (by omega)
theorem swapF_out {a b:Nat} {i:Fin 8} (ha:a≠i.val) (hb:b≠i.val):swapF a b i=(i.val:Int):=by
 unfold swapF setF
 rw [if_neg (by omega),if_neg (by omega)]
 rfl
theorem Good.swap4 {s:Zb} (h:Good s) {e:Zc} (hk:e.kind=4) (hc:checkF s e=0):Good (swpV s e):=by
 obtain ⟨h1,h2⟩:=check4 hk hc
 have hv:=h.vars
 have h1':=of_decide_eq_true h1
 have h2':=of_decide_eq_true h2
 obtain ⟨a,ha⟩:=Int.eq_ofNat_of_zero_le h1'.1
 obtain ⟨b,hb⟩:=Int.eq_ofNat_of_zero_le h2'.1
 have ha2:a < s.vars.length:=by omega
 have hb2:b < s.vars.length:=by omega
 have hπ:=swap_perm (a:=a) (b:=b) (by omega) (by omega)
 have hfit:∀ l,EqsOk s.vars.length s.next l→∀ q ∈ l,fitB (permP (swapF a b) q.p) (s.vars.length:Int) = true:=fun l hl q hq=>
  fit_perm hπ (hl.pol q hq).1 (n:=s.vars.length) (by omega) (by omega) (hl.pol q hq).2 fun i hi=>⟨i,(swapF_out (by omega) (by omega)).symm,.inl hi⟩
 unfold swpV
 rw [ha,hb,Int.toNat_natCast,Int.toNat_natCast]
 show Good ⟨swapL s.vars a b,_,_,_⟩
 constructor
 ·show (swapL s.vars a b).length≤4
  rw [swapL_len]; exact h.vars
 ·exact fun v hv=>h.name v (swapL_mem ha2 hb2 hv)
 ·exact swapL_diff ha2 hb2 h.diff
 ·exact h.next
 ·show EqsOk (swapL s.vars a b).length _ _
  rw [swapL_len]; exact moved_ok hπ h.eqs (hfit _ h.eqs)
 ·show EqsOk (swapL s.vars a b).length _ _
  rw [swapL_len]; exact moved_ok hπ h.neqs (hfit _ h.neqs)
 ·exact moved_apart h.apart
theorem putL_len (l:List Za) (x:Za):(putL l x).length≤l.length + 1:=by
 have h:∀ l:List Za,(l.filter fun q=>decide (q.id < x.id)).length + (l.filter fun q=>decide (x.id < q.id)).length≤l.length:=fun l=>by
  induction l with
  | nil=>simp
  | cons y l ih=>
   by_cases h1:y.id < x.id
   ·rw [List.filter_cons_of_pos (by simpa using h1),List.filter_cons_of_neg (by simp; omega)]
    simp only [List.length_cons]; omega
   ·rw [List.filter_cons_of_neg (by simp; omega)]
    by_cases h2:x.id < y.id
    ·rw [List.filter_cons_of_pos (by simpa using h2)]; simp only [List.length_cons]; omega
    ·rw [List.filter_cons_of_neg (by simp; omega)]; simp only [List.length_cons]; omega
 have:=h l
 unfold putL
 rw [List.length_append,List.length_cons]
 omega
theorem putL_mem {l:List Za} {x q:Za} (h:q ∈ putL l x):q=x∨(q ∈ l∧q.id≠x.id):=by
 unfold putL at h
 rcases List.mem_append.1 h with h|h
 ·obtain ⟨h1,h2⟩:=List.mem_filter.1 h
  have:=of_decide_eq_true h2
  exact .inr ⟨h1,by omega⟩
 ·rcases List.mem_cons.1 h with h|h
  ·exact .inl h
  ·obtain ⟨h1,h2⟩:=List.mem_filter.1 h
   have:=of_decide_eq_true h2
   exact .inr ⟨h1,by omega⟩
theorem putL_inc {l:List Za} (h:l.Pairwise fun a b=>a.id < b.id) (x:Za):(putL l x).Pairwise fun a b=>a.id < b.id:=by
 unfold putL
 refine List.pairwise_append.2 ⟨h.filter _,List.pairwise_cons.2 ⟨fun b hb=>?_,h.filter _⟩,fun a ha b hb=>?_⟩
 ·exact of_decide_eq_true (List.mem_filter.1 hb).2
 ·have h1:a.id < x.id:=of_decide_eq_true (List.mem_filter.1 ha).2
  rcases List.mem_cons.1 hb with rfl|hb
  ·exact h1
  ·have h2:x.id < b.id:=of_decide_eq_true (List.mem_filter.1 hb).2
   omega
theorem put_ok {n:Nat} {next next':Int} {l:List Za} (h:EqsOk n next l) (hl:l.length < 12) {x:Za} (hx:PolOk x.p∧fitB x.p (n:Int) = true) (h1:1≤x.id∧x.id < next') (h2:next≤next'):EqsOk n next' (putL l x) where
 len:=by have:=putL_len l x; omega
 ids q hq:=by
  rcases putL_mem hq with rfl|⟨hq,_⟩
  ·exact h1
  ·have:=h.ids q hq; omega
 inc:=putL_inc h.inc x
 pol q hq:=by
  rcases putL_mem hq with rfl|⟨hq,_⟩
  ·exact hx
  ·exact h.pol q hq
theorem EqsOk.up {n:Nat} {next next':Int} {l:List Za} (h:EqsOk n next l) (h2:next≤next'):EqsOk n next' l where
 len:=h.len
 ids q hq:=by have:=h.ids q hq; omega
 inc:=h.inc
 pol:=h.pol
theorem drop_ok {n:Nat} {next:Int} {l:List Za} (h:EqsOk n next l) (id:Int):EqsOk n next (dropL l id) where
 len:=by have:=dropL_len l id; have:=h.len; omega
 ids q hq:=h.ids q (List.mem_filter.1 hq).1
 inc:=dropL_inc h.inc id
 pol q hq:=h.pol q (List.mem_filter.1 hq).1
theorem set_mem {id:Int} {p:List Zd} {l:List Za} {q:Za} (h:q ∈ setL id p l):∃ y ∈ l,y.id=q.id∧(q.p=y.p∨q.p=p):=by
 obtain ⟨y,hy,rfl⟩:=List.mem_map.1 h
 refine ⟨y,hy,?_⟩
 split
 ·exact ⟨rfl,.inr rfl⟩
 ·exact ⟨rfl,.inl rfl⟩
theorem set_ok {n:Nat} {next:Int} {l:List Za} (h:EqsOk n next l) (id:Int) {p:List Zd} (hp:PolOk p∧fitB p (n:Int) = true):EqsOk n next (setL id p l) where
 len:=by unfold setL; rw [List.length_map]; exact h.len
 ids q hq:=by
  obtain ⟨y,hy,e,_⟩:=set_mem hq
  have:=h.ids y hy; omega
 inc:=by
  unfold setL
  refine List.pairwise_map.2 (h.inc.imp fun {a b} hab=>?_)
  have e1:∀ z:Za,(if z.id=id then (⟨z.id,p⟩:Za) else z).id=z.id:=fun z=>by split <;> rfl
  rw [e1,e1]; exact hab
 pol q hq:=by
  obtain ⟨y,hy,_,e|e⟩:=set_mem hq
  ·rw [e]; exact h.pol y hy
  ·rw [e]; exact hp
theorem num_bd {s:Zb} (h:Good s) {e:Zc} (hk:e.kind=5) (hc:checkF s e=0):1≤numE s e∧numE s e < 1000000:=by
 obtain ⟨k1,k2,k3,k4,k5,k6,k7⟩:=check5 hk hc
 have:=h.next
 unfold numE
 split
 ·rename_i hz; have:=k6 hz; omega
 ·omega
theorem Good.add5 {s:Zb} (h:Good s) {e:Zc} (hp:PolOk e.p) (hk:e.kind=5) (hc:checkF s e=0):Good (addE s e):=by
 obtain ⟨k1,k2,k3,k4,k5,k6,k7⟩:=check5 hk hc
 have hnew:=num_new h k1 k3
 have hb:=num_bd h hk hc
 have hnx:=h.next
 have hno:(∀ q ∈ s.eqs,q.id≠numE s e)∧∀ q ∈ s.neqs,q.id≠numE s e:=⟨fun q hq e'=>absurd ((has_iff s _).2 (.inl ⟨q,hq,e'⟩)) (by rw [hnew]; decide),fun q hq e'=>absurd ((has_iff s _).2 (.inr ⟨q,hq,e'⟩)) (by rw [hnew]; decide)⟩
 have hnext:(if s.next < numE s e + 1 then numE s e + 1 else s.next)≤1000000∧s.next≤(if s.next < numE s e + 1 then numE s e + 1 else s.next)∧numE s e < (if s.next < numE s e + 1 then numE s e + 1 else s.next):=by split <;> omega
 unfold addE
 generalize (if s.next < numE s e + 1 then numE s e + 1 else s.next) = nx at hnext
 cases hq:e.neq with
 | false=>
  rw [if_neg (by decide),if_neg (by decide)]
  exact ⟨h.vars,h.name,h.diff,⟨by show 1≤nx; omega,hnext.1⟩,put_ok h.eqs (k4 hq) ⟨hp,k7⟩ ⟨hb.1,hnext.2.2⟩ hnext.2.1,h.neqs.up hnext.2.1,fun a ha b hb=>by
   rcases putL_mem ha with rfl|⟨ha,_⟩
   ·exact fun e=>hno.2 b hb e.symm
   ·exact h.apart a ha b hb⟩
 | true=>
  rw [if_pos rfl,if_pos rfl]
  exact ⟨h.vars,h.name,h.diff,⟨by show 1≤nx; omega,hnext.1⟩,h.eqs.up hnext.2.1,put_ok h.neqs (k5 hq) ⟨hp,k7⟩ ⟨hb.1,hnext.2.2⟩ hnext.2.1,fun a ha b hb=>by
   rcases putL_mem hb with rfl|⟨hb,_⟩
   ·exact hno.1 a ha
   ·exact h.apart a ha b hb⟩
theorem Good.drop6 {s:Zb} (h:Good s) (id:Int):Good (dropE s id):=
 ⟨h.vars,h.name,h.diff,h.next,drop_ok h.eqs id,drop_ok h.neqs id,fun a ha b hb=>h.apart a (List.mem_filter.1 ha).1 b (List.mem_filter.1 hb).1⟩
theorem check7 {s:Zb} {e:Zc} (hk:e.kind=7) (hc:checkF s e=0):fitB e.p (s.vars.length:Int) = true:=by
 have hb:=check78 (.inr (.inl hk)) hc
 rw [check678 (.inr (.inl hk))] at hc
 unfold idC at hc
 rw [hb,if_neg (by decide)] at hc
 cases hf:fitB e.p (s.vars.length:Int) with
 | true=>rfl
 | false=>rw [if_pos ⟨hk,hf⟩] at hc; exact absurd hc (by decide)
theorem check8 {s:Zb} {e:Zc} (hk:e.kind=8) (hc:checkF s e=0):(0≤findI s.eqs e.id→s.neqs.length < 12)∧(¬ 0≤findI s.eqs e.id→s.eqs.length < 12):=by
 have hb:=check78 (.inr (.inr hk)) hc
 rw [check678 (.inr (.inr hk))] at hc
 unfold idC at hc
 rw [hb,if_neg (by decide),if_neg (fun k=>by omega)] at hc
 by_cases c:e.kind=8∧((0≤findI s.eqs e.id∧12≤s.neqs.length)∨(¬ 0≤findI s.eqs e.id∧12≤s.eqs.length))
 ·rw [if_pos c] at hc; exact absurd hc (by decide)
 ·exact ⟨fun h1=>Nat.not_le.1 fun h2=>c ⟨hk,.inl ⟨h1,h2⟩⟩,fun h1=>Nat.not_le.1 fun h2=>c ⟨hk,.inr ⟨h1,h2⟩⟩⟩
theorem Good.set7 {s:Zb} (h:Good s) {e:Zc} (hp:PolOk e.p) (hk:e.kind=7) (hc:checkF s e=0):Good (setE s e):=
 ⟨h.vars,h.name,h.diff,h.next,set_ok h.eqs e.id ⟨hp,check7 hk hc⟩,set_ok h.neqs e.id ⟨hp,check7 hk hc⟩,fun a ha b hb=>by
  obtain ⟨a',ha',e1,_⟩:=set_mem ha
  obtain ⟨b',hb',e2,_⟩:=set_mem hb
  have:=h.apart a' ha' b' hb'
  omega⟩
theorem flip_cases {s:Zb} (h:Good s) {id:Int} (hb:hasB s id=true) :
  (0≤findI s.eqs id∧∃ q ∈ s.eqs,q.id=id∧findE s id=(q,false,true)∧(∀ z ∈ s.neqs,z.id≠id)∧flipE s id = ⟨s.vars,dropL s.eqs id,putL s.neqs q,s.next⟩)
  ∨(¬ 0≤findI s.eqs id∧∃ q ∈ s.neqs,q.id=id∧findE s id=(q,true,true)∧(∀ z ∈ s.eqs,z.id≠id)∧flipE s id = ⟨s.vars,putL s.eqs q,dropL s.neqs id,s.next⟩):=by
 by_cases hf:0≤findI s.eqs id
 ·obtain ⟨j,q,h1,h2,h3,h5,h6,h7,h8⟩:=has_eqs h hf
  have he:findE s id=(q,false,true):=by unfold findE; rw [h1]
  refine .inl ⟨hf,q,h5,h6,he,h8,?_⟩
  unfold flipE
  rw [he]
  unfold insS dropE
  rw [if_pos (by rfl)]
  simp only
  rw [dropL_free h8]
 ·obtain ⟨h1,h2,h3,j,q,h4,h7,h8,h5,h6⟩:=has_neqs hb hf
  have he:findE s id=(q,true,true):=by unfold findE; rw [h1,h4]
  refine .inr ⟨hf,q,h5,h6,he,h3,?_⟩
  unfold flipE
  rw [he]
  unfold insS dropE
  rw [if_neg (show ¬ (!true) = true by decide)]
  simp only
  rw [dropL_none h2]
theorem Good.flip8 {s:Zb} (h:Good s) {e:Zc} (hk:e.kind=8) (hc:checkF s e=0):Good (flipE s e.id):=by
 obtain ⟨c1,c2⟩:=check8 hk hc
 rcases flip_cases h (check78 (.inr (.inr hk)) hc) with ⟨hf,q,hq,e1,_,hno,e2⟩|⟨hf,q,hq,e1,_,hno,e2⟩
 ·rw [e2]
  exact ⟨h.vars,h.name,h.diff,h.next,drop_ok h.eqs _,put_ok h.neqs (c1 hf) (h.eqs.pol q hq) (h.eqs.ids q hq) (Int.le_refl _),fun a ha b hb=>by
   obtain ⟨ha1,ha2⟩:=List.mem_filter.1 ha
   rcases putL_mem hb with rfl|⟨hb,_⟩
   ·rw [e1]; exact of_decide_eq_true ha2
   ·exact h.apart a ha1 b hb⟩
 ·rw [e2]
  exact ⟨h.vars,h.name,h.diff,h.next,put_ok h.eqs (c2 hf) (h.neqs.pol q hq) (h.neqs.ids q hq) (Int.le_refl _),drop_ok h.neqs _,fun a ha b hb=>by
   obtain ⟨hb1,hb2⟩:=List.mem_filter.1 hb
   rcases putL_mem ha with rfl|⟨ha,_⟩
   ·rw [e1]; exact fun k=>of_decide_eq_true hb2 k.symm
   ·exact h.apart a ha b hb1⟩
theorem Good.edit {s:Zb} (h:Good s) {e:Zc} (hp:PolOk e.p) (hc:checkF s e=0):Good (doF s e):=by
 rcases kind_cases (s:=s) (e:=e) with (k|k|k|k|k|k|k|k)|⟨_,k⟩
 ·rw [doF1 k]; exact h.add1 k hc
 ·rw [doF2 k]; exact h.drop2 k hc
 ·rw [doF3 k]; exact h.ren3 k hc
 ·rw [doF4 k]; exact h.swap4 k hc
 ·rw [doF5 k]; exact h.add5 hp k hc
 ·rw [doF6 k]; exact h.drop6 e.id
 ·rw [doF7 k]; exact h.set7 hp k hc
 ·rw [doF8 k]; exact h.flip8 k hc
 ·omega
theorem flipE_next (s:Zb) (id:Int):(flipE s id).next=s.next∧(flipE s id).vars=s.vars:=by
 unfold flipE insS dropE
 split <;> exact ⟨rfl,rfl⟩
theorem next_edit (s:Zb) (e:Zc):s.next≤(doF s e).next∧((doF s e).next=s.next∨(doF s e).next=numE s e + 1):=by
 unfold doF
 repeat' split
 ·exact ⟨Int.le_refl _,.inl rfl⟩
 ·exact ⟨Int.le_refl _,.inl rfl⟩
 ·exact ⟨Int.le_refl _,.inl rfl⟩
 ·exact ⟨Int.le_refl _,.inl rfl⟩
 ·show s.next≤(if s.next < numE s e + 1 then numE s e + 1 else s.next)∧((if s.next < numE s e + 1 then numE s e + 1 else s.next) = s.next∨_=_)
  split
  ·rename_i hlt
   exact ⟨by omega,.inr (if_pos hlt)⟩
  ·exact ⟨by omega,.inl rfl⟩
 ·exact ⟨Int.le_refl _,.inl rfl⟩
 ·exact ⟨Int.le_refl _,.inl rfl⟩
 ·rw [(flipE_next s e.id).1]; exact ⟨Int.le_refl _,.inl rfl⟩
end Go.EL

namespace Go.EL
open Go Go.RowKit
def zeroEd:Zc:=⟨0,ByteArray.empty,0,0,0,[],false⟩
def backF (s:Zb) (e:Zc):Zc:=
 if e.kind=1 then ⟨2,ByteArray.empty,e.at',0,0,[],false⟩
 else if e.kind=2 then ⟨1,s.vars.getD e.at'.toNat ByteArray.empty,e.at',0,0,[],false⟩
 else if e.kind=3 then ⟨3,s.vars.getD e.at'.toNat ByteArray.empty,e.at',0,0,[],false⟩
 else if e.kind=4 then ⟨4,ByteArray.empty,e.at',e.to',0,[],false⟩
 else if e.kind=5 then ⟨6,ByteArray.empty,0,0,numE s e,[],false⟩
 else if e.kind=6 then ⟨5,ByteArray.empty,0,0,e.id,(findE s e.id).1.p,(findE s e.id).2.1⟩
 else if e.kind=7 then ⟨7,ByteArray.empty,0,0,e.id,(findE s e.id).1.p,false⟩
 else ⟨8,ByteArray.empty,0,0,e.id,[],false⟩
def invF (s:Zb) (e:Zc):Zc×Int:=if checkF s e=0 then (backF s e,0) else (zeroEd,checkF s e)
theorem getD_at {l:List ByteArray} {i:Int} (h:0≤i∧i < (l.length:Int)):0≤i∧l[i.toNat]? = some (l.getD i.toNat ByteArray.empty):=by
 have hi:i.toNat < l.length:=by omega
 refine ⟨h.1,?_⟩
 rw [List.getD_eq_getElem?_getD,List.getElem?_eq_getElem hi]; rfl
theorem kinds0 {s:Zb} {e:Zc} (hc:checkF s e=0):e.kind=1∨e.kind=2∨e.kind=3∨e.kind=4∨e.kind=5∨e.kind=6∨e.kind=7∨e.kind=8:=by
 rcases kind_cases (s:=s) (e:=e) with k|⟨_,k⟩
 ·exact k
 ·omega
theorem Inverse_ret {s:Zb} (h:Good s) {e:Zc} (hp:PolOk e.p) (hk:KindOk e):(Zc0 s e).Ret (invF s e):=by
 refine ⟨_,Apply_ret h hp hk,?_⟩
 unfold applyF invF
 by_cases hc:checkF s e=0
 ·rw [if_pos hc,if_pos hc,Comp.wp_ite,if_neg (fun hh=>hh rfl)]
  unfold backF
  by_cases k1:e.kind=1
  ·rw [Comp.wp_ite,if_pos k1,if_pos k1]; rfl
  rw [Comp.wp_ite,if_neg k1,if_neg k1]
  by_cases k2:e.kind=2
  ·rw [Comp.wp_ite,if_pos k2,if_pos k2]
   exact ⟨_,getD_at (of_decide_eq_true (check2 k2 hc).1),rfl⟩
  rw [Comp.wp_ite,if_neg k2,if_neg k2]
  by_cases k3:e.kind=3
  ·rw [Comp.wp_ite,if_pos k3,if_pos k3]
   exact ⟨_,getD_at (of_decide_eq_true (check3 k3 hc).1),rfl⟩
  rw [Comp.wp_ite,if_neg k3,if_neg k3]
  by_cases k4:e.kind=4
  ·rw [Comp.wp_ite,if_pos k4,if_pos k4]; rfl
  rw [Comp.wp_ite,if_neg k4,if_neg k4]
  by_cases k5:e.kind=5
  ·rw [Comp.wp_ite,if_pos k5,if_pos k5]
   refine ⟨numE s e,?_,rfl⟩
   unfold Zbp numE
   by_cases hz:e.id=0
   ·rw [if_pos hz,if_pos hz]; rfl
   ·rw [if_neg hz,if_neg hz]; rfl
  rw [Comp.wp_ite,if_neg k5,if_neg k5]
  by_cases k8:e.kind=8
  ·rw [Comp.wp_ite,if_pos k8,if_neg (show ¬ e.kind=6 by omega),if_neg (show ¬ e.kind=7 by omega)]; rfl
  rw [Comp.wp_ite,if_neg k8]
  refine ⟨_,Find_ret h e.id,?_⟩
  by_cases k6:e.kind=6
  ·rw [Comp.wp_ite,if_pos k6,if_pos k6]; rfl
  ·have k7:e.kind=7:=by have:=kinds0 hc; omega
   rw [Comp.wp_ite,if_neg k6,if_neg k6,if_pos k7]; rfl
 ·rw [if_neg hc,if_neg hc,Comp.wp_ite,if_pos hc]
  rfl
theorem SameTerm_ret {t:Zd} (h:TermOk t):(ZbG t t).Ret true:=by
 obtain ⟨⟨c,e,h0,h1,h2⟩,_⟩:=h
 have:=between_of same_all (x:=c) h1 h2
 unfold ZbG
 rw [if_pos rfl]
 refine ⟨true,?_,rfl⟩
 rw [e]
 exact runs_ret (by simpa [h0] using this)
theorem SameP_ret {p:List Zd} (h:PolOk p):(Zb9 p p).Ret true:=by
 have hl:=h.len
 unfold Zb9
 rw [if_neg (fun k=>k rfl)]
 refine Comp.loop_idx p.length (fun k s=>s=(k:Int)) (fun k s hk hs=>?_) (fun s hs=>?_) rfl
 ·subst hs
  rw [Comp.wp_ite,if_pos (by omega)]
  refine ⟨p[k],idxN hk,p[k],idxN hk,true,SameTerm_ret (h.at hk),?_⟩
  rw [Comp.wp_ite,if_neg (by decide)]
  exact wrapN (by omega)
 ·subst hs
  rw [Comp.wp_ite,if_neg (by omega)]
  rfl
theorem SameList_ret {l:List Za} (hl:l.length≤100) (h:∀ q ∈ l,PolOk q.p):(Za6 l l).Ret true:=by
 unfold Za6
 rw [if_neg (fun k=>k rfl)]
 refine Comp.loop_idx l.length (fun k s=>s=(k:Int)) (fun k s hk hs=>?_) (fun s hs=>?_) rfl
 ·subst hs
  rw [Comp.wp_ite,if_pos (by omega)]
  refine ⟨l[k],idxN hk,l[k],idxN hk,?_⟩
  rw [Comp.wp_ite,if_neg (fun k=>k rfl)]
  refine ⟨l[k],idxN hk,l[k],idxN hk,true,SameP_ret (h _ (List.getElem_mem hk)),?_⟩
  rw [Comp.wp_ite,if_neg (by decide)]
  exact wrapN (by omega)
 ·subst hs
  rw [Comp.wp_ite,if_neg (by omega)]
  rfl
structure SysPol (s:Zb):Prop where
 v:s.vars.length≤100
 e:s.eqs.length≤100∧∀ q ∈ s.eqs,PolOk q.p
 n:s.neqs.length≤100∧∀ q ∈ s.neqs,PolOk q.p
theorem Good.sys {s:Zb} (h:Good s):SysPol s:=
 ⟨by have:=h.vars; omega,⟨by have:=h.eqs.len; omega,fun q hq=>(h.eqs.pol q hq).1⟩,⟨by have:=h.neqs.len; omega,fun q hq=>(h.neqs.pol q hq).1⟩⟩
theorem zero_sys:SysPol zeroS:=⟨by decide,⟨by decide,fun q hq=>absurd hq List.not_mem_nil⟩,⟨by decide,fun q hq=>absurd hq List.not_mem_nil⟩⟩
theorem Same_ret {s:Zb} (h:SysPol s):(ZcR s s).Ret true:=by
 have hv:=h.v
 unfold ZcR
 rw [if_neg (fun k=>k rfl),if_neg (fun k=>k rfl)]
 refine ⟨true,SameList_ret h.e.1 h.e.2,true,SameList_ret h.n.1 h.n.2,?_⟩
 rw [Comp.wp_ite,if_neg (by decide)]
 refine Comp.loop_idx s.vars.length (fun k st=>st=(k:Int)) (fun k st hk hs=>?_) (fun st hs=>?_) rfl
 ·subst hs
  rw [Comp.wp_ite,if_pos (by omega)]
  refine ⟨s.vars[k],idxN hk,s.vars[k],idxN hk,?_⟩
  rw [Comp.wp_ite,if_neg (fun k=>k rfl)]
  exact wrapN (by omega)
 ·subst hs
  rw [Comp.wp_ite,if_neg (by omega)]
  rfl
theorem SameEdit_ret {e:Zc} (h:PolOk e.p):(ZbK e e).Ret true:=by
 unfold ZbK
 rw [if_pos rfl,if_pos rfl,if_pos rfl,if_pos rfl,if_pos rfl,if_pos rfl]
 exact ⟨true,SameP_ret h,rfl⟩
theorem nil_ok:PolOk []:=⟨List.Pairwise.nil,fun t ht=>absurd ht List.not_mem_nil,by decide⟩
theorem findE_pol {s:Zb} (h:Good s) (id:Int):PolOk (findE s id).1.p:=by
 unfold findE
 cases h1:findQ s.eqs id with
 | some q=>exact (h.eqs.pol q (findQ_mem h1).1).1
 | none=>
  cases h2:findQ s.neqs id with
  | some q=>exact (h.neqs.pol q (findQ_mem h2).1).1
  | none=>exact nil_ok
end Go.EL

namespace Go.EL
open Go Go.RowKit
def allF:Zb→List Zc→Nat→Zj
 | s,[],k=>⟨s,(k:Int),0⟩
 | s,e::l,k=>if checkF s e=0 then allF (doF s e) l (k + 1) else ⟨zeroS,(k:Int),checkF s e⟩
theorem allF_at {s:Zb} {l:List Zc} {k:Nat} (hk:k < l.length):allF s (l.drop k) k=if checkF s l[k] = 0 then allF (doF s l[k]) (l.drop (k + 1)) (k + 1) else ⟨zeroS,(k:Int),checkF s l[k]⟩:=by
 rw [List.drop_eq_getElem_cons hk]; rfl
theorem All_ret {l:List Zc} (hl:l.length≤1000) (hp:∀ e ∈ l,PolOk e.p∧KindOk e) {s:Zb} (h:Good s):(ZeW s l).Ret ((allF s l 0).s,(allF s l 0).n,(allF s l 0).e):=by
 show (Comp.next _ _).wp _
 refine Comp.loop_idx l.length (fun k st=>∃ t,st=((k:Int),t,zeroS)∧Good t∧allF s l 0=allF t (l.drop k) k) (fun k st hk hs=>?_) (fun st hs=>?_) ⟨s,rfl,h,rfl⟩
 ·obtain ⟨t,rfl,hg,he⟩:=hs
  have hpk:=hp l[k] (List.getElem_mem hk)
  rw [allF_at hk] at he
  show (if (k:Int) < (l.length:Int) then _ else _:Comp _).wp _
  rw [Comp.wp_ite,if_pos (by omega)]
  refine ⟨l[k],idxN hk,_,Apply_ret hg hpk.1 hpk.2,?_⟩
  rw [Comp.wp_ite]
  unfold applyF
  by_cases hc:checkF t l[k] = 0
  ·rw [if_pos hc] at he
   rw [if_pos hc,if_neg (fun hh=>hh rfl)]
   refine ⟨doF t l[k],?_,hg.edit hpk.1 hc,he⟩
   show _=_
   rw [wrapN (by omega)]
  ·rw [if_neg hc] at he
   rw [if_neg hc,if_pos hc]
   show _=_
   rw [he]; rfl
 ·obtain ⟨t,rfl,hg,he⟩:=hs
  rw [List.drop_length] at he
  show (if ((l.length:Nat):Int) < (l.length:Int) then _ else _:Comp _).wp _
  rw [Comp.wp_ite,if_neg (by omega)]
  show _=_
  rw [he]; rfl
theorem done_ret {l:List Zc} (hl:l.length≤1000) (hp:∀ e ∈ l,PolOk e.p∧KindOk e) {s:Zb} (h:Good s):(ZT s l).Ret (allF s l 0):=⟨_,All_ret hl hp h,rfl⟩
structure DescOk (x:Zl):Prop where
 kind:0≤x.kind∧x.kind≤255
 a:0≤x.a∧x.a≤255
 b:0≤x.b∧x.b≤255
 n:0≤x.n∧x.n≤255
 p:RawOk x.p
structure EditOk (s:Zb) (e:Zc):Prop where
 kind:1≤e.kind∧e.kind≤8
 p:PolOk e.p
 id:0≤e.id∧e.id≤s.next
theorem EditOk.k {s:Zb} {e:Zc} (h:EditOk s e):KindOk e:=by have:=h.kind; exact ⟨by omega,by omega⟩
theorem Edit_k1 {s:Zb} (h:Good s) {x:Zl} (hx:DescOk x) (b:Zc):∃ e,(Zbo s x b).Ret e∧e.kind=b.kind∧e.id=b.id∧PolOk e.p:=by
 have hv:=h.vars
 have e1:(if 3 < (s.vars.length:Int) then 3 else (s.vars.length:Int)) = ((min s.vars.length 3:Nat):Int):=by split <;> omega
 refine ⟨⟨b.kind,b.name,b.at',b.to',b.id,madeP x.p (min s.vars.length 3) 2 3,b.neq⟩,⟨_,by rw [e1]; exact Made_ret hx.p (by omega) (by decide) (by decide) (by decide),rfl⟩,rfl,rfl,?_⟩
 exact (madeP_ok hx.p (n:=min s.vars.length 3) (by omega) (d:=2) (by decide) 3).pol (by decide) (by decide) (by decide)
theorem Edit_k2 {s:Zb} (h:Good s) {x:Zl} (hx:DescOk x) (b:Zc) (hb:0≤b.id∧b.id≤s.next):∃ e,(Zay s x b).Ret e∧e.kind=b.kind∧(0≤e.id∧e.id≤s.next)∧PolOk e.p:=by
 have hn:=h.next
 unfold Zay
 by_cases c1:b.kind=5
 ·rw [if_pos c1]
  by_cases c2:0 < Int.tmod x.n 4
  ·rw [if_pos c2]
   obtain ⟨e,h1,h2,h3,h4⟩:=Edit_k1 h hx (Zc.mk b.kind b.name b.at' b.to' 0 b.p b.neq)
   have h3':e.id=0:=h3
   exact ⟨e,h1,h2,by omega,h4⟩
  ·rw [if_neg c2]
   obtain ⟨e,h1,h2,h3,h4⟩:=Edit_k1 h hx b
   exact ⟨e,h1,h2,by omega,h4⟩
 ·rw [if_neg c1]
  obtain ⟨e,h1,h2,h3,h4⟩:=Edit_k1 h hx b
  exact ⟨e,h1,h2,by omega,h4⟩
theorem Edit_ex {s:Zb} (h:Good s) {x:Zl} (hx:DescOk x):∃ e,(ZcS s x).Ret e∧EditOk s e:=by
 have hv:=h.vars
 have hn:=h.next
 obtain ⟨k1,k2⟩:=hx.kind
 have ka:=hx.a
 have kn:=hx.n
 have w1:IntKind.i64.wrap ((s.vars.length:Int) + 1) = (s.vars.length:Int) + 1:=wrap64 (by omega)
 have w2:IntKind.i64.wrap (s.next + 1) = s.next + 1:=wrap64 (by omega)
 have w3:IntKind.i64.wrap x.n=x.n:=wrap64 (by omega)
 have t6:=tmod_bd (a:=x.n) (b:=6) (by omega) (by omega)
 have t16:=tmod_bd (a:=x.kind) (b:=16) (by omega) (by omega)
 have t4:=tmod_bd (a:=x.a) (b:=4) (by omega) (by omega)
 have tn:=tmod_bd (a:=x.n) (b:=s.next + 1) (by omega) (by omega)
 have hname:∃ v,0≤Int.tmod x.n 6∧([Zq,Zap,Zaa,Z0,ZS,ZQ]:List ByteArray)[(Int.tmod x.n 6).toNat]? = some v:=⟨_,t6.1,List.getElem?_eq_getElem (show (Int.tmod x.n 6).toNat < 6 by omega)⟩
 obtain ⟨v,hv2⟩:=hname
 have key:∀ b:Zc,1≤b.kind∧b.kind≤8→b.id=Int.tmod (IntKind.i64.wrap x.n) (IntKind.i64.wrap (s.next + 1))→∃ e,(Zay s x b).Ret e∧EditOk s e:=fun b hb hid=>by
  rw [w2,w3] at hid
  obtain ⟨e,h1,h2,h3,h4⟩:=Edit_k2 h hx b (by omega)
  exact ⟨e,h1,⟨by omega,h4,h3⟩⟩
 have wrap:∀ {e:Zc} {c:Comp Zc},(c).Ret e→(Comp.chk ((IntKind.i64.wrap ((s.vars.length:Int) + 1))≠0) (Comp.chk ((IntKind.i64.wrap ((s.vars.length:Int) + 1))≠0) (Comp.chk ((IntKind.i64.wrap (s.next + 1))≠0) c))).Ret e:=fun {e c} hc=>⟨by rw [w1]; omega,by rw [w1]; omega,by rw [w2]; omega,hc⟩
 unfold ZcS
 by_cases c1:8≤Int.tmod x.kind 16
 ·by_cases c2:Int.tmod x.a 8 < 5
  ·obtain ⟨e,h1,h2⟩:=key (Zc.mk 5 v (Int.tmod (IntKind.i64.wrap x.a) (IntKind.i64.wrap ((s.vars.length:Int) + 1))) (Int.tmod (IntKind.i64.wrap x.b) (IntKind.i64.wrap ((s.vars.length:Int) + 1))) (Int.tmod (IntKind.i64.wrap x.n) (IntKind.i64.wrap (s.next + 1))) [] (decide ((Int.tmod x.b 4) = 3))) (by show 1≤(5:Int)∧(5:Int)≤8; decide) rfl
   refine ⟨e,wrap ⟨_,rfl,v,hv2,?_⟩,h2⟩
   rw [Comp.wp_ite,if_pos c1,Comp.wp_ite,if_pos c2]; exact h1
  ·have w4:IntKind.i64.wrap (5 + (IntKind.i64.wrap (Int.tmod x.a 4))) = 5 + Int.tmod x.a 4:=by rw [wrap64 (x:=Int.tmod x.a 4) (by omega),wrap64 (by omega)]
   obtain ⟨e,h1,h2⟩:=key (Zc.mk (IntKind.i64.wrap (5 + (IntKind.i64.wrap (Int.tmod x.a 4)))) v (Int.tmod (IntKind.i64.wrap x.a) (IntKind.i64.wrap ((s.vars.length:Int) + 1))) (Int.tmod (IntKind.i64.wrap x.b) (IntKind.i64.wrap ((s.vars.length:Int) + 1))) (Int.tmod (IntKind.i64.wrap x.n) (IntKind.i64.wrap (s.next + 1))) [] (decide ((Int.tmod x.b 4) = 3))) (by show 1≤IntKind.i64.wrap (5 + (IntKind.i64.wrap (Int.tmod x.a 4)))∧IntKind.i64.wrap (5 + (IntKind.i64.wrap (Int.tmod x.a 4)))≤8; rw [w4]; omega) rfl
   refine ⟨e,wrap ⟨_,rfl,v,hv2,?_⟩,h2⟩
   rw [Comp.wp_ite,if_pos c1,Comp.wp_ite,if_neg c2]; exact h1
 ·have w4:IntKind.i64.wrap (1 + (IntKind.i64.wrap (Int.tmod x.kind 16))) = 1 + Int.tmod x.kind 16:=by rw [wrap64 (x:=Int.tmod x.kind 16) (by omega),wrap64 (by omega)]
  obtain ⟨e,h1,h2⟩:=key (Zc.mk (IntKind.i64.wrap (1 + (IntKind.i64.wrap (Int.tmod x.kind 16)))) v (Int.tmod (IntKind.i64.wrap x.a) (IntKind.i64.wrap ((s.vars.length:Int) + 1))) (Int.tmod (IntKind.i64.wrap x.b) (IntKind.i64.wrap ((s.vars.length:Int) + 1))) (Int.tmod (IntKind.i64.wrap x.n) (IntKind.i64.wrap (s.next + 1))) [] (decide ((Int.tmod x.b 4) = 3))) (by show 1≤IntKind.i64.wrap (1 + (IntKind.i64.wrap (Int.tmod x.kind 16)))∧IntKind.i64.wrap (1 + (IntKind.i64.wrap (Int.tmod x.kind 16)))≤8; rw [w4]; omega) rfl
  refine ⟨e,wrap ⟨_,rfl,v,hv2,?_⟩,h2⟩
  rw [Comp.wp_ite,if_neg c1]; exact h1
def oneS:Zb:=⟨[],[],[],1⟩
theorem one_good:Good oneS:=⟨by decide,fun v hv=>absurd hv List.not_mem_nil,List.Pairwise.nil,by decide,⟨by decide,fun q hq=>absurd hq List.not_mem_nil,List.Pairwise.nil,fun q hq=>absurd hq List.not_mem_nil⟩,⟨by decide,fun q hq=>absurd hq List.not_mem_nil,List.Pairwise.nil,fun q hq=>absurd hq List.not_mem_nil⟩,fun a ha=>absurd ha List.not_mem_nil⟩
theorem next_step {s:Zb} {e:Zc} (he:EditOk s e):(doF s e).next≤s.next + 1:=by
 have h1:=next_edit s e
 have h2:=he.id
 unfold numE at h1
 split at h1 <;> omega
theorem Made_loop {l:List Zl} (hx:∀ x ∈ l,DescOk x):∀ (d k:Nat) (s:Zb),k + d=min l.length 12→Good s→s.next≤(k:Int) + 1→∃ r,(ZeO l 12 ((k:Int),s)).Ret r∧Good r∧r.next≤13
 | 0,k,s,hk,hg,hn=>by
  refine ⟨s,Comp.loop_fold ?_,hg,by omega⟩
  show (if (k:Int) < (l.length:Int) then _ else _:Comp _).wp _
  rw [Comp.wp_ite]
  by_cases c:(k:Int) < (l.length:Int)
  ·rw [if_pos c,Comp.wp_ite,if_neg (by omega)]; rfl
  ·rw [if_neg c]; rfl
 | d + 1,k,s,hk,hg,hn=>by
  have hkl:k < l.length:=by omega
  obtain ⟨e,h1,h2⟩:=Edit_ex hg (hx l[k] (List.getElem_mem hkl))
  by_cases hc:checkF s e=0
  ·have hns:=next_step h2
   obtain ⟨r,h3,h4⟩:=Made_loop hx d (k + 1) (doF s e) (by omega) (hg.edit h2.p hc) (by omega)
   refine ⟨r,Comp.loop_fold ?_,h4⟩
   show (if (k:Int) < (l.length:Int) then _ else _:Comp _).wp _
   rw [Comp.wp_ite,if_pos (by omega),Comp.wp_ite,if_pos (by omega)]
   refine ⟨l[k],idxN hkl,e,h1,_,Zbq hg h2.p,?_⟩
   unfold applyF
   rw [Comp.wp_ite,if_pos hc,if_pos rfl]
   show (Comp.loop _ _).wp _
   rw [wrapN (by omega)]
   exact h3
  ·obtain ⟨r,h3,h4⟩:=Made_loop hx d (k + 1) s (by omega) hg (by omega)
   refine ⟨r,Comp.loop_fold ?_,h4⟩
   show (if (k:Int) < (l.length:Int) then _ else _:Comp _).wp _
   rw [Comp.wp_ite,if_pos (by omega),Comp.wp_ite,if_pos (by omega)]
   refine ⟨l[k],idxN hkl,e,h1,_,Zbq hg h2.p,?_⟩
   unfold applyF
   rw [Comp.wp_ite,if_neg hc,if_neg hc]
   show (Comp.loop _ _).wp _
   rw [wrapN (by omega)]
   exact h3
theorem MadeS_ex {l:List Zl} (hx:∀ x ∈ l,DescOk x):∃ r,(ZeU l 12).Ret r∧Good r∧r.next≤13:=by
 obtain ⟨r,h1,h2⟩:=Made_loop hx (min l.length 12) 0 oneS (by omega) one_good (by decide)
 refine ⟨r,?_,h2⟩
 show (Comp.next _ _).wp _
 exact h1
def RunOk:Zb→List Zc→Prop
 | _,[]=>True
 | s,e::l=>EditOk s e∧checkF s e=0∧RunOk (doF s e) l
theorem Edits_loop {l:List Zl} (hx:∀ x ∈ l,DescOk x) {m:Nat} (hm:m≤12):∀ (d k:Nat) (s:Zb) (out:List Zc),k + d=min l.length m→out.length≤k→Good s→∃ r,(Zem l (m:Int) (out,(k:Int),s)).Ret (out++r)∧r.length≤d∧RunOk s r
 | 0,k,s,out,hk,ho,hg=>by
  refine ⟨[],Comp.loop_fold ?_,by simp,trivial⟩
  show (if (k:Int) < (l.length:Int) then _ else _:Comp _).wp _
  rw [Comp.wp_ite,List.append_nil]
  by_cases c:(k:Int) < (l.length:Int)
  ·rw [if_pos c,Comp.wp_ite,if_neg (by omega)]; rfl
  ·rw [if_neg c]; rfl
 | d + 1,k,s,out,hk,ho,hg=>by
  have hkl:k < l.length:=by omega
  obtain ⟨e,h1,h2⟩:=Edit_ex hg (hx l[k] (List.getElem_mem hkl))
  by_cases hc:checkF s e=0
  ·obtain ⟨r,h3,h4,h5⟩:=Edits_loop hx hm d (k + 1) (doF s e) (out++[e]) (by omega) (by simp; omega) (hg.edit h2.p hc)
   refine ⟨e::r,Comp.loop_fold ?_,by simp; omega,h2,hc,h5⟩
   show (if (k:Int) < (l.length:Int) then _ else _:Comp _).wp _
   rw [Comp.wp_ite,if_pos (by omega),Comp.wp_ite,if_pos (by omega)]
   refine ⟨l[k],idxN hkl,e,h1,_,Zbq hg h2.p,?_⟩
   unfold applyF
   rw [Comp.wp_ite,if_pos hc,if_pos rfl]
   refine ⟨by simp [small]; omega,?_⟩
   show (Comp.loop _ _).wp _
   rw [wrapN (by omega)]
   rw [List.append_assoc] at h3
   exact h3
  ·obtain ⟨r,h3,h4,h5⟩:=Edits_loop hx hm d (k + 1) s out (by omega) (by omega) hg
   refine ⟨r,Comp.loop_fold ?_,by omega,h5⟩
   show (if (k:Int) < (l.length:Int) then _ else _:Comp _).wp _
   rw [Comp.wp_ite,if_pos (by omega),Comp.wp_ite,if_pos (by omega)]
   refine ⟨l[k],idxN hkl,e,h1,_,Zbq hg h2.p,?_⟩
   unfold applyF
   rw [Comp.wp_ite,if_neg hc,if_neg hc]
   show (Comp.loop _ _).wp _
   rw [wrapN (by omega)]
   exact h3
theorem Edits_ex {l:List Zl} (hx:∀ x ∈ l,DescOk x) {m:Nat} (hm:m≤12) {s:Zb} (hg:Good s):∃ r,(Zel s l (m:Int)).Ret r∧r.length≤m∧RunOk s r:=by
 obtain ⟨r,h1,h2,h3⟩:=Edits_loop hx hm (min l.length m) 0 s [] (by omega) (by simp) hg
 refine ⟨r,?_,by omega,h3⟩
 show (Comp.next _ _).wp _
 exact h1
theorem run_pol:∀ {l:List Zc} {s:Zb},RunOk s l→∀ e ∈ l,PolOk e.p∧KindOk e
 | [],_,_,_,he=>by cases he
 | x::l,s,⟨h1,_,h3⟩,e,he=>by
  rcases List.mem_cons.1 he with rfl|he
  ·exact ⟨h1.p,h1.k⟩
  ·exact run_pol h3 e he
structure OddOk (x:ZD):Prop where
 kind:-128≤x.kind∧x.kind≤127
 p:RawOk x.p
theorem odd_k1 {x:ZD} (hx:OddOk x) (v:ByteArray):∃ e,(ZbT x v).Ret e∧PolOk e.p∧KindOk e:=by
 have hk:=hx.kind
 refine ⟨_,⟨_,Made_ret hx.p (n:=4) (d:=13) (k:=4) (by decide) (by decide) (by decide) (by decide),rfl⟩,?_,?_⟩
 ·exact (madeP_ok hx.p (n:=4) (by decide) (d:=13) (by decide) 4).pol (by decide) (by decide) (by decide)
 ·show -1000≤IntKind.i64.wrap x.kind∧IntKind.i64.wrap x.kind≤1000
  rw [wrap64 (by omega)]; omega
theorem odd_ex {x:ZD} (hx:OddOk x):∃ e,(Zco x).Ret e∧PolOk e.p∧KindOk e:=by
 unfold Zco
 by_cases c:20 < (x.name.size:Int)
 ·obtain ⟨e,h1,h2⟩:=odd_k1 hx (x.name.extract 0 (20:Int).toNat)
  refine ⟨e,?_,h2⟩
  rw [if_pos c]
  exact ⟨⟨by omega,by omega,by omega⟩,h1⟩
 ·obtain ⟨e,h1,h2⟩:=odd_k1 hx x.name
  refine ⟨e,?_,h2⟩
  rw [if_neg c]
  exact h1
end Go.EL

namespace Go.EL
open Go Go.RowKit
theorem EqsOk.pols {n:Nat} {next:Int} {l:List Za} (h:EqsOk n next l):∀ q ∈ l,PolOk q.p:=fun q hq=>(h.pol q hq).1
theorem getD_eq {l:List ByteArray} {a:Nat} (ha:a < l.length):l.getD a ByteArray.empty=l[a]:=by
 rw [List.getD_eq_getElem?_getD,List.getElem?_eq_getElem ha]; rfl
end Go.EL

namespace Go.EL
open Go Go.RowKit
instance decTerm:DecidableEq Zd:=fun ⟨a1,a2⟩ ⟨b1,b2⟩=>decidable_of_iff (a1=b1∧a2=b2) (by simp)
theorem cmp0_ret {x y:Zd} (hx:TermOk x) (hy:TermOk y):∃ v,(Zbg x.c y.c).Ret v∧(v=0↔x.c=y.c):=by
 obtain ⟨⟨a,e1,a0,a1,a2⟩,_⟩:=hx
 obtain ⟨⟨b,e2,b0,b1,b2⟩,_⟩:=hy
 have h1:=between_of rcmp_all (x:=a) a1 a2
 have h2:(between (-12) 12 fun b=>b == 0 || runs 30 (Zbg (ratI a) (ratI b)) (if a < b then -1 else if a=b then 0 else 1)) = true:=by simpa [a0] using h1
 have h3:=between_of h2 (x:=b) b1 b2
 refine ⟨_,by rw [e1,e2]; exact runs_ret (by simpa [b0] using h3),?_⟩
 rw [e1,e2]
 by_cases c1:a < b
 ·rw [if_pos c1]
  exact ⟨fun k=>absurd k (by decide),fun k=>by have:=ratI_inj k; omega⟩
 ·rw [if_neg c1]
  by_cases c2:a=b
  ·rw [if_pos c2,c2]; exact ⟨fun _=>rfl,fun _=>rfl⟩
  ·rw [if_neg c2]
   exact ⟨fun k=>absurd k (by decide),fun k=>absurd (ratI_inj k) c2⟩
theorem same_c1_ret {x y:Zd} (hx:TermOk x) (hy:TermOk y):(Zav x y).Ret (decide (x=y)):=by
 unfold Zav
 by_cases hm:x.m=y.m
 ·rw [if_pos hm]
  obtain ⟨v,h1,h2⟩:=cmp0_ret hx hy
  refine ⟨v,h1,?_⟩
  refine decide_eq_decide.2 (h2.trans ⟨fun k=>?_,fun k=>by rw [k]⟩)
  cases x; cases y
  simp only at hm k
  rw [hm,k]
 ·rw [if_neg hm]
  exact (decide_eq_false fun k=>hm (by rw [k])).symm
theorem PSame_ret {p q:List Zd} (hp:PolOk p) (hq:PolOk q):(Za2 p q).Ret (decide (p=q)):=by
 have hl:=hp.len
 refine ⟨_,?_,rfl⟩
 unfold Zp
 by_cases hlen:p.length=q.length
 ·rw [if_neg (fun k=>k (by omega))]
  refine Comp.loop_idx p.length (fun k s=>s=(k:Int)∧p.take k=q.take k) (fun k s hk hs=>?_) (fun s hs=>?_) ⟨rfl,rfl⟩
  ·obtain ⟨rfl,he⟩:=hs
   have hk2:k < q.length:=by omega
   rw [Comp.wp_ite,if_pos (by omega)]
   refine ⟨p[k],idxN hk,q[k],idxN hk2,_,same_c1_ret (hp.at hk) (hq.at hk2),?_⟩
   rw [Comp.wp_ite]
   by_cases e:p[k] = q[k]
   ·rw [decide_eq_true e,if_neg (by decide)]
    refine ⟨wrapN (by omega),?_⟩
    rw [← List.take_append_getElem hk,← List.take_append_getElem hk2,he,e]
   ·rw [decide_eq_false e,if_pos (by decide)]
    show _=_
    refine (decide_eq_false fun k'=>e ?_).symm
    simp only [k']
  ·obtain ⟨rfl,he⟩:=hs
   rw [Comp.wp_ite,if_neg (by omega)]
   show _=_
   refine (decide_eq_true ?_).symm
   rw [List.take_length,hlen,List.take_length] at he
   exact he
 ·rw [if_pos (fun k=>hlen (by omega))]
  exact (decide_eq_false fun k=>hlen (by rw [k])).symm
def missB (b:Zb) (ev i:Bool) (q:Za):Bool:=ev || !(findE b q.id).2.2 || !(decide ((findE b q.id).2.1=i)) || !(decide ((findE b q.id).1.p=q.p))
def mk6 (q:Za):Zc:=Zc.mk 6 ByteArray.empty 0 0 q.id [] false
def mk5 (neq:Bool) (q:Za):Zc:=Zc.mk 5 ByteArray.empty 0 0 q.id q.p neq
theorem miss1_inner {b:Zb} (hb:Good b) (ev:Bool) (v:Int) {l:List Za} (hl:l.length≤100) (hp:∀ q ∈ l,PolOk q.p) {acc:List Zc} (ha:acc.length≤1000):(ZaD b ev v l (acc,0)).Ret (acc++(l.filter (missB b ev (decide (v=1)))).map mk6):=by
 refine Comp.loop_idx l.length (fun k s=>s=(acc++((l.take k).filter (missB b ev (decide (v=1)))).map mk6,(k:Int))) (fun k s hk hs=>?_) (fun s hs=>?_) (by simp)
 ·subst hs
  have hk5:∀ fl,fl=missB b ev (decide (v=1)) l[k]→(Zv v (acc++((l.take k).filter (missB b ev (decide (v=1)))).map mk6) (k:Int) l[k] fl).wp (Out (fun s'=>s' = (acc++((l.take (k + 1)).filter (missB b ev (decide (v=1)))).map mk6,((k + 1:Nat):Int))) fun a=>a=acc++(l.filter (missB b ev (decide (v=1)))).map mk6):=fun fl hfl=>by
   have hlen:((l.take k).filter (missB b ev (decide (v=1)))).length≤k:=Nat.le_trans (List.length_filter_le _ _) (by simp; omega)
   unfold Zv
   rw [Comp.wp_ite]
   by_cases c:fl=true
   ·rw [if_pos c]
    refine ⟨mk6 l[k],rfl,by simp [small]; omega,?_⟩
    show _=_
    rw [wrapN (by omega),filter_take_succ hk,if_pos (by rw [← hfl]; exact c),List.map_append,← List.append_assoc]; rfl
   ·rw [if_neg c]
    show _=_
    rw [wrapN (by omega),filter_take_succ hk,if_neg (by rw [← hfl]; exact c),List.append_nil]
  show (if (k:Int) < (l.length:Int) then _ else _:Comp _).wp _
  rw [Comp.wp_ite,if_pos (by omega)]
  refine ⟨l[k],idxN hk,_,Find_ret hb _,?_⟩
  rw [Comp.wp_ite]
  cases ev with
  | true=>rw [if_pos rfl]; exact hk5 true rfl
  | false=>
   rw [if_neg (by decide),Comp.wp_ite]
   cases hf:(findE b l[k].id).2.2 with
   | false=>
    rw [if_neg (by decide)]
    exact hk5 true (by unfold missB; rw [hf]; rfl)
   | true=>
    rw [if_pos rfl,Comp.wp_ite]
    by_cases hn:(findE b l[k].id).2.1=decide (v=1)
    ·rw [if_neg (fun k=>k hn)]
     refine ⟨_,PSame_ret (findE_pol hb _) (hp _ (List.getElem_mem hk)),?_⟩
     exact hk5 _ (by unfold missB; rw [hf,decide_eq_true hn]; rfl)
    ·rw [if_pos hn]
     exact hk5 true (by unfold missB; rw [hf,decide_eq_false hn]; rfl)
 ·subst hs
  show (if ((l.length:Nat):Int) < (l.length:Int) then _ else _:Comp _).wp _
  rw [Comp.wp_ite,if_neg (by omega),List.take_length]
  rfl
theorem missing1_ret {a b:Zb} (ha:Good a) (hb:Good b) (ev:Bool):(Zag a b ev).Ret ((a.eqs.filter (missB b ev false)).map mk6++(a.neqs.filter (missB b ev true)).map mk6):=by
 have he:=ha.eqs.len
 have hn:=ha.neqs.len
 have h1:=miss1_inner hb ev 0 (l:=a.eqs) (by omega) ha.eqs.pols (acc:=[]) (by simp)
 have hlen:((a.eqs.filter (missB b ev false)).map mk6).length≤1000:=by rw [List.length_map]; exact Nat.le_trans (List.length_filter_le _ _) (by omega)
 have h2:=miss1_inner hb ev 1 (l:=a.neqs) (by omega) ha.neqs.pols (acc:=(a.eqs.filter (missB b ev false)).map mk6) hlen
 show (Comp.next _ _).wp _
 refine Comp.loop_fold ?_
 rw [Comp.wp_ite,if_pos (by show (0:Int) < ((2:Nat):Int); decide)]
 refine ⟨a.eqs,⟨by omega,rfl⟩,h1.then ?_⟩
 refine Comp.loop_fold ?_
 rw [Comp.wp_ite,if_pos (by show IntKind.i64.wrap (0 + 1) < ((2:Nat):Int); decide)]
 refine ⟨a.neqs,⟨by decide,rfl⟩,h2.then ?_⟩
 refine Comp.loop_fold ?_
 rw [Comp.wp_ite,if_neg (by show ¬ IntKind.i64.wrap (IntKind.i64.wrap (0 + 1) + 1) < ((2:Nat):Int); decide)]
 rfl
theorem miss2_inner {b:Zb} (hb:Good b) (ev:Bool) (v:Int) {l:List Za} (hl:l.length≤100) (hp:∀ q ∈ l,PolOk q.p) {acc:List Zc} (ha:acc.length≤1000):(ZaE b ev v l (acc,0)).Ret (acc++(l.filter (missB b ev (decide (v=1)))).map (mk5 (decide (v=1)))):=by
 refine Comp.loop_idx l.length (fun k s=>s=(acc++((l.take k).filter (missB b ev (decide (v=1)))).map (mk5 (decide (v=1))),(k:Int))) (fun k s hk hs=>?_) (fun s hs=>?_) (by simp)
 ·subst hs
  have hk5:∀ fl,fl=missB b ev (decide (v=1)) l[k]→(Zw v (acc++((l.take k).filter (missB b ev (decide (v=1)))).map (mk5 (decide (v=1)))) (k:Int) l[k] fl).wp (Out (fun s'=>s' = (acc++((l.take (k + 1)).filter (missB b ev (decide (v=1)))).map (mk5 (decide (v=1))),((k + 1:Nat):Int))) fun a=>a=acc++(l.filter (missB b ev (decide (v=1)))).map (mk5 (decide (v=1)))):=fun fl hfl=>by
   have hlen:((l.take k).filter (missB b ev (decide (v=1)))).length≤k:=Nat.le_trans (List.length_filter_le _ _) (by simp; omega)
   unfold Zw
   rw [Comp.wp_ite]
   by_cases c:fl=true
   ·rw [if_pos c]
    refine ⟨mk5 (decide (v=1)) l[k],rfl,by simp [small]; omega,?_⟩
    show _=_
    rw [wrapN (by omega),filter_take_succ hk,if_pos (by rw [← hfl]; exact c),List.map_append,← List.append_assoc]; rfl
   ·rw [if_neg c]
    show _=_
    rw [wrapN (by omega),filter_take_succ hk,if_neg (by rw [← hfl]; exact c),List.append_nil]
  show (if (k:Int) < (l.length:Int) then _ else _:Comp _).wp _
  rw [Comp.wp_ite,if_pos (by omega)]
  refine ⟨l[k],idxN hk,_,Find_ret hb _,?_⟩
  rw [Comp.wp_ite]
  cases ev with
  | true=>rw [if_pos rfl]; exact hk5 true rfl
  | false=>
   rw [if_neg (by decide),Comp.wp_ite]
   cases hf:(findE b l[k].id).2.2 with
   | false=>
    rw [if_neg (by decide)]
    exact hk5 true (by unfold missB; rw [hf]; rfl)
   | true=>
    rw [if_pos rfl,Comp.wp_ite]
    by_cases hn:(findE b l[k].id).2.1=decide (v=1)
    ·rw [if_neg (fun k=>k hn)]
     refine ⟨_,PSame_ret (findE_pol hb _) (hp _ (List.getElem_mem hk)),?_⟩
     exact hk5 _ (by unfold missB; rw [hf,decide_eq_true hn]; rfl)
    ·rw [if_pos hn]
     exact hk5 true (by unfold missB; rw [hf,decide_eq_false hn]; rfl)
 ·subst hs
  show (if ((l.length:Nat):Int) < (l.length:Int) then _ else _:Comp _).wp _
  rw [Comp.wp_ite,if_neg (by omega),List.take_length]
  rfl
theorem missing2_ret {a b:Zb} (ha:Good a) (hb:Good b) (ev:Bool):(Zah a b ev).Ret ((a.eqs.filter (missB b ev false)).map (mk5 false)++(a.neqs.filter (missB b ev true)).map (mk5 true)):=by
 have he:=ha.eqs.len
 have hn:=ha.neqs.len
 have h1:=miss2_inner hb ev 0 (l:=a.eqs) (by omega) ha.eqs.pols (acc:=[]) (by simp)
 have hlen:((a.eqs.filter (missB b ev false)).map (mk5 false)).length≤1000:=by rw [List.length_map]; exact Nat.le_trans (List.length_filter_le _ _) (by omega)
 have h2:=miss2_inner hb ev 1 (l:=a.neqs) (by omega) ha.neqs.pols (acc:=(a.eqs.filter (missB b ev false)).map (mk5 false)) hlen
 show (Comp.next _ _).wp _
 refine Comp.loop_fold ?_
 rw [Comp.wp_ite,if_pos (by show (0:Int) < ((2:Nat):Int); decide)]
 refine ⟨a.eqs,⟨by omega,rfl⟩,h1.then ?_⟩
 refine Comp.loop_fold ?_
 rw [Comp.wp_ite,if_pos (by show IntKind.i64.wrap (0 + 1) < ((2:Nat):Int); decide)]
 refine ⟨a.neqs,⟨by decide,rfl⟩,h2.then ?_⟩
 refine Comp.loop_fold ?_
 rw [Comp.wp_ite,if_neg (by show ¬ IntKind.i64.wrap (IntKind.i64.wrap (0 + 1) + 1) < ((2:Nat):Int); decide)]
 rfl
theorem Equal_ret {a b:List ByteArray} (ha:a.length≤100):(ZU a b).Ret (decide (a=b)):=by
 unfold ZU
 by_cases hlen:a.length=b.length
 ·rw [if_neg (fun k=>k (by omega))]
  refine Comp.loop_idx a.length (fun k s=>s=(k:Int)∧a.take k=b.take k) (fun k s hk hs=>?_) (fun s hs=>?_) ⟨rfl,rfl⟩
  ·obtain ⟨rfl,he⟩:=hs
   have hk2:k < b.length:=by omega
   rw [Comp.wp_ite,if_pos (by omega)]
   refine ⟨a[k],idxN hk,b[k],idxN hk2,?_⟩
   rw [Comp.wp_ite]
   by_cases e:a[k] = b[k]
   ·rw [if_neg (fun k=>k e)]
    refine ⟨wrapN (by omega),?_⟩
    rw [← List.take_append_getElem hk,← List.take_append_getElem hk2,he,e]
   ·rw [if_pos e]
    show _=_
    refine (decide_eq_false fun k'=>e ?_).symm
    simp only [k']
  ·obtain ⟨rfl,he⟩:=hs
   rw [Comp.wp_ite,if_neg (by omega)]
   show _=_
   refine (decide_eq_true ?_).symm
   rw [List.take_length,hlen,List.take_length] at he
   exact he
 ·rw [if_pos (fun k=>hlen (by omega))]
  exact (decide_eq_false fun k=>hlen (by rw [k])).symm
def mk2 (i:Int):Zc:=Zc.mk 2 ByteArray.empty i 0 0 [] false
def mk1 (v:ByteArray) (i:Int):Zc:=Zc.mk 1 v i 0 0 [] false
def dropsF (n k:Nat):List Zc:=(List.range k).map fun (j:Nat)=>mk2 ((n:Int) - 1 - (j:Int))
def addsF (l:List ByteArray) (k:Nat):List Zc:=(List.range k).map fun (j:Nat)=>mk1 (l.getD j ByteArray.empty) (j:Int)
def diffF (a b:Zb):List Zc:=
 ((a.eqs.filter (missB b (decide (¬ a.vars=b.vars)) false)).map mk6++(a.neqs.filter (missB b (decide (¬ a.vars=b.vars)) true)).map mk6)
 ++ (if a.vars=b.vars then [] else dropsF a.vars.length a.vars.length++addsF b.vars b.vars.length)
 ++ ((b.eqs.filter (missB a (decide (¬ a.vars=b.vars)) false)).map (mk5 false)++(b.neqs.filter (missB a (decide (¬ a.vars=b.vars)) true)).map (mk5 true))
theorem len_miss (b:Zb) (ev i:Bool) (l:List Za) (mk:Za→Zc):((l.filter (missB b ev i)).map mk).length≤l.length:=by rw [List.length_map]; exact List.length_filter_le _ _
theorem drops_loop {n:Nat} (hn:n≤4) {acc:List Zc} (ha:acc.length≤1000):(Zes (acc,IntKind.i64.wrap ((n:Int) - 1))).Ret (acc++dropsF n n):=by
 refine Comp.loop_idx n (fun k s=>s=(acc++dropsF n k,(n:Int) - 1 - (k:Int))) (fun k s hk hs=>?_) (fun s hs=>?_) (by rw [wrap64 (by omega)]; simp [dropsF])
 ·subst hs
  have hlen:(dropsF n k).length=k:=by simp [dropsF]
  show (if 0≤(n:Int) - 1 - (k:Int) then _ else _:Comp _).wp _
  rw [Comp.wp_ite,if_pos (by omega)]
  refine ⟨by simp [small]; omega,?_⟩
  show _=_
  rw [wrap64 (by omega)]
  refine Prod.ext ?_ (by simp only; omega)
  show acc++dropsF n k++[mk2 ((n:Int) - 1 - (k:Int))] = acc++dropsF n (k + 1)
  unfold dropsF
  rw [List.range_succ,List.map_append,List.append_assoc]; rfl
 ·subst hs
  show (if 0≤(n:Int) - 1 - (n:Int) then _ else _:Comp _).wp _
  rw [Comp.wp_ite,if_neg (by omega)]
  rfl
theorem adds_loop {b:Zb} (hb:b.vars.length≤4) {acc:List Zc} (ha:acc.length≤1000):(Zer b (acc,0)).Ret (acc++addsF b.vars b.vars.length):=by
 refine Comp.loop_idx b.vars.length (fun k s=>s=(acc++addsF b.vars k,(k:Int))) (fun k s hk hs=>?_) (fun s hs=>?_) (by simp [addsF])
 ·subst hs
  have hlen:(addsF b.vars k).length=k:=by simp [addsF]
  show (if (k:Int) < (b.vars.length:Int) then _ else _:Comp _).wp _
  rw [Comp.wp_ite,if_pos (by omega)]
  refine ⟨b.vars[k],idxN hk,by simp [small]; omega,?_⟩
  show _=_
  rw [wrapN (by omega)]
  refine Prod.ext ?_ rfl
  show acc++addsF b.vars k++[mk1 b.vars[k] (k:Int)] = acc++addsF b.vars (k + 1)
  unfold addsF
  rw [List.range_succ,List.map_append,List.append_assoc]
  show _=acc++(_++[mk1 (b.vars.getD k ByteArray.empty) (k:Int)])
  rw [getD_eq hk]
 ·subst hs
  show (if ((b.vars.length:Nat):Int) < (b.vars.length:Int) then _ else _:Comp _).wp _
  rw [Comp.wp_ite,if_neg (by omega)]
  rfl
theorem Diff_ret {a b:Zb} (ha:Good a) (hb:Good b):(Zeq a b).Ret (diffF a b,0):=by
 have hv:=ha.vars
 have hw:=hb.vars
 have a1:=ha.eqs.len
 have a2:=ha.neqs.len
 have b1:=hb.eqs.len
 have b2:=hb.neqs.len
 refine ⟨true,Valid_yes_sys ha,true,Valid_yes_sys hb,?_⟩
 rw [Comp.wp_ite,if_neg (by decide)]
 refine ⟨_,Equal_ret (by omega),?_⟩
 unfold diffF
 by_cases e:a.vars=b.vars
 ·rw [decide_eq_true e,decide_eq_false (fun k=>k e),if_pos e]
  refine ⟨_,missing1_ret ha hb _,?_⟩
  rw [Comp.wp_ite,if_neg (by decide)]
  have l1:=len_miss b false false a.eqs mk6
  have l2:=len_miss b false true a.neqs mk6
  have l3:=len_miss a false false b.eqs (mk5 false)
  have l4:=len_miss a false true b.neqs (mk5 true)
  refine ⟨_,missing2_ret hb ha _,?_,?_⟩
  ·simp only [List.length_append,small]
   simp only [Bool.not_true] at *
   omega
  ·rw [List.append_nil]; rfl
 ·rw [decide_eq_false e,decide_eq_true e,if_neg e]
  refine ⟨_,missing1_ret ha hb _,?_⟩
  rw [Comp.wp_ite,if_pos (by decide)]
  have l1:=len_miss b true false a.eqs mk6
  have l2:=len_miss b true true a.neqs mk6
  have l3:=len_miss a true false b.eqs (mk5 false)
  have l4:=len_miss a true true b.neqs (mk5 true)
  have l5:(dropsF a.vars.length a.vars.length).length=a.vars.length:=by simp [dropsF]
  have l6:(addsF b.vars b.vars.length).length=b.vars.length:=by simp [addsF]
  refine Comp.Ret.then (drops_loop hv (by simp only [List.length_append]; simp only [Bool.not_false]; omega)) ?_
  refine Comp.Ret.then (adds_loop hw (by simp only [List.length_append]; simp only [Bool.not_false]; omega)) ?_
  refine ⟨_,missing2_ret hb ha _,?_,?_⟩
  ·simp only [List.length_append,small]
   simp only [Bool.not_false] at *
   omega
  ·simp only [List.append_assoc]; rfl
end Go.EL

namespace Go.EL
open Go Go.RowKit
def xM:M:=fun i=>if i.val=0 then 1 else 0
def xxM:M:=fun i=>if i.val=0 then 2 else 0
def oneM:M:=fun _=>0
def sqP:List Zd:=[⟨ratI 1,xxM⟩,⟨ratI (-1),oneM⟩]
theorem san_x:(ZfF 0).Ret [⟨ratI 1,xM⟩]:=runs_ret (n:=40) (by decide +kernel)
theorem san_by:(ZfL [⟨ratI 1,xM⟩] [⟨ratI 1,xM⟩]).Ret [⟨ratI 1,xxM⟩]:=runs_ret (n:=40) (by decide +kernel)
theorem san_int:(Zfo 1).Ret [⟨ratI 1,oneM⟩]:=runs_ret (n:=40) (by decide +kernel)
theorem san_sub:(Zfq [⟨ratI 1,xxM⟩] [⟨ratI 1,oneM⟩]).Ret sqP:=runs_ret (n:=40) (by decide +kernel)
theorem sq_ok:PolOk sqP where
 ord:=by unfold sqP; simp only [List.pairwise_cons,List.mem_singleton,forall_eq,List.not_mem_nil]; exact ⟨by decide +kernel,fun _ h=>absurd h id,List.Pairwise.nil⟩
 trm t ht:=by
  unfold sqP at ht
  rcases List.mem_cons.1 ht with rfl|ht
  ·exact ⟨⟨1,rfl,by decide,by decide,by decide⟩,by decide +kernel⟩
  ·rcases List.mem_cons.1 ht with rfl|ht
   ·exact ⟨⟨-1,rfl,by decide,by decide,by decide⟩,by decide +kernel⟩
   ·exact absurd ht List.not_mem_nil
 len:=by decide
def e1E:Zc:=Zc.mk 1 Zq 0 0 0 [] false
def e2E:Zc:=Zc.mk 5 ByteArray.empty 0 0 0 sqP false
def sanS:Zb:=⟨[Zq],[⟨1,sqP⟩],[],2⟩
theorem san_c1:checkF oneS e1E=0:=by decide +kernel
theorem san_d1:doF oneS e1E = ⟨[Zq],[],[],1⟩:=rfl
theorem san_c2:checkF ⟨[Zq],[],[],1⟩ e2E=0:=by decide +kernel
theorem san_d2:doF ⟨[Zq],[],[],1⟩ e2E=sanS:=rfl
theorem san_all:allF oneS [e1E,e2E] 0 = ⟨sanS,2,0⟩:=by
 unfold allF
 rw [if_pos san_c1,san_d1]
 unfold allF
 rw [if_pos san_c2,san_d2]
 rfl
theorem san_good:Good sanS:=by
 have h1:=one_good.edit (e:=e1E) nil_ok san_c1
 rw [san_d1] at h1
 have h2:=h1.edit (e:=e2E) sq_ok san_c2
 rwa [san_d2] at h2
def e3E:Zc:=Zc.mk 2 ByteArray.empty 0 0 0 [] false
def e4E:Zc:=Zc.mk 5 ByteArray.empty 0 0 0 [] false
theorem kind_ok {e:Zc} (h:-1000≤e.kind∧e.kind≤1000):KindOk e:=h
theorem san_3:(applyF sanS e3E).2=333:=by decide +kernel
theorem san_4:checkF sanS e4E=0:=by decide +kernel
theorem san_5:(applyF oneS zeroEd).2=1:=by decide +kernel
theorem sanity_ret:Zc3.Ret true:=by
 have hd:(ZT oneS [e1E,e2E]).Ret ⟨sanS,2,0⟩:=by
  rw [← san_all]
  refine done_ret (by simp) (fun e he=>?_) one_good
  rcases List.mem_cons.1 he with rfl|he
  ·exact ⟨nil_ok,kind_ok (by decide)⟩
  ·rcases List.mem_cons.1 he with rfl|he
   ·exact ⟨sq_ok,kind_ok (by decide)⟩
   ·exact absurd he List.not_mem_nil
 refine ⟨_,san_x,_,san_x,_,san_by,_,san_int,_,san_sub,⟨sanS,2,0⟩,hd,?_⟩
 rw [Comp.wp_ite,if_neg (fun k=>k rfl),Comp.wp_ite,if_neg (fun k=>k rfl),Comp.wp_ite,if_neg (fun k=>k rfl),Comp.wp_ite,if_neg (fun k=>k rfl)]
 refine ⟨⟨1,sqP⟩,⟨by decide,rfl⟩,?_⟩
 rw [Comp.wp_ite,if_neg (fun k=>k rfl),Comp.wp_ite,if_neg (fun k=>k rfl)]
 refine ⟨⟨1,sqP⟩,⟨by decide,rfl⟩,true,SameP_ret sq_ok,?_⟩
 rw [Comp.wp_ite,if_neg (by decide)]
 refine ⟨_,Apply_ret san_good (e:=e3E) nil_ok (kind_ok (by decide)),_,Inverse_ret san_good (e:=e4E) nil_ok (kind_ok (by decide)),_,Apply_ret one_good (e:=zeroEd) nil_ok (kind_ok (by decide)),_,Diff_ret one_good one_good,?_⟩
 rw [Comp.wp_ite,if_pos san_3]
 have e4:invF sanS e4E=(⟨6,ByteArray.empty,0,0,2,[],false⟩,0):=by unfold invF; rw [if_pos san_4]; rfl
 rw [e4,Comp.wp_ite,if_pos rfl]
 refine ⟨true,SameEdit_ret nil_ok,?_⟩
 show (if _ then _ else _:Comp _).wp _
 rw [Comp.wp_ite,if_pos san_5,Comp.wp_ite,if_pos rfl]
 rfl
structure DescsOk (l:List Zl):Prop where
 ok:∀ x ∈ l,DescOk x
end Go.EL

namespace Go.Proofs.YtenaadodnembpaaGreat
open Go Go.EL Go.RowKit Go.Proofs
def ok26 (x:Zx):Prop:=(∀ y ∈ x.t,∀ i,(Lit.int .i8 (y i)).wf=true)
def ok76 (x:Zl):Prop:=((Lit.int .u8 x.kind).wf=true)∧((Lit.int .u8 x.a).wf=true)∧((Lit.int .u8 x.b).wf=true)∧((Lit.int .u8 x.n).wf=true)∧(ok26 x.p)
def ok28 (x:ZD):Prop:=((Lit.int .i8 x.kind).wf=true)∧((Lit.int .i8 x.at').wf=true)∧((Lit.int .i8 x.to').wf=true)∧((Lit.int .i8 x.id).wf=true)∧(True)∧(ok26 x.p)∧(True)
theorem opens26 (W:World):Opens Tryz.prog W 26 Zc5 (ok26):=by
 have h:=Opens.struct (W:=W) Tryz.underlying26 (by kernel_rfl) (OpensF.last rfl (by kernel_rfl) (Opens.sl Tryz.underlying24 (by kernel_rfl) (by decide) (Opens.vec Tryz.underlying112 Tryz.underlying23 (by kernel_rfl) (by kernel_rfl)))) (fun (x:Zx)=>x.t) (fun y=>⟨y⟩) (fun _=>rfl)
 exact h
theorem opens76 (W:World):Opens Tryz.prog W 76 ZbY (ok76):=by
 have h:=Opens.struct (W:=W) Tryz.underlying76 (by kernel_rfl) (OpensF.cons rfl (by kernel_rfl) (Opens.int Tryz.underlying5) (OpensF.cons rfl (by kernel_rfl) (Opens.int Tryz.underlying5) (OpensF.cons rfl (by kernel_rfl) (Opens.int Tryz.underlying5) (OpensF.cons rfl (by kernel_rfl) (Opens.int Tryz.underlying5) (OpensF.last rfl (by kernel_rfl) (opens26 W)))))) (fun (x:Zl)=>(x.kind,x.a,x.b,x.n,x.p)) (fun y=>⟨y.1,y.2.1,y.2.2.1,y.2.2.2.1,y.2.2.2.2⟩) (fun _=>rfl)
 exact h
theorem opens28 (W:World):Opens Tryz.prog W 28 ZeD (ok28):=by
 have h:=Opens.struct (W:=W) Tryz.underlying28 (by kernel_rfl) (OpensF.cons rfl (by kernel_rfl) (Opens.int Tryz.underlying23) (OpensF.cons rfl (by kernel_rfl) (Opens.int Tryz.underlying23) (OpensF.cons rfl (by kernel_rfl) (Opens.int Tryz.underlying23) (OpensF.cons rfl (by kernel_rfl) (Opens.int Tryz.underlying23) (OpensF.cons rfl (by kernel_rfl) (Opens.str Tryz.underlying9) (OpensF.cons rfl (by kernel_rfl) (opens26 W) (OpensF.last rfl (by kernel_rfl) (Opens.bool Tryz.underlying4)))))))) (fun (x:ZD)=>(x.kind,x.at',x.to',x.id,x.name,x.p,x.neq)) (fun y=>⟨y.1,y.2.1,y.2.2.1,y.2.2.2.1,y.2.2.2.2.1,y.2.2.2.2.2.1,y.2.2.2.2.2.2⟩) (fun _=>rfl)
 exact h
theorem raw_of {x:Zx} (h:ok26 x):RawOk x:=fun v hv j=>wf_i8 (h v hv j)
theorem desc_of {x:Zl} (h:ok76 x):DescOk x:=⟨wf_u8 h.1,wf_u8 h.2.1,wf_u8 h.2.2.1,wf_u8 h.2.2.2.1,raw_of h.2.2.2.2⟩
theorem odd_of {x:ZD} (h:ok28 x):OddOk x:=⟨wf_i8 h.1,raw_of h.2.2.2.2.2.1⟩
set_option maxRecDepth 100000 in
theorem open_raw {W:World} {base:Nat} {v:Value} {H:Type} {enc:TypeId×Value→H} {b:Nat} {d:DataW H} {ps:List MemPlace} (hok:Value.okWide Tryz.prog W .any base 22 v) (h:DataW.Trod enc Tryz.prog W b (fun _=>true) true 22 v d ps):∃ p cap l,v = .slice p (List.length l) cap∧SlR ZbY (allMem W) (.slice p l.length cap) l∧∀ y ∈ l,DescOk y:=by
 obtain ⟨p,cap,l,h1,h2,h3⟩:=open_slices Tryz.underlying22 (by kernel_rfl) (by decide) (opens76 W) hok h
 exact ⟨p,cap,l,h1,h2,fun y hy=>desc_of (h3 y hy)⟩
set_option maxRecDepth 100000 in
theorem open_odd {W:World} {base:Nat} {v:Value} {H:Type} {enc:TypeId×Value→H} {b:Nat} {d:DataW H} {ps:List MemPlace} (hok:Value.okWide Tryz.prog W .any base 28 v) (h:DataW.Trod enc Tryz.prog W b (fun _=>true) true 28 v d ps):∃ (x:ZD) (p:Option Addr) (cap:Nat),v = .agg ([.int .i8 x.kind,.int .i8 x.at',.int .i8 x.to',.int .i8 x.id,.string x.name,.slice p x.p.t.length cap,.bool x.neq]).toArray∧SlR (Rp.vec .i8 5) (allMem W) (.slice p x.p.t.length cap) x.p.t∧OddOk x:=by
 obtain ⟨cs,x,rfl,h2,h3⟩:=open_struct Tryz.underlying28 (opens28 W) hok h
 obtain ⟨p,cap,k1,k2⟩:=ZfQ (K:=fun j u=>cs[j]? = some u) (atK_self h2)
 exact ⟨x,p,cap,by rw [cells_eq h2 (by rfl) k1],k2,odd_of h3⟩
end Go.Proofs.YtenaadodnembpaaGreat

namespace Go.Proofs
open Go.Shelf
def Tryz.sortL_ren:Go.Shelf.Ren:=⟨fun|14=>209|20=>221|21=>222|22=>223|23=>224|24=>225|25=>226|26=>227|27=>228|46=>231|47=>232|48=>233|49=>234|50=>235|15=>210|57=>236|28=>229|29=>230|n=>n,fun|24=>101|22=>37|3=>3|25=>198|4=>4|0=>0|46=>217|45=>216|50=>169|66=>223|39=>152|55=>155|70=>227|76=>229|77=>230|53=>156|5=>5|9=>9|n=>n,fun|n=>n⟩
theorem Tryz.sortL:Go.Proofs.SlLaysF0.n14 Tryz.prog Tryz.sortL_ren:={
 mixed:=by kernel_rfl
 f14:=⟨Tryz.f209.name,by decide,Tryz.func209.trans (congrArg some (by kernel_rfl))⟩
 f15:=Tryz.func210.trans (congrArg some (by kernel_rfl))
 f20:=⟨Tryz.f221.name,by decide,Tryz.func221.trans (congrArg some (by kernel_rfl))⟩
 f21:=⟨Tryz.f222.name,by decide,Tryz.func222.trans (congrArg some (by kernel_rfl))⟩
 f22:=⟨Tryz.f223.name,by decide,Tryz.func223.trans (congrArg some (by kernel_rfl))⟩
 f23:=⟨Tryz.f224.name,by decide,Tryz.func224.trans (congrArg some (by kernel_rfl))⟩
 f24:=⟨Tryz.f225.name,by decide,Tryz.func225.trans (congrArg some (by kernel_rfl))⟩
 f25:=⟨Tryz.f226.name,by decide,Tryz.func226.trans (congrArg some (by kernel_rfl))⟩
 f26:=⟨Tryz.f227.name,by decide,Tryz.func227.trans (congrArg some (by kernel_rfl))⟩
 f27:=⟨Tryz.f228.name,by decide,Tryz.func228.trans (congrArg some (by kernel_rfl))⟩
 f28:=Tryz.func229.trans (congrArg some (by kernel_rfl))
 f29:=Tryz.func230.trans (congrArg some (by kernel_rfl))
 f46:=⟨Tryz.f231.name,by decide,Tryz.func231.trans (congrArg some (by kernel_rfl))⟩
 f47:=Tryz.func232.trans (congrArg some (by kernel_rfl))
 f48:=Tryz.func233.trans (congrArg some (by kernel_rfl))
 f49:=⟨Tryz.f234.name,by decide,Tryz.func234.trans (congrArg some (by kernel_rfl))⟩
 f50:=⟨Tryz.f235.name,by decide,Tryz.func235.trans (congrArg some (by kernel_rfl))⟩
 f57:=⟨Tryz.f236.name,by decide,Tryz.func236.trans (congrArg some (by kernel_rfl))⟩
 t0:=Tryz.underlying0
 a0:=Tryz.isAgg0
 z0:=Tryz.sizeOf0
 v0:=Tryz.zeroValue0
 t3:=Tryz.underlying3
 a3:=Tryz.isAgg3
 z3:=Tryz.sizeOf3
 v3:=Tryz.zeroValue3
 t4:=Tryz.underlying4
 a4:=Tryz.isAgg4
 z4:=Tryz.sizeOf4
 v4:=Tryz.zeroValue4
 t5:=Tryz.underlying5
 a5:=Tryz.isAgg5
 z5:=Tryz.sizeOf5
 v5:=Tryz.zeroValue5
 t9:=Tryz.underlying9
 a9:=Tryz.isAgg9
 z9:=Tryz.sizeOf9
 v9:=Tryz.zeroValue9
 t22:=Tryz.underlying37
 a22:=Tryz.isAgg37
 z22:=Tryz.sizeOf37
 v22:=Tryz.zeroValue37
 t25:=Tryz.underlying198
 a25:=Tryz.isAgg198
 z25:=Tryz.sizeOf198
 v25:=Tryz.zeroValue198
 t39:=Tryz.underlying152
 a39:=Tryz.isAgg152
 z39:=Tryz.sizeOf152
 v39:=Tryz.zeroValue152
 t45:=Tryz.underlying216
 a45:=Tryz.isAgg216
 z45:=Tryz.sizeOf216
 v45:=Tryz.zeroValue216
 t46:=Tryz.underlying217
 a46:=Tryz.isAgg217
 z46:=Tryz.sizeOf217
 v46:=Tryz.zeroValue217
 t50:=Tryz.underlying169
 a50:=Tryz.isAgg169
 z50:=Tryz.sizeOf169
 v50:=Tryz.zeroValue169
 t53:=Tryz.underlying156
 a53:=Tryz.isAgg156
 z53:=Tryz.sizeOf156
 v53:=Tryz.zeroValue156
 t55:=Tryz.underlying155
 a55:=Tryz.isAgg155
 z55:=Tryz.sizeOf155
 v55:=Tryz.zeroValue155
 t66:=Tryz.underlying223
 a66:=Tryz.isAgg223
 z66:=Tryz.sizeOf223
 v66:=Tryz.zeroValue223
 t70:=Tryz.underlying227
 a70:=Tryz.isAgg227
 z70:=Tryz.sizeOf227
 v70:=Tryz.zeroValue227
 t76:=Tryz.underlying229
 a76:=Tryz.isAgg229
 z76:=Tryz.sizeOf229
 v76:=Tryz.zeroValue229
 t77:=Tryz.underlying230
 a77:=Tryz.isAgg230
 z77:=Tryz.sizeOf230
 v77:=Tryz.zeroValue230 }
end Go.Proofs

namespace Go.Proofs.YtenaadodnembpaaGreat
open Go Go.EL Go.RowKit Go.Proofs
abbrev i' (x:Int):Value:=.int .i64 x
abbrev sl {α:Type} (r:Rp α) (G:Mem) (p:Option Addr) (c:Nat) (xs:List α):Prop:=SlR r G (.slice p xs.length c) xs
abbrev v58' (x:Ze) (magp:Option Addr) (magc:Nat):List Value:=[.bool x.neg,.slice magp x.mag.length magc]
abbrev v68' {α:Type} (i:Int) (p:Option Addr) (xs:List α) (c:Nat):List Value:=[.int .i64 i,.slice p xs.length c]
abbrev v33' (x:Zb) (varsp:Option Addr) (varsc:Nat) (eqsp:Option Addr) (eqsc:Nat) (neqsp:Option Addr) (neqsc:Nat):List Value:=[.slice varsp x.vars.length varsc,.slice eqsp x.eqs.length eqsc,.slice neqsp x.neqs.length neqsc,.int .i64 x.next]
abbrev a':=@Zac
abbrev b':=@Y0.loadL
abbrev e':=@WE.then
abbrev f':=@Y0.move
abbrev g':=@WE.thenRet
abbrev h':=@WC.seq
abbrev j':=@WC.ret
abbrev k':=@WE.ret1
abbrev l':=@Y0.pickF
abbrev m':=@Y0.pickT
abbrev n':=@WE.thenExit
abbrev o':=@WC.skip
abbrev q':=@Tryz.underlying31
abbrev r':=@Zaz
abbrev s':=@YC.of
abbrev t':=@Y0.loadLA
abbrev u':=@WL.nil
abbrev v':=@WL.storeLA
abbrev w':=@WC.region
abbrev x':=@WE.inBlockRet
abbrev y':=@Tryz.underlying56
abbrev A':=@Tryz.underlying30
abbrev B':=@WC.block
abbrev C':=@Ctr.enter
abbrev D':=@WE.inBlock
abbrev E':=@At.mono
abbrev F':=@WL.call0
abbrev H':=@guard_yes
abbrev I':=@WC.cr
abbrev J':=@WE.exitHere
abbrev K':=@Y0.extract
abbrev L':=@Y0.lenR
abbrev M':=@WL.call
abbrev N':=@Y0.add
abbrev O':=@vecG_size
abbrev P':=@WE.backR
abbrev Q':=@Y0.idxR
abbrev R':=@Tryz.underlying38
abbrev T':=@WL.alloc
abbrev U':=@Y0.loadG
abbrev V':=@Y0.lss
abbrev W':=@WL.box
abbrev X':=@Chain.tail0
abbrev Y':=@WC.drawn
abbrev Z':=@SlR.at
abbrev aa':=@WC.meetH
abbrev ab':=@WC.loopR
abbrev ac':=@RV.cellA
abbrev ad':=@WC.exit
abbrev ae':=@WE.endH
abbrev af':=@guard_undef
abbrev ag':=@ZeR
abbrev ah':=@SlR.nil
abbrev ai':=@ag33
abbrev aj':=@WL.cr
abbrev ak':=@Y0.eql
abbrev al':=@Tryz.underlying155
abbrev am':=@WE.nx
abbrev an':=@Tryz.underlying156
abbrev ao':=@Y0.not
abbrev ap':=@WE.midH
abbrev aq':=@Y0.build
abbrev ar':=@Y0.fa33_0
abbrev as':=@Tryz.underlying35
abbrev at':=@WC.condT
abbrev au':=@WL.storeL
abbrev av':=@Y0.loadLP
abbrev aw':=@Y0.loadGA
abbrev ax':=@Y0.fa33_1
abbrev ay':=@Y0.fa40_2
abbrev az':=@Tryz.underlying3
abbrev aA':=@WE.conseq
abbrev aB':=@WL.skip
abbrev aC':=@AtK.int
abbrev aD':=@Chain.callU
abbrev aE':=@WE.ret2
abbrev aF':=@AtK.via
abbrev aG':=@Tryz.underlying99
abbrev aH':=@Y0.conv
abbrev aI':=@WE.endRet
abbrev aJ':=@Y0.fa40_4
abbrev aK':=@AtK.snd
abbrev aL':=@Y0.fa33_2
abbrev aM':=@part_at
abbrev aN':=@WC.crB
abbrev aO':=@Y0.fa58_1
abbrev aP':=@sz68
abbrev aQ':=@Tryz.underlying9
abbrev aR':=@Y0.neq
abbrev aS':=@sc31
abbrev aT':=@CtrL.enter
abbrev aU':=@WL.litR
abbrev aV':=@WC.seqH
abbrev aW':=@Y0.idxA0
abbrev aX':=@Y0.idxRow
abbrev aY':=@Tryz.underlying83
abbrev aZ':=@sz33
abbrev ba':=@Ze9
abbrev bb':=@Y0.fa68_0
abbrev bc':=@Y0.geq
abbrev bd':=@Y0.sub
abbrev be':=@AtK.fst
abbrev bf':=@Y0.fa33_3
abbrev bg':=@WC.condF
abbrev bh':=@sz156
abbrev bi':=@Tryz.underlying5
abbrev bj':=@Chain.y0UU
abbrev bk':=@ag58
abbrev bl':=@Y0.fa58_0
abbrev bm':=@Y0.fa101_1
abbrev bn':=@sc30
abbrev bp':=@Zd9
abbrev bq':=@Chain.alloc
abbrev br':=@Y0.gtr
abbrev bs':=@Y0.fa68_1
abbrev bt':=@WL.conseq
abbrev bu':=@WL.freezeT
abbrev bv':=@Tryz.underlying117
abbrev bw':=@ag40
abbrev bx':=@WL.storeT
abbrev by':=@vecG_at
abbrev bz':=@Y0.leq
abbrev bA':=@WC.knowBox
abbrev bB':=@Chain.call0
abbrev bC':=@sc156
abbrev bD':=@sz101
abbrev bF':=@AtK.str
abbrev bG':=@sc56
abbrev bH':=@Tryz.underlying4
abbrev bI':=@ag68
abbrev bJ':=@sz40
abbrev bK':=@Y0.makeFunc
abbrev bL':=@Y0.rem
abbrev bM':=@Y0.fa40_1
abbrev bN':=@Y0.fa40_0
abbrev bO':=@WL.appendT
abbrev bP':=@vecG_put
abbrev bQ':=@sc38
abbrev bS':=@ag99
abbrev bT':=@Chain.floatUD
abbrev bU':=@ZbY
abbrev bV':=@Tryz.underlying79
abbrev bW':=@Y0.fa60_1
abbrev bX':=@FnRd.form
abbrev bY':=@Chain.cr
abbrev bZ':=@WL.unX
abbrev ca':=@AtK.sl
abbrev cc':=@WL.callT
abbrev ce':=@Y0.fa101_0
abbrev ch':=@At.box
abbrev ci':=@ag60
abbrev cj':=@WL.adopt
abbrev ck':=@Y0.fa50_0
abbrev cl':=@Chain.tailU1
abbrev cm':=@Chain.tailX4
abbrev cn':=@Y0.fa60_0
abbrev cp':=@Y0.fa40_3
abbrev cr':=@sz31
abbrev cu':=@Tryz.underlying23
abbrev cv':=@Rp.vec
abbrev cA':=@WL.appendR
abbrev cB':=@Zf6
abbrev cD':=@Y0.fa40_5
abbrev cF':=@RowR.at
abbrev cH':=@YC.ofV
abbrev cI':=@Y0.eq
abbrev cJ':=@Chain.float
abbrev cK':=@WL.forget
abbrev cL':=@Zf5
abbrev cM':=@Y0.slcN
abbrev cN':=@SlR.std
abbrev cR':=@Chain.callUU
abbrev cS':=@Chain.floatB
abbrev cV':=@SlR.eqv
abbrev cW':=@AtK.vec
abbrev cY':=@Y0.fa40_6
abbrev db':=@Chain.tailU2
abbrev dc':=@FnR.of0
abbrev dd':=@Ctr.pre
abbrev dg':=@Y0.indexS
abbrev dh':=@Y0.fa50_2
abbrev di':=@WL.copyOwn
abbrev ds':=@Chain.appendOwn
abbrev dt':=@WL.mapIns
abbrev du':=@Chain.tailX2
abbrev dw':=@Tryz.underlying152
abbrev dx':=@Tryz.underlying176
abbrev dz':=@Zgj
abbrev dB':=@WE.freezeT
abbrev dE':=@Tryz.underlying22
abbrev dF':=@Y0.quo
abbrev dG':=@Y0.mul
abbrev dK':=@WC.condD
abbrev dL':=@Tryz.underlying2
abbrev dM':=@WL.makeT
abbrev dN':=@Y0.loadT
abbrev dP':=@Y0.lenC
abbrev dQ':=@Y0.lenRow
abbrev dR':=@Y0.loadTA
abbrev dU':=@ZcF
abbrev dX':=@ZcE
abbrev ea':=@RowR.nil
abbrev eb':=@Y0.neqB
abbrev ec':=@Tok.full
abbrev el':=@Tryz.underlying186
abbrev ep':=@Y0.fa50_1
abbrev eq':=@Chain.callROU
abbrev er':=@ZfC
abbrev ew':=@Tryz.underlying24
abbrev ey':=@Chain.litU
end Go.Proofs.YtenaadodnembpaaGreat

