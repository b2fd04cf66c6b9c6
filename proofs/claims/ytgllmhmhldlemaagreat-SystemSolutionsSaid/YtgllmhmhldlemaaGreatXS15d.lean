/- The law SystemSolutions holds for every input: a part of its proof (what the code does, plain models, and what they return). No condition. -/
import Derived.Test.YtgllmhmhldlemaaGreatXS15c
import Derived.Test.YtgllmhmhldlemaaGreatXS15b
import Derived.Shelf.SlGeneric
import Derived.Shelf.SlLaysF0
import Derived.Shelf.SlLaysF
import Derived.Ground.SlsfProg
import Derived.Test.YtgllmhmhldlemaaGreatProg
set_option linter.unusedVariables false
set_option linter.unusedSimpArgs false
namespace Go.EL
open Go.IntKind (i8 i16 i32 i64 u8 u16 u32 u64)
open Go Go.RowKit
def gcdTo:List Za->Nat
 | []=>0
 | t::p=>Nat.gcd (numC t.c).natAbs (gcdTo p)
def sgnP(p:List Za):Int:=match p with
 | []=>1
 | t::_=>if numC t.c<0 then -1 else 1
def quoC(s:Int)(g:Nat)(c:Zc):Zc:=ratI (s*(numC c / (g:Int)))
def primP(p:List Za):List Za:=p.map fun t=>⟨quoC (sgnP p) (gcdTo p) t.c,t.m⟩
theorem ZoN:(between 0 12 fun a=>between (-12) 12 fun b=>runs 60 (Za1 (intI a) (intI b)) (intI (Nat.gcd a.natAbs b.natAbs:Nat)))=true:=by decide +kernel
theorem ZoO:(between 1 12 fun g=>runs 60 (Zdb (intI 1) (intI g)) (⟨intI 1,intI g⟩,0) && runs 60 (Zdb (intI (-1)) (intI g)) (⟨intI (-1),intI g⟩,0))=true:=by decide +kernel
theorem ZnI:(between 1 12 fun g=>between (-12) 12 fun n=>n == 0 || n % g != 0 || (runs 60 (ZaO ⟨intI 1,intI g⟩ (ratI n)) (ratI (1*(n / g))) && runs 60 (ZaO ⟨intI (-1),intI g⟩ (ratI n)) (ratI (-1*(n / g)))))=true:=by decide +kernel
theorem Zf4:(Za1 (intI 1) ⟨false,[1]⟩).Ret (intI 1)/\(Zbb ⟨false,[1]⟩ (intI 1)).Ret (intI 1,intI 0,0)/\(ZdF (intI 1) (intI 1)).Ret (intI 1)/\(Zfc (intI 1)).Ret (intI (-1)):=⟨Cq.Ret.ZG 60 (by decide +kernel),Cq.Ret.ZG 60 (by decide +kernel),Cq.Ret.ZG 60 (by decide +kernel),Cq.Ret.ZG 60 (by decide +kernel)⟩
theorem Zpd:(between 1 12 fun g=>runs 60 (ZH ⟨intI 1,intI g⟩) 1 && runs 60 (ZH ⟨intI (-1),intI g⟩) (-1) && runs 60 (ZbR ⟨intI 1,intI g⟩) 1 && runs 60 (ZbR ⟨intI (-1),intI g⟩) (-1))=true:=by decide +kernel
theorem PolOk.num{p:List Za}(h:PolOk p){t:Za}(ht:t ∈ p):t.c=ratI (numC t.c)/\numC t.c≠0/\-12<=numC t.c/\numC t.c<=12:=by
 obtain⟨⟨n,e,h0,h1,h2⟩,_⟩:=h.trm t ht
 have:numC t.c=n:=by rw[e,Zat]
 rw[this]
 exact⟨e,h0,h1,h2⟩
theorem PolOk.parts{p:List Za}(h:PolOk p){t:Za}(ht:t ∈ p):t.c.num=intI (numC t.c)/\t.c.den=⟨false,[1]⟩:=by
 obtain⟨⟨n,e,_⟩,_⟩:=h.trm t ht
 have:numC t.c=n:=by rw[e,Zat]
 rw[this,e,Zo8]
 exact⟨rfl,rfl⟩
theorem PolOk.good{p:List Za}(h:PolOk p):goodP p=true:=by
 have hl:=h.len
 unfold goodP
 rw[Bool.and_eq_true]
 refine⟨decide_eq_true (by omega),List.all_eq_true.2 fun t ht=>?_⟩
 obtain⟨e,h0,h1,h2⟩:=h.num ht
 rw[e]
 exact ZmK h0 h1 h2
theorem ZdN:∀ {p:List Za}{t:Za},t ∈ p->gcdTo p ∣ (numC t.c).natAbs
 | x::p,t,h=>by
  rcases List.mem_cons.1 h with rfl|h
  .exact Nat.gcd_dvd_left _ _
  exact Nat.dvd_trans (Nat.gcd_dvd_right _ _) (ZdN h)
theorem ZdO{p:List Za}(h:PolOk p)(hne:p≠[]):1<=gcdTo p/\gcdTo p<=12:=by
 match p,hne with
 | t::p,_=>
  have hd:=ZdN (p:=t::p) (t:=t) (by simp)
  obtain⟨e,h0,h1,h2⟩:=h.num (t:=t) (by simp)
  have:=Nat.le_of_dvd (by omega) hd
  have:=Nat.pos_of_dvd_of_pos hd (by omega)
  omega
theorem Zhy{p:List Za}{t:Za}(ht:t ∈ p):numC t.c % (gcdTo p:Int)=0:=Int.emod_eq_zero_of_dvd (Int.ofNat_dvd_left.2 (ZdN ht))
theorem ZhA(p:List Za):sgnP p=1\/sgnP p = -1:=by
 unfold sgnP
 split
 .exact .inl rfl
 split
 .exact .inr rfl
 exact .inl rfl
theorem ZoG(p:List Za)(k:Nat)(h:k<p.length):gcdTo (p.take (k+1))=Nat.gcd (gcdTo (p.take k)) (numC p[k].c).natAbs:=by
 rw[List.take_succ_eq_append_getElem h]
 generalize p.take k=l
 generalize p[k]=t
 induction l with
 | nil=>simp[gcdTo]
 | cons x l ih=>simp only[List.cons_append,gcdTo,ih]; rw[Nat.gcd_assoc]
theorem ZoE{p:List Za}(h:PolOk p)(k:Nat):gcdTo (p.take k)<=12:=by
 by_cases he:p.take k=[]
 .rw[he]; exact Nat.zero_le _
 have hk:∃ t,t ∈ p.take k:=List.exists_mem_of_ne_nil _ he
 obtain⟨t,ht⟩:=hk
 have hd:=ZdN ht
 obtain⟨_,h0,h1,h2⟩:=h.num (List.mem_of_mem_take ht)
 have:=Nat.le_of_dvd (by omega) hd
 omega
theorem ZpR{m:M}(h:Ok m):Ok (mulM (fun _=>0) m):=by rw[mul_zero]; exact h
theorem ok0:Ok fun _=>0:=fun _=>⟨Int.le_refl 0,(by decide:(0:Int)<=65535)⟩
theorem Zix{c:Zc}{f:Zc->Zc}{p:List Za}(hl:p.length<=100)(hm:∀ t ∈ p,Ok t.m){s:Int}(hs:(ZH c).Ret s)(h0:s≠0)(hf:∀ t ∈ p,(ZaO c t.c).Ret (f t.c)):
  (ZcG c (fun _=>0) p).Ret (p.map fun t=>⟨f t.c,t.m⟩,0):=by
 refine⟨s,hs,Cq.wp.no h0 ⟨⟨by omega,by omega⟩,?_⟩⟩
 refine Cq.Zq p.length (fun k s=>s=((p.take k).map fun t=>⟨f t.c,t.m⟩,(k:Int))) (fun k s hk hs=>?_) (fun s hs=>?_) rfl
 .subst hs
  refine Cq.wp.yes (by omega) ⟨p[k],idxN hk,_,Zoo ok0 (hm _ (List.getElem_mem hk)) (ZpR (hm _ (List.getElem_mem hk))),Cq.wp.no (fun h=>h rfl) ⟨_,hf _ (List.getElem_mem hk),?_,?_⟩⟩
  .simp only[List.length_append,List.length_map,List.length_take,List.length_singleton,small]; omega
  show _=_
  rw[wrapN (by omega),mul_zero,List.take_succ_eq_append_getElem hk,List.map_append]
  rfl
 subst hs
 refine Cq.wp.no (by omega) ?_
 show _=_
 rw[List.take_of_length_le (Nat.le_refl _)]
theorem PolOk.mono{p:List Za}(h:PolOk p):∀ t ∈ p,Ok t.m:=fun t ht=>(h.trm t ht).m
theorem ZoL{p:List Za}(hne:0<p.length):(p[0]'hne) ∈ p:=List.getElem_mem hne
theorem Zn5{p:List Za}(hne:0<p.length):sgnP p=if numC (p[0]'hne).c<0 then -1 else 1:=by
 match p,hne with
 | t::p,_=>rfl
theorem ZfK{p:List Za}(h:PolOk p)(hne:p≠[]):(Zcq p).Ret (primP p):=by
 have hl:=h.len
 have h0:0<p.length:=List.length_pos_iff.2 hne
 obtain⟨g1,g2⟩:=ZdO h hne
 refine Cq.wp.no (by omega) ⟨intI 0,Cq.Ret.ZG 20 (by decide +kernel),intI 1,Cq.Ret.ZG 20 (by decide +kernel),?_⟩
 show (Zft p (0,intI 0,intI 1)).wp _
 refine Cq.Zq p.length (fun k s=>s=((k:Int),intI (gcdTo (p.take k):Int),intI 1)) (fun k s hk hs=>?_) (fun s hs=>?_) rfl
 .subst hs
  obtain⟨e,n0,n1,n2⟩:=h.num (List.getElem_mem hk)
  obtain⟨en,ed⟩:=h.parts (List.getElem_mem hk)
  have hg:=ZoE h k
  have hr:=ZC (ZC ZoN (x:=(gcdTo (p.take k):Int)) (by omega) (by omega)) n1 n2
  refine Cq.wp.yes (by omega) ⟨p[k],idxN hk,intI (Nat.gcd (gcdTo (p.take k):Int).natAbs (numC p[k].c).natAbs:Nat),(by rw[en]; exact Z7 hr),intI 1,(by rw[ed]; exact Zf4.1),(intI 1,intI 0,0),(by rw[ed]; exact Zf4.2.1),intI 1,Zf4.2.2.1,?_⟩
  show _=_
  rw[wrapN (by omega),ZoG p k hk]
  simp only[Int.natAbs_natCast]
 subst hs
 refine Cq.wp.no (by omega) ?_
 rw[List.take_of_length_le (Nat.le_refl _)]
 show (Zdp p (intI (gcdTo p:Int)) (intI 1)).Ret _
 unfold Zdp
 obtain⟨e,n0,n1,n2⟩:=h.num (ZoL h0)
 have hs:=ZC Zj2 n1 n2
 rw[show (numC p[0].c == 0)=false by simpa using n0,Bool.false_or] at hs
 have hn:=ZC ZoO (x:=(gcdTo p:Int)) (by omega) (by omega)
 have hq:=ZC Zpd (x:=(gcdTo p:Int)) (by omega) (by omega)
 simp only[Bool.and_eq_true] at hn hq
 have hm:∀ t ∈ p,(ZaO ⟨intI 1,intI (gcdTo p:Int)⟩ t.c).Ret (quoC 1 (gcdTo p) t.c)/\(ZaO ⟨intI (-1),intI (gcdTo p:Int)⟩ t.c).Ret (quoC (-1) (gcdTo p) t.c):=fun t ht=>by
  obtain⟨e,n0,n1,n2⟩:=h.num ht
  have:=ZC (ZC ZnI (x:=(gcdTo p:Int)) (by omega) (by omega)) n1 n2
  rw[show (numC t.c == 0)=false by simpa using n0,show (numC t.c % (gcdTo p:Int) != 0)=false by simpa using Zhy ht,Bool.false_or,Bool.false_or,Bool.and_eq_true] at this
  unfold quoC
  rw[e,Zat]
  exact⟨Z7 this.1,Z7 this.2⟩
 refine⟨p[0],⟨by omega,by simp[h0]⟩,_,(by rw[e]; exact Z7 hs),?_⟩
 unfold primP
 rw[Zn5 h0]
 by_cases hneg:numC p[0].c<0
 .rw[if_pos hneg,if_pos hneg]
  refine Cq.wp.yes (by decide) ⟨_,Zf4.2.2.2,?_⟩
  exact⟨_,Z7 hn.2,_,Zix hl h.mono (Z7 hq.1.1.2) (by decide) (fun t ht=>(hm t ht).2),rfl⟩
 rw[if_neg hneg,if_neg hneg,if_neg n0]
 refine Cq.wp.no (by decide) ?_
 exact⟨_,Z7 hn.1,_,Zix hl h.mono (Z7 hq.1.1.1) (by decide) (fun t ht=>(hm t ht).1),rfl⟩
end Go.EL

namespace Go.EL
open Go.IntKind (i8 i16 i32 i64 u8 u16 u32 u64)
open Go Go.RowKit
theorem Zla(s:Int)(g:Nat)(c:Zc):numC (quoC s g c)=s*(numC c / (g:Int)):=Zat _
theorem Zn1{n:Int}{g:Nat}(hg:1<=g)(hd:n % (g:Int)=0)(h0:n≠0):n / (g:Int)≠0:=fun h=>by
 have:=Int.mul_ediv_add_emod n g
 rw[h,hd] at this
 simp at this
 exact h0 this.symm
theorem Zqn{n:Int}{g:Nat}(hg:1<=g)(h1:-12<=n)(h2:n<=12):-12<=n / (g:Int)/\n / (g:Int)<=12:=by
 refine⟨(Int.le_ediv_iff_mul_le (by omega)).2 ?_,Int.le_trans (Int.ediv_le_ediv (by omega) h2) (Int.ediv_le_self _ (by decide))⟩
 have:(g:Int)*12 ≥ 12:=by omega
 omega
theorem Ziq(p:List Za):(primP p).length=p.length:=List.length_map _
theorem Zgf{p:List Za}:primP p=[]↔p=[]:=by unfold primP; simp
theorem Zo6{p:List Za}{t:Za}(h:t ∈ primP p):∃ x ∈ p,t=⟨quoC (sgnP p) (gcdTo p) x.c,x.m⟩:=by
 obtain⟨x,h1,h2⟩:=List.mem_map.1 h
 exact⟨x,h1,h2.symm⟩
theorem Zej{p:List Za}(h:PolOk p):PolOk (primP p) where
 ord:=by
  unfold primP
  rw[List.pairwise_map]
  exact h.ord
 trm:=fun t ht=>by
  obtain⟨x,hx,rfl⟩:=Zo6 ht
  have hne:p≠[]:=fun e=>by rw[e] at hx; cases hx
  obtain⟨g1,g2⟩:=ZdO h hne
  obtain⟨e,n0,n1,n2⟩:=h.num hx
  have q0:=Zn1 g1 (Zhy hx) n0
  obtain⟨q1,q2⟩:=Zqn (g:=gcdTo p) g1 n1 n2
  refine⟨⟨_,rfl,?_,?_,?_⟩,h.mono x hx⟩
  all_goals rcases ZhA p with s|s <;> rw[s] <;> omega
 len:=by rw[Ziq]; exact h.len
theorem Zjc(p:List Za):∀ k,degPTo (primP p) k=degPTo p k
 | 0=>rfl
 | k+1=>by
  unfold degPTo
  rw[Zjc p k]
  unfold primP
  rw[List.getElem?_map]
  cases p[k]? <;> rfl
theorem Zdx(p:List Za):degP (primP p)=degP p:=by unfold degP; rw[Ziq,Zjc]
theorem Zh3(p:List Za):∀ k,usesTo (primP p) k=usesTo p k
 | 0=>rfl
 | k+1=>by
  unfold usesTo
  rw[Zh3 p k]
  unfold primP
  rw[List.getElem?_map]
  cases p[k]? <;> rfl
theorem Zn0(p:List Za):usesP (primP p)=usesP p:=by unfold usesP; rw[Ziq,Zh3]
theorem Zlh(p:List Za)(n:Int):fitB (primP p) n=fitB p n:=by unfold fitB; rw[Zn0,Zdx]
theorem ZjT{s:Int}(hs:s=1\/s = -1){g:Nat}(hg:1<=g):∀ {p:List Za},(∀ t ∈ p,numC t.c % (g:Int)=0)->gcdTo (p.map fun t=>⟨quoC s g t.c,t.m⟩)*g=gcdTo p
 | [],_=>Nat.zero_mul _
 | t::p,h=>by
  have ih:=ZjT hs hg (p:=p) (fun x hx=>h x (by simp[hx]))
  have ht:=h t (by simp)
  simp only[List.map_cons,gcdTo]
  rw[<- ih,<- Nat.gcd_mul_right,Zla]
  congr 1
  have e1:(s*(numC t.c / (g:Int))).natAbs=(numC t.c / (g:Int)).natAbs:=by rcases hs with rfl|rfl <;> simp
  rw[e1]
  have e2:=Int.mul_ediv_add_emod (numC t.c) g
  rw[ht,Int.add_zero] at e2
  rw[<- e2,Int.natAbs_mul,e2,Int.natAbs_natCast,Nat.mul_comm]
theorem Zo5{p:List Za}(h:PolOk p)(hne:p≠[]):gcdTo (primP p)=1:=by
 obtain⟨g1,g2⟩:=ZdO h hne
 have:=ZjT (ZhA p) g1 (p:=p) (fun t ht=>Zhy ht)
 exact Nat.eq_of_mul_eq_mul_right g1 (by rw[Nat.one_mul]; exact this)
theorem Zo7{p:List Za}(h:PolOk p):sgnP (primP p)=1:=by
 match p,h with
 | [],_=>rfl
 | t::q,h=>
  obtain⟨e,n0,n1,n2⟩:=h.num (t:=t) (by simp)
  obtain⟨g1,g2⟩:=ZdO h (by simp)
  have hd:=Zhy (p:=t::q) (t:=t) (by simp)
  show (if numC (quoC _ _ t.c)<0 then (-1:Int) else 1)=1
  rw[Zla,if_neg]
  have q0:=Zn1 g1 hd n0
  have e2:=Int.mul_ediv_add_emod (numC t.c) (gcdTo (t::q))
  rw[hd,Int.add_zero] at e2
  unfold sgnP
  dsimp only
  generalize gcdTo (t::q)=g at *
  generalize numC t.c / (g:Int)=z at *
  by_cases hn:numC t.c<0
  .rw[if_pos hn]
   have:¬ 0<z:=fun hz=>by
    have:=Int.mul_pos (show (0:Int)<(g:Int) by omega) hz
    omega
   omega
  rw[if_neg hn]
  have:¬ z<0:=fun hz=>by
   have:=Int.mul_neg_of_pos_of_neg (show (0:Int)<(g:Int) by omega) hz
   omega
  omega
theorem ZpY{p:List Za}(h:PolOk p){t:Za}(ht:t ∈ p):quoC 1 1 t.c=t.c:=by
 obtain⟨e,_⟩:=h.num ht
 unfold quoC
 rw[Int.one_mul,Int.natCast_one,Int.ediv_one]
 exact e.symm
theorem Zj1{p:List Za}(h:PolOk p):primP (primP p)=primP p:=by
 by_cases hne:p=[]
 .subst hne; rfl
 have ho:=Zej h
 show (primP p).map (fun t=>(⟨quoC (sgnP (primP p)) (gcdTo (primP p)) t.c,t.m⟩:Za))=primP p
 rw[Zo5 h hne,Zo7 h]
 refine (List.map_congr_left fun t ht=>?_).trans (List.map_id _)
 rw[ZpY ho ht]
 rfl
def Strict(l:List (List Za)):Prop:=l.Pairwise fun a b=>cmpP a b<0
theorem ZkQ:∀ {l:List (List Za)}{x:List Za},(x::l).Pairwise (fun a b=>cmpP a b<=0)->(∀ p ∈ x::l,goodP p=true)->Strict (x::dedG x l)/\∀ z,z ∈ x::dedG x l↔z ∈ x::l
 | [],x,_,_=>⟨List.pairwise_singleton _ _,fun _=>Iff.rfl⟩
 | y::l,x,h,hg=>by
  obtain⟨a1,a2⟩:=List.pairwise_cons.1 h
  obtain⟨i1,i2⟩:=ZkQ a2 (fun p hp=>hg p (by simp at hp ⊢; exact .inr hp))
  unfold dedG
  by_cases e:cmpP y x=0
  .rw[if_pos e]
   have:y=x:=ZgP (hg y (by simp)) (hg x (by simp)) e
   subst this
   refine⟨i1,fun z=>?_⟩
   rw[i2 z]
   simp
  rw[if_neg e]
  have hxy:cmpP x y<0:=by
   have:=a1 y (by simp)
   have:=Zaz x y
   omega
  refine⟨List.pairwise_cons.2 ⟨fun z hz=>?_,i1⟩,fun z=>?_⟩
  .rcases List.mem_cons.1 hz with rfl|hz'
   .exact hxy
   exact (Zb6 x y z (by omega) (by have:=(List.pairwise_cons.1 i1).1 z hz'; omega)).2 (.inl hxy)
  have:=i2 z
  simp only[List.mem_cons] at this ⊢
  rw[this]
def srtP(l:List (List Za)):List (List Za):=dedP (ordP l)
theorem ZeC{l:List (List Za)}(hg:∀ p ∈ l,goodP p=true):Strict (srtP l)/\∀ z,z ∈ srtP l↔z ∈ l:=by
 have hm:∀ z,z ∈ ordP l↔z ∈ l:=fun z=>(Zbm l).mem_iff
 have hs:=Zfj l
 unfold srtP
 generalize ordP l=m at *
 match m,hm,hs with
 | [],hm,_=>exact⟨List.Pairwise.nil,hm⟩
 | x::m,hm,hs=>
  obtain⟨q1,q2⟩:=ZkQ hs (fun p hp=>hg p ((hm p).1 hp))
  exact⟨q1,fun z=>(q2 z).trans (hm z)⟩
theorem ZhB(l:List (List Za)):(srtP l).length<=l.length:=Nat.le_trans ZkP (Nat.le_of_eq (Zbm l).length_eq)
end Go.EL

namespace Go.EL
open Go.IntKind (i8 i16 i32 i64 u8 u16 u32 u64)
open Go Go.RowKit
def keepP(plain:Bool)(q:List Za):Bool:=!q.isEmpty && !(plain && decide (degP q=0))
theorem Zm9{v:List (List Za)}{y:List Za}(hs:Strict v){k:Nat}(hk:k<=v.length)(h1:∀ i (h:i<v.length),i<k->cmpP v[i] y<0)(h2:∀ h:k<v.length,0<cmpP v[k] y):
  Strict (v.take k++([y]++v.drop k))/\∀ z,z ∈ v.take k++([y]++v.drop k)↔z ∈ v\/z=y:=by
 have hd:∀ z ∈ v.drop k,0<cmpP z y:=fun z hz=>by
  obtain⟨j,hj,rfl⟩:=List.getElem_of_mem hz
  rw[List.length_drop] at hj
  have hk':k<v.length:=by omega
  rw[List.getElem_drop]
  have q:=h2 hk'
  by_cases e:j=0
  .subst e; exact q
  have:=List.pairwise_iff_getElem.1 hs k (k+j) hk' (by omega) (by omega)
  have n1:=Zaz v[k] y
  have n2:=Zaz v[k+j] y
  have:=(Zb6 y v[k] v[k+j] (by omega) (by omega)).2 (.inl (by omega))
  omega
 refine⟨?_,fun z=>?_⟩
 .unfold Strict
  rw[List.pairwise_append]
  have hs':((v.take k)++v.drop k).Pairwise fun a b=>cmpP a b<0:=by rw[List.take_append_drop]; exact hs
  obtain⟨q1,q2,q3⟩:=List.pairwise_append.1 hs'
  refine⟨q1,?_,fun a ha b hb=>?_⟩
  .refine List.pairwise_cons.2 ⟨fun z hz=>?_,q2⟩
   have:=hd z hz
   have:=Zaz z y
   omega
  rcases List.mem_cons.1 hb with rfl|hb
  .obtain⟨j,hj,rfl⟩:=List.getElem_of_mem ha
   rw[List.length_take] at hj
   rw[List.getElem_take]
   exact h1 j (by omega) (by omega)
  exact q3 a ha b hb
 have:z ∈ v↔z ∈ v.take k\/z ∈ v.drop k:=by rw[<- List.mem_append,List.take_append_drop]
 rw[this]
 simp only[List.mem_append,List.mem_cons,List.not_mem_nil,or_false,List.singleton_append]
 constructor
 .rintro (h|h|h)
  .exact .inl (.inl h)
  .exact .inr h
  exact .inl (.inr h)
 rintro ((h|h)|h)
 .exact .inl h
 .exact .inr (.inr h)
 exact .inr (.inl h)
def kept(l:List (List Za))(plain:Bool):List (List Za):=(l.map primP).filter (keepP plain)
theorem ZeY{l:List (List Za)}(h:∀ p ∈ l,PolOk p){plain:Bool}:∀ q ∈ kept l plain,PolOk q:=fun q hq=>by
 obtain⟨p,hp,rfl⟩:=List.mem_map.1 (List.mem_filter.1 hq).1
 exact Zej (h p hp)
theorem Zg3(l:List (List Za))(plain:Bool){k:Nat}(hk:k<l.length):kept (l.take (k+1)) plain=kept (l.take k) plain++(if keepP plain (primP l[k])=true then [primP l[k]] else []):=by
 unfold kept
 rw[List.take_succ_eq_append_getElem hk,List.map_append,List.filter_append]
 congr 1
 simp only[List.map_cons,List.map_nil,List.filter_cons,List.filter_nil]
structure SrtI (l:List (List Za)) (plain:Bool) (k:Nat) (v:List (List Za)):Prop where
 st:Strict v
 mem:∀ z,z ∈ v↔z ∈ kept (l.take k) plain
 len:v.length<=k
theorem SrtI.put{l:List (List Za)}{plain:Bool}{k:Nat}{v:List (List Za)}(h:SrtI l plain k v)(hk:k<l.length)(hn:keepP plain (primP l[k])=true){j:Nat}(hj:j<=v.length)(h1:∀ i (h:i<v.length),i<j->cmpP v[i] (primP l[k])<0)(h2:∀ h:j<v.length,0<cmpP v[j] (primP l[k])):
  SrtI l plain (k+1) (v.take j++([primP l[k]]++v.drop j)):=by
 obtain⟨q1,q2⟩:=Zm9 h.st hj h1 h2
 refine⟨q1,fun z=>?_,?_⟩
 .rw[q2 z,h.mem z,Zg3 l plain hk,hn,if_pos rfl,List.mem_append,List.mem_singleton]
 have:=h.len
 simp only[List.length_append,List.length_take,List.length_drop,List.length_singleton]
 omega
end Go.EL

namespace Go.EL
open Go.IntKind (i8 i16 i32 i64 u8 u16 u32 u64)
open Go Go.RowKit
def letterB(b:Int):Bool:=decide (65<=b/\b<=90) || decide (97<=b/\b<=122)
def restB(b:Int):Bool:=decide (48<=b/\b<=57) || decide (b=95)
def charB(i:Nat)(b:Int):Bool:=letterB b || (decide (0<i) && restB b)
def nameB(s:ByteArray):Bool:=decide (1<=s.size/\s.size<=12) && (List.range s.size).all fun i=>charB i (byteAt s (i:Int))
theorem Zmc{s:ByteArray}{i:Nat}(hi:i<s.size)(h:charB i (byteAt s (i:Int))=false):nameB s=false:=by
 unfold nameB
 rw[Bool.and_eq_false_iff]
 right
 rw[List.all_eq_false]
 exact⟨i,List.mem_range.2 hi,by rw[h]; decide⟩
theorem ZoT{s:ByteArray}(h1:1<=s.size/\s.size<=12)(h:∀ i,i<s.size->charB i (byteAt s (i:Int))=true):nameB s=true:=by
 unfold nameB
 rw[decide_eq_true h1,Bool.true_and,List.all_eq_true]
 exact fun i hi=>h i (List.mem_range.1 hi)
theorem ZmQ(b:Int):(Zcv b).Ret (restB b):=by
 unfold Zcv restB
 by_cases h1:48<=b <;> by_cases h2:b<=57 <;> simp[h1,h2] <;> first|rfl|omega
theorem ZkZ(s:ByteArray)(i:Nat):((s.get! i).toNat:Int)=byteAt s (i:Int):=by
 unfold byteAt
 simp only[Int.toNat_natCast]
 congr 2
theorem ZmJ{s:ByteArray}{p:Nat}(h:byteAt s (p:Int)<128):((Utf8.decode s p).1:Int)=byteAt s (p:Int)/\(Utf8.decode s p).2=1:=by
 have hb:=ZkZ s p
 unfold Utf8.decode
 simp only[Nat.add_zero]
 rw[if_pos (by omega)]
 exact⟨hb,rfl⟩
theorem decode_high{s:ByteArray}{p:Nat}(h:128<=byteAt s (p:Int)):128<=((Utf8.decode s p).1:Int):=by
 have hb:=ZkZ s p
 unfold Utf8.decode
 simp only[Nat.add_zero,Utf8.runeError]
 rw[if_neg (by omega)]
 split
 .split
  .rename_i h; omega
  omega
 split
 .split
  .rename_i h; simp at h; omega
  omega
 split
 .split
  .rename_i h; simp at h; omega
  omega
 omega
theorem Zff{b:Int}(h:128<=b):letterB b=false:=by unfold letterB; rw[decide_eq_false (by omega),decide_eq_false (by omega)]; rfl
theorem Zhm{b:Int}(h:128<=b):restB b=false:=by unfold restB; rw[decide_eq_false (by omega),decide_eq_false (by omega)]; rfl
theorem ZmP(s:ByteArray):(Zcu s).Ret (nameB s):=by
 unfold Zcu
 by_cases h1:(s.size:Int)<1
 .rw[if_pos h1]
  show false=nameB s
  unfold nameB
  rw[decide_eq_false (by omega),Bool.false_and]
 rw[if_neg h1]
 by_cases h2:12<(s.size:Int)
 .rw[if_pos h2]
  show false=nameB s
  unfold nameB
  rw[decide_eq_false (by omega),Bool.false_and]
 rw[if_neg h2]
 show (Cq.next _ _).wp _
 refine Cq.Zq s.size (fun k st=>st=k/\∀ i,i<k->charB i (byteAt s (i:Int))=true) (fun k st hk hs=>?_) (fun st hs=>?_) ⟨rfl,fun i hi=>by omega⟩
 .obtain⟨rfl,hi⟩:=hs
  have hstep:charB st (byteAt s (st:Int))=true->∀ i,i<st+1->charB i (byteAt s (i:Int))=true:=by
   intro hc i hik
   by_cases e:i=st
   .subst e; exact hc
   exact hi i (by omega)
  have hrune:letterB ((Utf8.decode s st).1:Int)=letterB (byteAt s (st:Int))/\restB ((Utf8.decode s st).1:Int)=restB (byteAt s (st:Int))/\(byteAt s (st:Int)<128->(Utf8.decode s st).2=1):=by
   by_cases hb:byteAt s (st:Int)<128
   .obtain⟨e1,e2⟩:=ZmJ hb
    rw[e1]; exact⟨rfl,rfl,fun _=>e2⟩
   have hd:=decode_high (s:=s) (p:=st) (by omega)
   rw[Zff hd,Zhm hd,Zff (by omega),Zhm (by omega)]
   exact⟨rfl,rfl,fun h=>absurd h hb⟩
  obtain⟨e1,e2,e3⟩:=hrune
  have hk3:(ZR s st (letterB ((Utf8.decode s st).1:Int))).wp (Out (fun s'=>s'=st+1/\∀ i,i<st+1->charB i (byteAt s (i:Int))=true) (fun ov=>(match ov with | .inl rv1=>Cq.ret rv1 | .inr ()=>ZcI:Cq Bool).wp fun a=>a=nameB s)):=by
   unfold ZR
   rw[e1]
   have hlow:letterB (byteAt s (st:Int))=true\/restB (byteAt s (st:Int))=true->(Utf8.decode s st).2=1:=fun h=>e3 (by
    by_cases hb:byteAt s (st:Int)<128
    .exact hb
    rw[Zff (by omega),Zhm (by omega)] at h; simp at h)
   cases hl:letterB (byteAt s (st:Int)) with
   | true=>
    rw[if_pos rfl]
    exact⟨by rw[hlow (.inl hl)],hstep (by unfold charB; rw[hl]; rfl)⟩
   | false=>
    rw[if_neg (by decide),Cq.Zj]
    split
    .rename_i h0
     obtain rfl:st=0:=by omega
     exact (Zmc (i:=0) (by omega) (by unfold charB; rw[hl]; simp)).symm
    rename_i h0
    refine⟨_,ZmQ _,?_⟩
    rw[e2,Cq.Zj]
    cases hr:restB (byteAt s (st:Int)) with
    | false=>
     rw[if_pos (by decide)]
     exact (Zmc (i:=st) hk (by unfold charB; rw[hl,hr]; simp)).symm
    | true=>
     rw[if_neg (by decide)]
     exact⟨by rw[hlow (.inr hr)],hstep (by unfold charB; rw[hl,hr,decide_eq_true (by omega)]; rfl)⟩
  have hlet:∀ {b:Bool},letterB ((Utf8.decode s st).1:Int)=b->(ZR s st b).wp (Out (fun s'=>s'=st+1/\∀ i,i<st+1->charB i (byteAt s (i:Int))=true) (fun ov=>(match ov with | .inl rv1=>Cq.ret rv1 | .inr ()=>ZcI:Cq Bool).wp fun a=>a=nameB s)):=fun h=>by subst h; exact hk3
  show (if st<s.size then _ else _:Cq _).wp _
  rw[Cq.Zj,if_pos hk]
  generalize ((Utf8.decode s st).1:Int)=c at *
  rw[Cq.Zj]
  split
  .rename_i a
   rw[Cq.Zj]
   split
   .rename_i b
    exact hlet (by unfold letterB; rw[decide_eq_true ⟨a,b⟩]; rfl)
   rename_i b
   rw[Cq.Zj]
   split
   .rename_i d
    refine hlet ?_
    unfold letterB
    rw[decide_eq_false (fun h=>b h.2),Bool.false_or]
    exact decide_eq_decide.2 ⟨fun h=>h.2,fun h=>⟨d,h⟩⟩
   rename_i d
   exact hlet (by unfold letterB; rw[decide_eq_false (fun h=>b h.2),decide_eq_false (fun h=>d h.1)]; rfl)
  rename_i a
  rw[Cq.Zj]
  split
  .rename_i d
   omega
  rename_i d
  exact hlet (by unfold letterB; rw[decide_eq_false (fun h=>a h.1),decide_eq_false (fun h=>d h.1)]; rfl)
 obtain⟨rfl,hi⟩:=hs
 refine Cq.wp.no (p:=s.size<s.size) (by omega) ?_
 exact (ZoT (by omega) hi).symm
end Go.EL

namespace Go.EL
open Go.IntKind (i8 i16 i32 i64 u8 u16 u32 u64)
open Go Go.RowKit
structure EqsOk (n:Nat) (next:Int) (l:List Zf):Prop where
 len:l.length<=12
 ids:∀ q ∈ l,1<=q.id/\q.id<next
 inc:l.Pairwise fun a b=>a.id<b.id
 pol:∀ q ∈ l,PolOk q.p/\fitB q.p (n:Int)=true
structure Good (s:Zn):Prop where
 vars:s.vars.length<=4
 name:∀ v ∈ s.vars,nameB v=true
 diff:s.vars.Pairwise fun a b=>a≠b
 next:1<=s.next/\s.next<=1000000
 eqs:EqsOk s.vars.length s.next s.eqs
 neqs:EqsOk s.vars.length s.next s.neqs
 apart:∀ a ∈ s.eqs,∀ b ∈ s.neqs,a.id≠b.id
def idKey(l:List Int):List (Int×Bool):=l.map fun i=>(i,true)
theorem ZnH{l:List Int}{i:Int}(h:i ∉ l):mput (idKey l) i true=idKey (l++[i])/\mget (idKey l) i=none:=by
 have hn:∀ p ∈ idKey l,p.1≠i:=fun p hp e=>by
  obtain⟨j,hj,rfl⟩:=List.mem_map.1 hp
  exact h (e ▸ hj)
 exact⟨by rw[Zdq hn]; simp[idKey],Zf7 hn⟩
def idsOf(l:List Zf):List Int:=l.map (·.id)
theorem Zjv{l:List Zf}(h:l.Pairwise fun a b=>a.id<b.id){k:Nat}(hk:k<l.length):l[k].id ∉ idsOf (l.take k):=fun hm=>by
 obtain⟨q,hq,e⟩:=List.mem_map.1 hm
 obtain⟨i,hi,rfl⟩:=List.mem_iff_getElem.1 hq
 simp only[List.length_take] at hi
 rw[List.getElem_take] at e
 have:=List.pairwise_iff_getElem.1 h i k (by omega) hk (by omega)
 omega
theorem ZiH{s:Zn}(hv:s.vars.length<=4)(hnx:s.next<=1000000){l:List Zf}(h:EqsOk s.vars.length s.next l){m:List Int}(hm:∀ q ∈ l,q.id ∉ m)(hml:m.length<=100):
  (Ze4 s l (0,idKey m)).Ret (.inr (idKey (m++idsOf l))):=by
 have hl:=h.len
 refine Cq.Zq l.length (fun k st=>st=((k:Int),idKey (m++idsOf (l.take k)))) (fun k st hk hs=>?_) (fun st hs=>?_) (by simp[idsOf])
 .subst hs
  have hid:=h.ids _ (List.getElem_mem hk)
  obtain⟨hp,hf⟩:=h.pol _ (List.getElem_mem hk)
  have hnew:l[k].id ∉ m++idsOf (l.take k):=fun hh=>by
   rcases List.mem_append.1 hh with hh|hh
   .exact hm _ (List.getElem_mem hk) hh
   exact Zjv h.inc hk hh
  obtain⟨hput,hget⟩:=ZnH hnew
  have hwf:(Lit.int i64 l[k].id).wf=true:=by
   simp only[Lit.wf,Bool.and_eq_true,decide_eq_true_eq]
   exact⟨Int.le_trans (by decide) hid.1,Int.le_trans (Int.le_of_lt (Int.lt_of_lt_of_le hid.2 hnx)) (by decide)⟩
  have hk5:(ZbP s (k:Int) (idKey (m++idsOf (l.take k))) l[k]).wp (Out (fun s'=>s'=(((k+1:Nat):Int),idKey (m++idsOf (l.take (k+1))))) (fun a=>a=(.inr (idKey (m++idsOf l)):Bool⊕List (Int×Bool)))):=by
   refine⟨⟨hwf,?_⟩,true,Ze7 hp (by omega) |> (hf ▸ ·),?_⟩
   .rw[hput]
    simp[idKey,idsOf,small]; omega
   rw[Cq.Zj,if_neg (by decide)]
   show _=_
   have e:idsOf (l.take (k+1))=idsOf (l.take k)++[l[k].id]:=by
    unfold idsOf
    rw[<- List.take_append_getElem hk,List.map_append]
    rfl
   rw[hput,wrapN (by omega),List.append_assoc,e]
  refine Cq.wp.yes (p:=(k:Int)<(l.length:Int)) (by omega) ?_
  refine⟨l[k],idxN hk,?_⟩
  rw[Cq.Zj,if_neg (by omega),Cq.Zj,if_neg (by omega)]
  refine⟨hwf,?_⟩
  rw[hget,Cq.Zj,if_neg (by simp),Cq.Zj]
  split
  .rename_i h0
   obtain⟨j,rfl⟩:∃ j,k=j+1:=⟨k-1,by omega⟩
   have hj:i64.wrap (((j+1:Nat):Int)-1)=(j:Int):=by rw[wrap64 (by omega)]; omega
   rw[hj]
   have:=List.pairwise_iff_getElem.1 h.inc j (j+1) (by omega) hk (by omega)
   refine⟨l[j],idxN (by omega),?_⟩
   rw[Cq.Zj,if_neg (by omega)]
   exact hk5
  exact hk5
 subst hs
 show (if ((l.length:Nat):Int)<(l.length:Int) then _ else _:Cq _).wp _
 rw[Cq.Zj,if_neg (by omega),List.take_length]
 rfl
def nameKey(l:List ByteArray):List (ByteArray×Bool):=l.map fun i=>(i,true)
theorem ZlT{l:List ByteArray}{i:ByteArray}(h:i ∉ l):mput (nameKey l) i true=nameKey (l++[i])/\mget (nameKey l) i=none:=by
 have hn:∀ p ∈ nameKey l,p.1≠i:=fun p hp e=>by
  obtain⟨j,hj,rfl⟩:=List.mem_map.1 hp
  exact h (e ▸ hj)
 exact⟨by rw[Zdq hn]; simp[nameKey],Zf7 hn⟩
theorem ZnR{v:ByteArray}(h:nameB v=true):v.size<=12:=by
 unfold nameB at h
 rw[Bool.and_eq_true,decide_eq_true_eq] at h
 exact h.1.2
theorem Znj{s:Zn}(h:Good s):(Ze5 s).Ret true:=by
 have he:=h.eqs.len
 show (Cq.next _ _).wp _
 refine Cq.Zq 2 (fun k st=>st=((k:Int),idKey (if k=0 then [] else if k=1 then idsOf s.eqs else idsOf s.eqs++idsOf s.neqs))) (fun k st hk hs=>?_) (fun st hs=>?_) rfl
 .subst hs
  rcases (show k=0\/k=1 by omega) with rfl|rfl
  .refine⟨s.eqs,⟨by omega,rfl⟩,?_⟩
   rw[Cq.Zj,if_neg (by omega)]
   show (Cq.next _ _).wp _
   refine (ZiH h.vars h.next.2 h.eqs (m:=[]) (fun _ _=>by simp) (by simp)).then ?_
   rfl
  have hne:=h.neqs.len
  refine⟨s.neqs,⟨by omega,rfl⟩,?_⟩
  rw[Cq.Zj,if_neg (by omega)]
  show (Cq.next _ _).wp _
  refine (ZiH h.vars h.next.2 h.neqs (m:=idsOf s.eqs) (fun q hq hm=>?_) (by simp[idsOf]; omega)).then ?_
  .obtain⟨a,ha,e⟩:=List.mem_map.1 hm
   exact h.apart a ha q hq e
  rfl
 subst hs
 rfl
theorem Zkf{s:Zn}(h:Good s):(Zbk s).Ret true:=by
 have hv:=h.vars
 have hn:=h.next
 unfold Zbk
 rw[if_neg (by omega),if_neg (by omega),if_neg (by omega)]
 show (Cq.next _ _).wp _
 refine Cq.Zq s.vars.length (fun k st=>st=((k:Int),nameKey (s.vars.take k))) (fun k st hk hs=>?_) (fun st hs=>?_) rfl
 .subst hs
  have hnew:s.vars[k] ∉ s.vars.take k:=fun hm=>by
   obtain⟨i,hi,e⟩:=List.mem_iff_getElem.1 hm
   simp only[List.length_take] at hi
   rw[List.getElem_take] at e
   exact List.pairwise_iff_getElem.1 h.diff i k (by omega) hk (by omega) e
  obtain⟨hput,hget⟩:=ZlT hnew
  have hnm:=h.name _ (List.getElem_mem hk)
  have hsz:=ZnR hnm
  refine Cq.wp.yes (p:=(k:Int)<(s.vars.length:Int)) (by omega) ?_
  refine⟨s.vars[k],idxN hk,true,hnm ▸ ZmP _,by omega,?_⟩
  rw[hget,Cq.Zj,if_neg (by simp),hput]
  refine⟨⟨by omega,by simp[nameKey,small]; omega⟩,?_⟩
  show _=_
  rw[wrapN (by omega),List.take_append_getElem hk]
 subst hs
 refine Cq.wp.no (p:=((s.vars.length:Nat):Int)<(s.vars.length:Int)) (by omega) ?_
 exact Znj h
end Go.EL

namespace Go.EL
open Go.IntKind (i8 i16 i32 i64 u8 u16 u32 u64)
open Go Go.RowKit
abbrev Pol:=List Za
instance decTermS:DecidableEq Za:=fun ⟨a1,a2⟩ ⟨b1,b2⟩=>decidable_of_iff (a1=b1/\a2=b2) (by simp)
def oneP:Pol:=[⟨ratI 1,fun _=>0⟩]
def zeroK:Zg:=⟨0,[],[]⟩
def onesF(l:List Pol):List Pol:=(l.filter fun p=>p.isEmpty).map fun _=>oneP
def eqsN(eqs neqs:List Pol):List Pol:=kept eqs false++onesF neqs
def normF(n:Int)(eqs neqs:List Pol):Zg×Int:=
 if 1<=n/\n<=4 then
  if (eqs++neqs).all (fun p=>fitB p n)=true then
   if 12<(srtP (eqsN eqs neqs)).length then (zeroK,2)
   else if 12<(srtP (kept neqs true)).length then (zeroK,2)
   else (⟨n,srtP (eqsN eqs neqs),srtP (kept neqs true)⟩,0)
  else (zeroK,1)
 else (zeroK,1)
theorem Zhg:PolOk oneP where
 ord:=List.pairwise_singleton _ _
 trm:=fun t ht=>by rw[oneP,List.mem_singleton] at ht; subst ht; exact⟨⟨1,rfl,by decide,by decide,by decide⟩,ok0⟩
 len:=by decide
theorem ZoY:primP oneP=oneP:=by decide +kernel
theorem Zld{l:List Pol}:∀ p ∈ onesF l,p=oneP:=fun p hp=>by
 obtain⟨_,_,h⟩:=List.mem_map.1 hp
 exact h.symm
theorem Zlc(l:List Pol):(onesF l).length<=l.length:=by unfold onesF; rw[List.length_map]; exact List.length_filter_le _ _
theorem ZbU(l:List Pol)(plain:Bool):(kept l plain).length<=l.length:=by unfold kept; exact Nat.le_trans (List.length_filter_le _ _) (Nat.le_of_eq (List.length_map _))
theorem ZkS(a b:List Pol):(eqsN a b).length<=a.length+b.length:=by
 have:=ZbU a false
 have:=Zlc b
 unfold eqsN
 rw[List.length_append]
 omega
theorem ZpE{a b:List Pol}(ha:∀ p ∈ a,PolOk p):∀ p ∈ eqsN a b,PolOk p:=fun p hp=>by
 rcases List.mem_append.1 hp with h|h
 .exact ZeY ha p h
 rw[Zld p h]; exact Zhg
theorem ZfX{p:Pol}(h:PolOk p)(hne:p≠[]):0<=degP p:=by
 obtain⟨t,ht⟩:=List.exists_mem_of_ne_nil _ hne
 by_cases hd:degP p<=-1
 .have:=(Zdi (by decide)).1 hd t ht
  have h0:=(ZfU (h.trm t ht).m 8).1
  unfold degM at this
  omega
 omega
theorem ZmH{a b:List Pol}(ha:a.length<=100)(hb:b.length<=100):(Zae [a,b]).Ret (a++b):=by
 refine Cq.Zq 2 (fun k s=>s=(if k=0 then 0 else if k=1 then (a.length:Int) else (a.length:Int)+(b.length:Int),(k:Int))) (fun k s hk hs=>?_) (fun s hs=>?_) rfl
 .subst hs
  have e:k=0\/k=1:=by omega
  rcases e with rfl|rfl
  .refine Cq.wp.yes (by show (0:Int)<2; decide) ⟨a,⟨by decide,rfl⟩,?_⟩
   have:i64.wrap (0+(a.length:Int))=(a.length:Int):=by rw[wrap64 (by omega)]; omega
   refine Cq.wp.no (by rw[if_pos rfl,this]; omega) ?_
   show _=_
   rw[if_pos rfl,this]; rfl
  refine Cq.wp.yes (by show (1:Int)<2; decide) ⟨b,⟨by decide,rfl⟩,?_⟩
  have:i64.wrap ((a.length:Int)+(b.length:Int))=(a.length:Int)+(b.length:Int):=by rw[wrap64 (by omega)]
  refine Cq.wp.no (by rw[if_neg (by decide),if_pos rfl,this]; omega) ?_
  show _=_
  rw[if_neg (by decide),if_pos rfl,this]; rfl
 subst hs
 refine Cq.wp.no (by show ¬ (2:Int)<2; decide) ?_
 refine⟨[],⟨⟨?_,?_⟩,rfl⟩,?_⟩
 .rw[if_neg (by decide),if_neg (by decide)]; omega
 .rw[if_neg (by decide),if_neg (by decide)]; omega
 refine Cq.Zq 2 (fun k s=>s=(if k=0 then [] else if k=1 then a else a++b,(k:Int))) (fun k s hk hs=>?_) (fun s hs=>?_) rfl
 .subst hs
  have e:k=0\/k=1:=by omega
  rcases e with rfl|rfl
  .refine Cq.wp.yes (by show (0:Int)<2; decide) ⟨a,⟨by decide,rfl⟩,?_,?_⟩
   .rw[if_pos rfl,List.nil_append]; simp only[small]; omega
   show _=_
   rw[if_pos rfl,List.nil_append]; rfl
  refine Cq.wp.yes (by show (1:Int)<2; decide) ⟨b,⟨by decide,rfl⟩,?_,?_⟩
  .rw[if_neg (by decide),if_pos rfl,List.length_append]; simp only[small]; omega
  show _=_
  rw[if_neg (by decide),if_pos rfl]; rfl
 subst hs
 refine Cq.wp.no (by show ¬ (2:Int)<2; decide) ?_
 show _=_
 rw[if_neg (by decide),if_neg (by decide)]
theorem Zk9{n:Int}(h:1<=n/\n<=4):∃ m:Nat,n=(m:Int)/\1<=m/\m<=4:=⟨n.toNat,by omega,by omega,by omega⟩
theorem pWhole1:(Zdy 1).Ret (ratI 1):=Cq.Ret.ZG 20 (by decide +kernel)
theorem pConst1:(ZbI (ratI 1)).Ret oneP:=Cq.Ret.ZG 20 (by decide +kernel)
theorem Zh5{l:List Pol}(hl:l.length<=100)(h:∀ p ∈ l,PolOk p):(Zcw l).Ret (srtP l):=⟨⟨hl,List.all_eq_true.2 fun p hp=>(h p hp).good⟩,rfl⟩
theorem ZmV(l:List Pol){k:Nat}(hk:k<l.length):onesF (l.take (k+1))=onesF (l.take k)++(if l[k]=[] then [oneP] else []):=by
 unfold onesF
 rw[List.take_succ_eq_append_getElem hk,List.filter_append,List.map_append]
 congr 1
 rw[List.filter_cons]
 by_cases h:l[k]=[]
 .rw[if_pos (by simpa using h),if_pos h]; rfl
 rw[if_neg (by simpa using h),if_neg h]; rfl
theorem ZhS{n:Int}{eqs neqs:List Pol}(le:eqs.length<=40)(ln:neqs.length<=40)(he:∀ p ∈ eqs,PolOk p)(hn:∀ p ∈ neqs,PolOk p):(ZaB n eqs neqs).Ret (normF n eqs neqs):=by
 unfold normF
 by_cases h1:n<1
 .rw[if_neg (show ¬(1<=n/\n<=4) by omega)]; exact Cq.wp.yes h1 rfl
 refine Cq.wp.no h1 ?_
 by_cases h4:4<n
 .rw[if_neg (show ¬(1<=n/\n<=4) by omega)]; exact Cq.wp.yes h4 rfl
 refine Cq.wp.no h4 ?_
 rw[if_pos ⟨by omega,by omega⟩]
 obtain⟨m,rfl,m1,m4⟩:=Zk9 ⟨show 1<=n by omega,by omega⟩
 have hall:∀ p ∈ eqs++neqs,PolOk p:=fun p hp=>(List.mem_append.1 hp).elim (he p) (hn p)
 refine⟨eqs++neqs,ZmH (by omega) (by omega),?_⟩
 have hlen:(eqs++neqs).length<=100:=by rw[List.length_append]; omega
 generalize hl:eqs++neqs=l at *
 refine (ZeE (m:Int) l (0,zeroK)).mono (p:=fun o=>match o with | .inl v=>v=(zeroK,1)/\(l.all fun p=>fitB p (m:Int))=false | .inr _=>(l.all fun p=>fitB p (m:Int))=true) (fun o h=>?_) (Cq.Zq l.length (fun k s=>s=((k:Int),zeroK)/\∀ i (h:i<l.length),i<k->fitB l[i] (m:Int)=true) ?_ ?_ ⟨rfl,fun i _ h=>absurd h (Nat.not_lt_zero _)⟩)
 rotate_left
 .rintro k s hk ⟨rfl,h1⟩
  refine Cq.wp.yes (by omega) ⟨_,idxN hk,_,Ze7 (hall _ (List.getElem_mem hk)) (by omega),?_⟩
  by_cases hf:fitB l[k] (m:Int)=true
  .rw[hf]
   refine Cq.wp.no (by decide) ⟨by rw[wrapN (by omega)],fun i hi hik=>?_⟩
   by_cases e:i=k
   .subst e; exact hf
   exact h1 i hi (by omega)
  rw[Bool.eq_false_iff.2 hf]
  refine Cq.wp.yes (by decide) ⟨rfl,Bool.eq_false_iff.2 fun ha=>?_⟩
  exact hf (List.all_eq_true.1 ha _ (List.getElem_mem hk))
 .rintro s ⟨rfl,h1⟩
  refine Cq.wp.no (by omega) ?_
  refine List.all_eq_true.2 fun p hp=>?_
  obtain⟨i,hi,rfl⟩:=List.getElem_of_mem hp
  exact h1 i hi hi
 match o,h with
 | .inl v,⟨hv,hf⟩=>rw[hf,if_neg (by decide)]; exact hv
 | .inr _,ha=>
  rw[if_pos ha]
  show (ZeH (m:Int) eqs neqs).Ret _
  refine Cq.Zq eqs.length (fun k s=>s=(kept (eqs.take k) false,(k:Int))) (fun k s hk hs=>?_) (fun s hs=>?_) rfl
  .subst hs
   refine Cq.wp.yes (by omega) ⟨_,idxN hk,?_⟩
   have hs:=Zg3 eqs false hk
   have:=ZbU (eqs.take k) false
   rw[List.length_take] at this
   by_cases h0:eqs[k]=[]
   .refine Cq.wp.no (by rw[h0]; decide) ?_
    show _=_
    rw[hs,h0,if_neg (by decide),List.append_nil,wrapN (by omega)]
   have hp:0<eqs[k].length:=List.length_pos_iff.2 h0
   refine Cq.wp.yes (by omega) ⟨_,ZfK (he _ (List.getElem_mem hk)) h0,?_,?_⟩
   .rw[List.length_append,List.length_singleton]; simp only[small]; omega
   show _=_
   have hk:keepP false (primP eqs[k])=true:=by
    have:(primP eqs[k]).isEmpty=false:=by simpa using fun e=>h0 (Zgf.1 e)
    unfold keepP; rw[this]; rfl
   rw[hs,hk,if_pos rfl,wrapN (by omega)]
  subst hs
  refine Cq.wp.no (by omega) ?_
  rw[List.take_of_length_le (Nat.le_refl _)]
  show (ZeG (m:Int) neqs (kept eqs false)).Ret _
  refine Cq.Zq neqs.length (fun k s=>s=(kept eqs false++onesF (neqs.take k),kept (neqs.take k) true,(k:Int))) (fun k s hk hs=>?_) (fun s hs=>?_) (by show _=_; rw[List.take_zero]; show _=(kept eqs false++[],_,_); rw[List.append_nil]; rfl)
  .subst hs
   have hs:=Zg3 neqs true hk
   have ho:=ZmV neqs hk
   have l1:=ZbU (neqs.take k) true
   have l2:=ZbU eqs false
   have l3:=Zlc (neqs.take k)
   rw[List.length_take] at l1 l3
   refine Cq.wp.yes (by omega) ⟨_,idxN hk,?_⟩
   by_cases h0:neqs[k]=[]
   .refine Cq.wp.yes (by rw[h0]; rfl) ⟨_,pWhole1,_,pConst1,?_,?_⟩
    .rw[List.length_append,List.length_append,List.length_singleton]; simp only[small]; omega
    show _=_
    rw[hs,ho,h0,if_pos rfl,if_neg (by decide),List.append_nil,wrapN (by omega),List.append_assoc]
   have hp:0<neqs[k].length:=List.length_pos_iff.2 h0
   have hok:=hn _ (List.getElem_mem hk)
   have hne:(primP neqs[k]).isEmpty=false:=by simpa using fun e=>h0 (Zgf.1 e)
   have hnn:=ZfX hok h0
   refine Cq.wp.no (by omega) ⟨_,ZdB hok,?_⟩
   by_cases hd:0<degP neqs[k]
   .refine Cq.wp.yes hd ⟨_,ZfK hok h0,?_,?_⟩
    .rw[List.length_append,List.length_singleton]; simp only[small]; omega
    show _=_
    have hk:keepP true (primP neqs[k])=true:=by unfold keepP; rw[hne,Zdx,decide_eq_false (by omega)]; rfl
    rw[hs,ho,if_neg h0,hk,if_pos rfl,wrapN (by omega),List.append_nil]
   refine Cq.wp.no hd ?_
   show _=_
   have hk:keepP true (primP neqs[k])=false:=by unfold keepP; rw[Zdx,decide_eq_true (by omega)]; simp
   rw[hs,ho,if_neg h0,hk,if_neg (by decide),wrapN (by omega),List.append_nil,List.append_nil]
  subst hs
  refine Cq.wp.no (by omega) ?_
  rw[List.take_of_length_le (Nat.le_refl _)]
  show (ZeF (m:Int) (eqsN eqs neqs) (kept neqs true)).Ret _
  have l1:=ZkS eqs neqs
  have l2:=ZbU neqs true
  refine⟨_,Zh5 (by omega) (ZpE he),_,Zh5 (by omega) (ZeY hn),?_⟩
  by_cases q1:12<(srtP (eqsN eqs neqs)).length
  .rw[if_pos q1]; exact Cq.wp.yes (by omega) rfl
  rw[if_neg q1]
  refine Cq.wp.no (by omega) ?_
  by_cases q2:12<(srtP (kept neqs true)).length
  .rw[if_pos q2]; exact Cq.wp.yes (by omega) rfl
  rw[if_neg q2]; exact Cq.wp.no (by omega) rfl
end Go.EL

namespace Go.EL
open Go.IntKind (i8 i16 i32 i64 u8 u16 u32 u64)
open Go Go.RowKit
theorem Zk8:∀ (f:Nat) (n:Int),(natG f n).length<=f+1
 | 0,_=>by simp[natG]
 | f+1,n=>by
  unfold natG
  split
  .have:=Zk8 f (u64.wrap (Int.tdiv n 128)); rw[List.length_cons]; omega
  simp
theorem Zet(n:Int):(natW n).length<=11:=Zk8 10 n
theorem Zog(d:Int):(wordW d).length=4:=rfl
theorem Zf2{α:Type}{f:α->List Int}{K:Nat}:∀ {l:List α},(∀ x ∈ l,(f x).length<=K)->(l.flatMap f).length<=K*l.length
 | [],_=>Nat.le_refl _
 | x::l,h=>by
  have h1:=h x (by simp)
  have h2:=Zf2 (l:=l) (fun y hy=>h y (by simp[hy]))
  rw[List.flatMap_cons,List.length_append,List.length_cons,Nat.mul_succ]
  omega
theorem Zk0{a:Zb}(h:a.mag.length<=1):(intW a).length<=15:=by
 unfold intW
 rw[List.length_append]
 have h1:=Zet (if a.neg=true then u64.wrap (u64.wrap (2*u64.wrap (a.mag.length:Int))+1) else u64.wrap (2*u64.wrap (a.mag.length:Int)))
 have h2:=Zf2 (K:=4) (l:=a.mag) (f:=wordW) (fun x _=>Nat.le_of_eq (Zog x))
 omega
theorem PolOk.mags{p:Pol}(h:PolOk p){t:Za}(ht:t ∈ p):t.c.num.mag.length<=1/\t.c.den.mag.length<=1:=by
 obtain⟨e1,e2⟩:=h.parts ht
 rw[e1,e2]
 refine⟨?_,Nat.le_refl 1⟩
 show (magI _).length<=1
 unfold magI
 split <;> simp
theorem Zo9{p:Pol}(h:PolOk p){t:Za}(ht:t ∈ p):(ratW t.c).length<=30:=by
 obtain⟨h1,h2⟩:=h.mags ht
 have:=Zk0 h1
 have:=Zk0 h2
 unfold ratW
 rw[List.length_append]
 omega
theorem Zk7(m:M):∀ k,(monW m k).length<=11*k
 | 0=>Nat.le_refl _
 | k+1=>by
  have:=Zk7 m k
  have:=Zet (u64.wrap (getF m (k:Int)))
  unfold monW
  rw[List.length_append]
  omega
theorem Zoc{p:Pol}(h:PolOk p){t:Za}(ht:t ∈ p):(termW t).length<=118:=by
 have:=Zo9 h ht
 have:=Zk7 t.m 8
 unfold termW
 rw[List.length_append]
 omega
theorem ZnZ{p:Pol}(h:PolOk p):(polyW p).length<=11811:=by
 have h1:=Zet (u64.wrap (p.length:Int))
 have h2:=Zf2 (f:=termW) (K:=118) (fun t ht=>Zoc h ht)
 have h3:=h.len
 have:118*p.length<=11800:=by omega
 unfold polyW
 rw[List.length_append]
 omega
theorem Zjb{l:List Pol}(h:∀ p ∈ l,PolOk p)(hl:l.length<=12):(polysW l).length<=150000:=by
 have h1:=Zet (u64.wrap (l.length:Int))
 have h2:=Zf2 (f:=polyW) (K:=11811) (fun p hp=>ZnZ (h p hp))
 have:11811*l.length<=141732:=by omega
 unfold polysW
 rw[List.length_append]
 omega
structure PartOk (n:Int) (least:Int) (l:List Pol):Prop where
 len:l.length<=12
 pol:∀ p ∈ l,PolOk p/\fitB p n=true/\p≠[]/\primP p=p/\least<=degP p
 st:Strict l
structure CoreOk (k:Zg):Prop where
 n:1<=k.n/\k.n<=4
 eqs:PartOk k.n 0 k.eqs
 neqs:PartOk k.n 1 k.neqs
theorem ZoX(n:Int):(numW n).length<=11:=Zet _
theorem Znn{k:Zg}(h:CoreOk k):(coreW k).length<=1000000:=by
 have h1:=ZoX k.n
 have h2:=Zjb (fun p hp=>(h.eqs.pol p hp).1) h.eqs.len
 have h3:=Zjb (fun p hp=>(h.neqs.pol p hp).1) h.neqs.len
 unfold coreW
 simp only[List.length_append]
 omega
theorem Zny{p:Pol}{n:Int}(h:fitB p n=true):(Int.fdiv (i64.wrap (usesP p)) (2 ^ (min n.toNat i64.bits)))=0/\degP p<=12:=by
 unfold fitB at h
 split at h
 .exact⟨‹_›,of_decide_eq_true h⟩
 cases h
theorem Zn8{l:List Pol}(h:Strict l){k:Nat}(hk:k+1<l.length):cmpP l[k] l[k+1]<0:=List.pairwise_iff_getElem.1 h k (k+1) (by omega) hk (by omega)
theorem Zh4{k:Zg}(hn:1<=k.n/\k.n<=4){least:Int}{l:List Pol}(h:PartOk k.n least l):(_eliminant_claim_rules_sorted ⟨k⟩ l least).Ret true:=by
 have hl:=h.len
 refine Cq.wp.no (by omega) ?_
 refine Cq.Zq l.length (fun j s=>s=(j:Int)) (fun j s hj hs=>?_) (fun s hs=>?_) rfl
 .subst hs
  obtain⟨q1,q2,q3,q4,q5⟩:=h.pol _ (List.getElem_mem hj)
  obtain⟨f1,f2⟩:=Zny q2
  refine Cq.wp.yes (by omega) ⟨_,idxN hj,true,⟨true,Zc8 q1,_,ZkH q1.len,by show 0<=k.n; omega,Cq.wp.yes f1 ⟨_,ZdB q1,decide_eq_true f2⟩⟩,_,ZdB q1,Cq.wp.no (by omega) ⟨_,ZfK q1 q3,true,?_,Cq.wp.no (by decide) ?_⟩⟩
  .rw[q4]
   have:=ZfQ q1.good q1.good
   rw[ZeU] at this
   exact this
  by_cases h0:(0:Int)<(j:Int)
  .obtain⟨i,rfl⟩:∃ i,j=i+1:=⟨j-1,by omega⟩
   have hi:i64.wrap (((i+1:Nat):Int)-1)=(i:Int):=by rw[wrap64 (by omega)]; omega
   have hc:=Zn8 h.st hj
   refine Cq.wp.yes h0 ?_
   rw[hi]
   refine⟨_,idxN (by omega),_,Zkj (h.pol _ (List.getElem_mem (by omega))).1.good q1.good,Cq.wp.no (by omega) ?_⟩
   exact wrapN (by omega)
  exact Cq.wp.no h0 (wrapN (by omega))
 subst hs
 exact Cq.wp.no (by omega) rfl
theorem ZmD{k:Zg}(h:CoreOk k):(Zfb k).Ret true:=
 ⟨true,Cq.wp.yes h.n.1 (Cq.wp.yes h.n.2 ⟨true,Zh4 h.n h.eqs,true,Zh4 h.n h.neqs,rfl⟩),rfl⟩
def keyB(k:Zg):ByteArray:=bytesOf (coreW k)
theorem Zpo{k:Zg}(h:CoreOk k):(ZgM k).Ret (keyB k):=⟨true,ZmD h,⟨by have:=h.n; omega,Znn h⟩,rfl⟩
end Go.EL

namespace Go.EL
open Go.IntKind (i8 i16 i32 i64 u8 u16 u32 u64)
open Go Go.RowKit
structure PermN (n:Nat) (π:M):Prop where
 perm:IsPerm π
 fix:∀ i:Fin 8,n<=i.val->π i=(i.val:Int)
def permNB(n:Nat)(π:M):Bool:=decide (∀ i,0<=π i/\π i<8) && decide (∀ i j,π i=π j->i=j) && decide (∀ i:Fin 8,n<=i.val->π i=(i.val:Int))
theorem PermN.of{n:Nat}{π:M}(h:permNB n π=true):PermN n π:=by
 unfold permNB at h
 simp only[Bool.and_eq_true,decide_eq_true_eq] at h
 exact⟨⟨h.1.1,h.1.2⟩,h.2⟩
theorem ZnX:((permsL 1).all (permNB 1) && (permsL 2).all (permNB 2) && (permsL 3).all (permNB 3) && (permsL 4).all (permNB 4))=true:=by decide +kernel
theorem Zo3{n:Nat}(h:1<=n/\n<=4){π:M}(hp:π ∈ permsL n):PermN n π:=by
 have:=ZnX
 simp only[Bool.and_eq_true,List.all_eq_true] at this
 obtain⟨⟨⟨h1,h2⟩,h3⟩,h4⟩:=this
 have hn:n=1\/n=2\/n=3\/n=4:=by omega
 rcases hn with rfl|rfl|rfl|rfl
 .exact .of (h1 π hp)
 .exact .of (h2 π hp)
 .exact .of (h3 π hp)
 exact .of (h4 π hp)
theorem ZmZ{n:Nat}:permsL n=(fun i:Fin 8=>(i.val:Int))::(permsL n).tail:=rfl
theorem Znz{n:Nat}(hn:n<=8){π:M}(h:PermN n π){p:Pol}(hp:PolOk p)(hf:fitB p (n:Int)=true):fitB (permP π p) (n:Int)=true:=by
 obtain⟨h1,h2⟩:=(Zdk hn).1 hf
 refine (Zdk hn).2 ⟨fun t ht i hi=>?_,fun t ht=>?_⟩
 .obtain⟨y,hy,rfl⟩:=List.mem_map.1 ((Zbs h.perm hp.ord).1.mem_iff.1 ht)
  show ¬ 0<permM π y.m i
  rw[Zio h.perm y.m i i (h.fix i hi).symm]
  exact h1 y hy i hi
 obtain⟨y,hy,rfl⟩:=List.mem_map.1 ((Zbs h.perm hp.ord).1.mem_iff.1 ht)
 show degM (permM π y.m)<=12
 rw[ZgR h.perm]
 exact h2 y hy
theorem ZnV{π:M}(h:IsPerm π){p:Pol}(hp:PolOk p):(permP π p).length=p.length:=by
 rw[(Zbs h hp.ord).1.length_eq,List.length_map]
theorem Zo2{π:M}(h:IsPerm π){p:Pol}(hp:PolOk p)(hne:p≠[]):permP π p≠[]:=fun e=>by
 have:=ZnV h hp
 rw[e] at this
 exact hne (List.length_eq_zero_iff.1 this.symm)
theorem ZpB{p q:Pol}(hp:PolOk p)(hq:PolOk q)(h:∀ d,-1<=d->((∀ t ∈ p,degM t.m<=d)↔∀ t ∈ q,degM t.m<=d)):degP p=degP q:=by
 have low:∀ r:Pol,-1<=degP r:=fun r=>by
  have key:∀ k,-1<=degPTo r k:=by
   intro k
   induction k with
   | zero=>exact Int.le_refl _
   | succ k ih=>
    unfold degPTo
    split
    .split <;> omega
    exact ih
  exact key _
 have h1:=(Zdi (low q)).2 ((h _ (low q)).2 ((Zdi (low q)).1 (Int.le_refl _)))
 have h2:=(Zdi (low p)).2 ((h _ (low p)).1 ((Zdi (low p)).1 (Int.le_refl _)))
 omega
theorem ZnU{π:M}(h:IsPerm π){p:Pol}(hp:PolOk p):degP (permP π p)=degP p:=by
 refine ZpB (ZeA h hp) hp (fun d _=>⟨fun hd t ht=>?_,fun hd t ht=>?_⟩)
 .have:=hd (permT π t) ((Zbs h hp.ord).1.mem_iff.2 (List.mem_map.2 ⟨t,ht,rfl⟩))
  have e:degM (permT π t).m=degM t.m:=ZgR h t.m
  omega
 obtain⟨y,hy,rfl⟩:=List.mem_map.1 ((Zbs h hp.ord).1.mem_iff.1 ht)
 have:=hd y hy
 have e:degM (permT π y).m=degM y.m:=ZgR h y.m
 omega
theorem ZpU{n:Nat}(h:n<=4):fitB oneP (n:Int)=true:=(Zdk (by omega)).2 ⟨fun t ht i _=>by rw[oneP,List.mem_singleton] at ht; subst ht; exact Int.lt_irrefl 0,fun t ht=>by rw[oneP,List.mem_singleton] at ht; subst ht; decide⟩
theorem ZpT:degP oneP=0:=by decide
theorem Zk2{l:List Pol}{plain:Bool}{q:Pol}(h:q ∈ kept l plain):∃ p ∈ l,q=primP p/\p≠[]/\(plain=true->degP p≠0):=by
 obtain⟨h1,h2⟩:=List.mem_filter.1 h
 obtain⟨p,hp,rfl⟩:=List.mem_map.1 h1
 unfold keepP at h2
 simp only[Bool.and_eq_true,Bool.not_eq_true',Bool.and_eq_false_iff] at h2
 refine⟨p,hp,rfl,fun e=>?_,fun e=>?_⟩
 .rw[e] at h2; cases h2.1
 rcases h2.2 with h2|h2
 .rw[e] at h2; cases h2
 rw[Zdx] at h2; exact of_decide_eq_false h2
theorem Zmf{n:Nat}(hn:n<=4){least:Int}{l:List Pol}(hl:(srtP l).length<=12)(h:∀ p ∈ l,PolOk p/\fitB p (n:Int)=true/\p≠[]/\primP p=p/\least<=degP p):PartOk (n:Int) least (srtP l):=by
 obtain⟨s1,s2⟩:=ZeC (l:=l) (fun p hp=>(h p hp).1.good)
 exact⟨hl,fun p hp=>h p ((s2 p).1 hp),s1⟩
theorem Zl7{n:Nat}(hn:1<=n/\n<=4){eqs neqs:List Pol}(he:∀ p ∈ eqs,PolOk p/\fitB p (n:Int)=true)(hi:∀ p ∈ neqs,PolOk p/\fitB p (n:Int)=true)(l1:(srtP (eqsN eqs neqs)).length<=12)(l2:(srtP (kept neqs true)).length<=12):
  CoreOk ⟨(n:Int),srtP (eqsN eqs neqs),srtP (kept neqs true)⟩ where
 n:=by show 1<=(n:Int)/\(n:Int)<=4; omega
 eqs:=Zmf hn.2 l1 fun p hp=>by
  rcases List.mem_append.1 hp with h|h
  .obtain⟨q,hq,rfl,h0,_⟩:=Zk2 h
   have ho:=(he q hq).1
   exact⟨Zej ho,by rw[Zlh]; exact (he q hq).2,fun e=>h0 (Zgf.1 e),Zj1 ho,by rw[Zdx]; exact ZfX ho h0⟩
  rw[Zld p h]
  exact⟨Zhg,ZpU hn.2,by decide,ZoY,by rw[ZpT]; decide⟩
 neqs:=Zmf hn.2 l2 fun p hp=>by
  obtain⟨q,hq,rfl,h0,h1⟩:=Zk2 hp
  have ho:=(hi q hq).1
  have:=ZfX ho h0
  have:=h1 rfl
  exact⟨Zej ho,by rw[Zlh]; exact (hi q hq).2,fun e=>h0 (Zgf.1 e),Zj1 ho,by rw[Zdx]; omega⟩
def permK(k:Zg)(π:M):Zg:=(normF k.n (k.eqs.map (permP π)) (k.neqs.map (permP π))).1
theorem ZjX{l:List Pol}(h:∀ p ∈ l,p≠[]):onesF l=[]:=by
 unfold onesF
 rw[List.filter_eq_nil_iff.2 fun p hp=>by simpa using h p hp]
 rfl
structure Perm1 (k:Zg) (π:M):Prop where
 norm:normF k.n (k.eqs.map (permP π)) (k.neqs.map (permP π))=(permK k π,0)
 eq:permK k π=⟨k.n,srtP (eqsN (k.eqs.map (permP π)) (k.neqs.map (permP π))),srtP (kept (k.neqs.map (permP π)) true)⟩
 core:CoreOk (permK k π)
theorem ZnP{l:List Pol}{n:Nat}{least:Int}(hn:n<=4)(h:PartOk (n:Int) least l){π:M}(hπ:PermN n π):∀ p ∈ l.map (permP π),PolOk p/\fitB p (n:Int)=true/\p≠[]/\least<=degP p:=fun p hp=>by
 obtain⟨q,hq,rfl⟩:=List.mem_map.1 hp
 obtain⟨q1,q2,q3,q4,q5⟩:=h.pol q hq
 exact⟨ZeA hπ.perm q1,Znz (by omega) hπ q1 q2,Zo2 hπ.perm q1 q3,by rw[ZnU hπ.perm q1]; exact q5⟩
theorem perm1{k:Zg}(h:CoreOk k){π:M}(hπ:PermN k.n.toNat π):Perm1 k π:=by
 obtain⟨n,eqs,neqs⟩:=k
 obtain⟨m,rfl,m1,m4⟩:=Zk9 h.n
 dsimp only at hπ ⊢
 rw[Int.toNat_natCast] at hπ
 have he:=ZnP m4 h.eqs hπ
 have hi:=ZnP m4 h.neqs hπ
 have l1:(srtP (eqsN (eqs.map (permP π)) (neqs.map (permP π)))).length<=12:=by
  have q1:=ZhB (eqsN (eqs.map (permP π)) (neqs.map (permP π)))
  have q2:=ZbU (eqs.map (permP π)) false
  have q3:=h.eqs.len
  unfold eqsN at q1
  rw[ZjX (fun p hp=>(hi p hp).2.2.1),List.append_nil] at q1
  unfold eqsN
  rw[ZjX (fun p hp=>(hi p hp).2.2.1),List.append_nil]
  rw[List.length_map] at q2
  dsimp only at q3
  omega
 have l2:(srtP (kept (neqs.map (permP π)) true)).length<=12:=by
  have q1:=ZhB (kept (neqs.map (permP π)) true)
  have q2:=ZbU (neqs.map (permP π)) true
  have q3:=h.neqs.len
  rw[List.length_map] at q2
  dsimp only at q3
  omega
 have hc:=Zl7 ⟨m1,m4⟩ (fun p hp=>⟨(he p hp).1,(he p hp).2.1⟩) (fun p hp=>⟨(hi p hp).1,(hi p hp).2.1⟩) l1 l2
 have hall:(eqs.map (permP π)++neqs.map (permP π)).all (fun p=>fitB p (m:Int))=true:=List.all_eq_true.2 fun p hp=>(List.mem_append.1 hp).elim (fun h=>(he p h).2.1) (fun h=>(hi p h).2.1)
 have hN:normF (m:Int) (eqs.map (permP π)) (neqs.map (permP π))=(⟨(m:Int),srtP (eqsN (eqs.map (permP π)) (neqs.map (permP π))),srtP (kept (neqs.map (permP π)) true)⟩,0):=by
  unfold normF
  rw[if_pos ⟨by omega,by omega⟩,if_pos hall,if_neg (by omega),if_neg (by omega)]
 have hE:permK ⟨(m:Int),eqs,neqs⟩ π=⟨(m:Int),srtP (eqsN (eqs.map (permP π)) (neqs.map (permP π))),srtP (kept (neqs.map (permP π)) true)⟩:=by
  unfold permK
  dsimp only
  rw[hN]
 exact⟨by rw[hN,hE],hE,by rw[hE]; exact hc⟩
theorem Zhi{l:List Pol}(hl:l.length<=100)(h:∀ p ∈ l,PolOk p){π:M}(hπ:IsPerm π):(ZbQ l π).Ret (l.map (permP π)):=by
 refine⟨⟨by omega,by omega⟩,?_⟩
 refine Cq.Zq l.length (fun k s=>s=((l.take k).map (permP π)++List.replicate (l.length-k) [],(k:Int))) (fun k s hk hs=>?_) (fun s hs=>?_) (by show _=_; simp)
 .subst hs
  have hlen:((l.take k).map (permP π)++List.replicate (l.length-k) ([]:Pol)).length=l.length:=by simp; omega
  refine Cq.wp.yes (by omega) ⟨_,idxN hk,_,ZlA hπ (h _ (List.getElem_mem hk)),_,idxN (by rw[hlen]; exact hk),?_⟩
  show _=_
  rw[wrapN (by omega),Int.toNat_natCast,List.take_succ_eq_append_getElem hk,List.map_append,List.map_singleton]
  congr 1
  rw[List.set_append,if_neg (by rw[List.length_map,List.length_take]; omega)]
  have e:l.length-k=(l.length-(k+1))+1:=by omega
  have hk2:k-((l.take k).map (permP π)).length=0:=by simp; omega
  rw[hk2,e,List.replicate_succ,List.set_cons_zero,List.append_assoc]
  rfl
 subst hs
 refine Cq.wp.no (by omega) ?_
 show _=_
 rw[List.take_of_length_le (Nat.le_refl _)]
 simp
def bestF(k:Zg):List M->Zg×M->Zg×M
 | [],s=>s
 | π::l,s=>bestF k l (if Op.bytesLess (keyB (permK k π)).toList (keyB s.1).toList=true then (permK k π,π) else s)
def canonF(k:Zg):Zg×M:=bestF k (permsL k.n.toNat).tail (permK k (fun i=>(i.val:Int)),fun i=>(i.val:Int))
theorem ZmF(l:List Int):(bytesOf l).size=l.length:=by
 have key:∀ (l:List Int) (b:ByteArray),(l.foldl (fun r n=>r.push (UInt8.ofNat n.toNat)) b).size=b.size+l.length:=by
  intro l
  induction l with
  | nil=>intro b; rfl
  | cons x l ih=>intro b; rw[List.foldl_cons,ih,ByteArray.size_push,List.length_cons]; omega
 have:=key l ByteArray.empty
 unfold bytesOf
 rw[this]
 simp
theorem Zqk(k:Zg):keyB k≠ByteArray.empty:=fun e=>by
 have h1:=ZmF (coreW k)
 have h2:(keyB k).size=0:=by rw[e]; rfl
 unfold keyB at h2
 rw[h1] at h2
 have:1<=(numW k.n).length:=by
  unfold numW natW natG
  split <;> simp
 unfold coreW at h2
 simp only[List.length_append] at h2
 omega
theorem ZiI{k:Zg}(h:CoreOk k){π:M}(hπ:PermN k.n.toNat π){s:Zg×M×ByteArray}:
  (canonS k π s).Ret (if s.2.2=ByteArray.empty then (permK k π,π,keyB (permK k π)) else if Op.bytesLess (keyB (permK k π)).toList s.2.2.toList=true then (permK k π,π,keyB (permK k π)) else s):=by
 have l1:=h.eqs.len
 have l2:=h.neqs.len
 have hp:=perm1 h hπ
 refine⟨_,Zhi (by omega) (fun p hp=>(h.eqs.pol p hp).1) hπ.perm,_,Zhi (by omega) (fun p hp=>(h.neqs.pol p hp).1) hπ.perm,(permK k π,0),?_,Cq.wp.no (fun h=>h rfl) ⟨_,Zpo hp.core,?_⟩⟩
 .rw[<- hp.norm]
  refine ZhS (by rw[List.length_map]; omega) (by rw[List.length_map]; omega) (fun p hp=>?_) (fun p hp=>?_)
  .obtain⟨q,hq,rfl⟩:=List.mem_map.1 hp
   exact ZeA hπ.perm (h.eqs.pol q hq).1
  obtain⟨q,hq,rfl⟩:=List.mem_map.1 hp
  exact ZeA hπ.perm (h.neqs.pol q hq).1
 by_cases h1:s.2.2=ByteArray.empty
 .rw[if_pos h1]; exact Cq.wp.yes h1 rfl
 rw[if_neg h1]
 refine Cq.wp.no h1 ?_
 by_cases h2:Op.bytesLess (keyB (permK k π)).toList s.2.2.toList=true
 .refine Cq.wp.yes h2 ?_
  show _=_
  rw[if_pos h2]
 refine Cq.wp.no h2 ?_
 show _=_
 rw[if_neg h2]
theorem ZfS{k:Zg}(h:CoreOk k):∀ {l:List M}{c:Zg}{f:M},(∀ π ∈ l,PermN k.n.toNat π)->(canonL k l (c,f,keyB c)).Ret ((bestF k l (c,f)).1,(bestF k l (c,f)).2,keyB (bestF k l (c,f)).1)
 | [],_,_,_=>rfl
 | π::l,c,f,hl=>by
  refine⟨_,ZiI h (hl π (by simp)),?_⟩
  dsimp only
  rw[if_neg (Zqk c)]
  unfold bestF
  split
  .exact ZfS h (fun x hx=>hl x (by simp[hx]))
  exact ZfS h (fun x hx=>hl x (by simp[hx]))
theorem permsN{k:Zg}(h:CoreOk k):∀ π ∈ permsL k.n.toNat,PermN k.n.toNat π:=fun _ hp=>Zo3 (by have:=h.n; omega) hp
theorem Znc{k:Zg}(h:CoreOk k):(ZeD k).Ret (canonF k):=by
 refine⟨h.n,((canonF k).1,(canonF k).2,keyB (canonF k).1),?_,rfl⟩
 have hp:=permsN h
 rw[ZmZ] at hp ⊢
 refine⟨_,ZiI h (hp _ (by simp)),?_⟩
 rw[if_pos rfl]
 exact ZfS h (fun x hx=>hp x (by simp[hx]))
end Go.EL

namespace Go.EL
open Go.IntKind (i8 i16 i32 i64 u8 u16 u32 u64)
open Go Go.RowKit
def polB(p:Pol):Bool:=decide (p.Pairwise fun x y=>0<cmpM x.m y.m) && p.all (fun t=>goodC t.c && decide (∀ i,0<=t.m i/\t.m i<=65535)) && decide (p.length<=100)
theorem PolOk.of{p:Pol}(h:polB p=true):PolOk p:=by
 unfold polB at h
 simp only[Bool.and_eq_true,decide_eq_true_eq,List.all_eq_true] at h
 obtain⟨⟨h1,h2⟩,h3⟩:=h
 refine⟨h1,fun t ht=>⟨?_,(h2 t ht).2⟩,h3⟩
 obtain⟨n,e,n0,n1,n2⟩:=Zep (h2 t ht).1
 exact⟨n,e,n0,n1,n2⟩
instance decStrict (l:List Pol):Decidable (Strict l):=inferInstanceAs (Decidable (l.Pairwise fun a b=>cmpP a b<0))
def partB(n least:Int)(l:List Pol):Bool:=decide (l.length<=12) && l.all (fun p=>polB p && fitB p n && !p.isEmpty && decide (primP p=p) && decide (least<=degP p)) && decide (Strict l)
theorem PartOk.of{n least:Int}{l:List Pol}(h:partB n least l=true):PartOk n least l:=by
 unfold partB at h
 simp only[Bool.and_eq_true,decide_eq_true_eq,List.all_eq_true,Bool.not_eq_true'] at h
 obtain⟨⟨h1,h2⟩,h3⟩:=h
 refine⟨h1,fun p hp=>?_,h3⟩
 obtain⟨⟨⟨⟨q1,q2⟩,q3⟩,q4⟩,q5⟩:=h2 p hp
 exact⟨.of q1,q2,by simpa using q3,q4,q5⟩
def coreB(k:Zg):Bool:=decide (1<=k.n/\k.n<=4) && partB k.n 0 k.eqs && partB k.n 1 k.neqs
theorem CoreOk.of{k:Zg}(h:coreB k=true):CoreOk k:=by
 unfold coreB at h
 simp only[Bool.and_eq_true,decide_eq_true_eq] at h
 exact⟨h.1.1,.of h.1.2,.of h.2⟩
def vM(a b:Int):M:=fun i=>if i.val=0 then a else if i.val=1 then b else 0
def tP(c a b:Int):Pol:=[⟨ratI c,vM a b⟩]
def lessP:Pol:=[⟨ratI 1,vM 1 0⟩,⟨ratI (-1),vM 0 0⟩]
def exK:Zg:=⟨2,[lessP,[⟨ratI 1,vM 1 0⟩,⟨ratI 1,vM 0 2⟩]],[]⟩
def exL':List Pol:=[[⟨ratI 1,vM 0 1⟩,⟨ratI (-1),vM 0 0⟩],[⟨ratI 1,vM 2 0⟩,⟨ratI 1,vM 0 1⟩]]
def swapM:M:=fun i=>if i.val=0 then 1 else if i.val=1 then 0 else (i.val:Int)
theorem Zqp:CoreOk exK:=.of (by decide +kernel)
instance decCoreT:DecidableEq Zg:=fun ⟨a1,a2,a3⟩ ⟨b1,b2,b3⟩=>decidable_of_iff (a1=b1/\a2=b2/\a3=b3) (by simp)
theorem ZoA:canonF exK=(⟨2,exL',[]⟩,swapM):=by decide +kernel
def exM:Zg:=⟨1,[[⟨ratI 1,vM 1 0⟩,⟨ratI (-2),vM 0 0⟩]],[]⟩
theorem Zju:Zdn.Ret true:=by
 refine⟨tP 1 1 0,Cq.Ret.ZG 100 (by decide +kernel),tP 1 0 0,Cq.Ret.ZG 100 (by decide +kernel),lessP,Cq.Ret.ZG 100 (by decide +kernel),tP 1 0 0,Cq.Ret.ZG 100 (by decide +kernel),tP 2 1 0,Cq.Ret.ZG 100 (by decide +kernel),tP 4 0 0,Cq.Ret.ZG 100 (by decide +kernel),[⟨ratI 2,vM 1 0⟩,⟨ratI (-4),vM 0 0⟩],Cq.Ret.ZG 100 (by decide +kernel),tP 2 0 0,Cq.Ret.ZG 100 (by decide +kernel),tP 1 1 0,Cq.Ret.ZG 100 (by decide +kernel),[⟨ratI (-1),vM 1 0⟩,⟨ratI 2,vM 0 0⟩],Cq.Ret.ZG 100 (by decide +kernel),tP 3 0 0,Cq.Ret.ZG 100 (by decide +kernel),(exM,0),Cq.Ret.ZG 100 (by decide +kernel),(⟨2,[tP 1 0 0],[]⟩,0),Cq.Ret.ZG 100 (by decide +kernel),tP 1 0 1,Cq.Ret.ZG 100 (by decide +kernel),(zeroK,1),Cq.Ret.ZG 100 (by decide +kernel),(zeroK,320),Cq.Ret.ZG 100 (by decide +kernel),tP 1 1 0,Cq.Ret.ZG 100 (by decide +kernel),tP 1 0 2,Cq.Ret.ZG 100 (by decide +kernel),[⟨ratI 1,vM 1 0⟩,⟨ratI 1,vM 0 2⟩],Cq.Ret.ZG 100 (by decide +kernel),(⟨2,exL',[]⟩,swapM),(by rw[<- ZoA]; exact Znc Zqp),tP 1 0 1,Cq.Ret.ZG 100 (by decide +kernel),[⟨ratI 1,vM 0 1⟩,⟨ratI (-1),vM 0 0⟩],Cq.Ret.ZG 100 (by decide +kernel),tP 1 2 0,Cq.Ret.ZG 100 (by decide +kernel),tP 1 0 1,Cq.Ret.ZG 100 (by decide +kernel),[⟨ratI 1,vM 2 0⟩,⟨ratI 1,vM 0 1⟩],Cq.Ret.ZG 100 (by decide +kernel),?_⟩
 refine Cq.wp.no (fun h=>h rfl) (Cq.wp.no (fun h=>h rfl) (Cq.wp.no (fun h=>h rfl) (Cq.wp.no (fun h=>h rfl) ⟨true,Cq.Ret.ZG 100 (by decide +kernel),Cq.wp.no (fun h=>h (by decide +kernel)) ?_⟩)))
 exact Cq.Ret.ZG 100 (by decide +kernel)
end Go.EL

namespace Go.EL
open Go.IntKind (i8 i16 i32 i64 u8 u16 u32 u64)
open Go Go.RowKit
structure PrefE (n:Nat) (next:Int) (l:List Zf) (k:Nat):Prop where
 ids:∀ i (h:i<l.length),i<k->1<=l[i].id/\l[i].id<next
 inc:∀ i (h:i+1<l.length),i+1<k->l[i].id<l[i+1].id
 pol:∀ i (h:i<l.length),i<k->PolOk l[i].p/\fitB l[i].p (n:Int)=true
theorem PrefE.zero(n:Nat)(next:Int)(l:List Zf):PrefE n next l 0:=⟨fun _ _ h=>absurd h (Nat.not_lt_zero _),fun _ _ h=>absurd h (Nat.not_lt_zero _),fun _ _ h=>absurd h (Nat.not_lt_zero _)⟩
end Go.EL

namespace Go.EL
open Go.IntKind (i8 i16 i32 i64 u8 u16 u32 u64)
open Go Go.RowKit
end Go.EL

namespace Go.EL
open Go.IntKind (i8 i16 i32 i64 u8 u16 u32 u64)
open Go Go.RowKit
theorem Zmd(n:Nat)(next:Int):EqsOk n next []:=⟨by simp,fun q hq=>absurd hq List.not_mem_nil,List.Pairwise.nil,fun q hq=>absurd hq List.not_mem_nil⟩
end Go.EL

namespace Go.EL
open Go.IntKind (i8 i16 i32 i64 u8 u16 u32 u64)
open Go Go.RowKit
structure Raw32Ok (x:Zo):Prop where
 n:0<=x.n/\x.n<=255
 l:∀ y ∈ x.l,RawOk y
 gap:∀ g ∈ x.gap,0<=g/\g<=255
theorem ZoS{y:Zv}(h:RawOk y){n:Nat}(hn:n<=4){d:Int}(d0:0<=d)(d12:d<=12){k:Nat}(hk:k<=4):PolOk (madeP y n d k)/\fitB (madeP y n d k) (n:Int)=true:=by
 have hm:=Zk3 h hn d0 k
 refine⟨hm.pol (by omega) (by omega) (by omega),(Zdk (by omega)).2 ⟨fun t ht i hi=>?_,fun t ht=>?_⟩⟩
 .have:=(hm.mon t ht).2.1 i hi
  omega
 have:=(hm.mon t ht).2.2
 omega
theorem EqsOk.upS{n:Nat}{next next':Int}{l:List Zf}(h:EqsOk n next l)(h2:next<=next'):EqsOk n next' l:=⟨h.len,fun q hq=>⟨(h.ids q hq).1,Int.lt_of_lt_of_le (h.ids q hq).2 h2⟩,h.inc,h.pol⟩
theorem EqsOk.snoc{n:Nat}{next:Int}{l:List Zf}(h:EqsOk n next l)(hl:l.length<12){i:Int}{p:Pol}(hp:PolOk p/\fitB p (n:Int)=true)(h1:1<=next)(hi:next<=i):EqsOk n (i+1) (l++[⟨i,p⟩]) where
 len:=by rw[List.length_append,List.length_singleton]; omega
 ids:=fun q hq=>by
  rcases List.mem_append.1 hq with hq|hq
  .have:=h.ids q hq; omega
  rw[List.mem_singleton] at hq; subst hq
  show 1<=i/\i<i+1
  omega
 inc:=by
  rw[List.pairwise_append]
  refine⟨h.inc,List.pairwise_singleton _ _,fun a ha b hb=>?_⟩
  rw[List.mem_singleton] at hb; subst hb
  have:=h.ids a ha
  show a.id<i
  omega
 pol:=fun q hq=>by
  rcases List.mem_append.1 hq with hq|hq
  .exact h.pol q hq
  rw[List.mem_singleton] at hq; subst hq; exact hp
def gapAt(x:Zo)(k:Nat):Int:=if 0<x.gap.length then Int.tmod (x.gap.getD (k % x.gap.length) 0) 4 else 0
def made32(x:Zo)(n:Nat):Nat->List Zf×List Zf×Int
 | 0=>([],[],1)
 | k+1=>
  if k % 3=2 then ((made32 x n k).1,(made32 x n k).2.1++[⟨(made32 x n k).2.2+gapAt x k,madeP (x.l.getD k ⟨[]⟩) n 2 3⟩],(made32 x n k).2.2+gapAt x k+1)
  else ((made32 x n k).1++[⟨(made32 x n k).2.2+gapAt x k,madeP (x.l.getD k ⟨[]⟩) n 2 3⟩],(made32 x n k).2.1,(made32 x n k).2.2+gapAt x k+1)
theorem Zh0(x:Zo)(n k:Nat):made32 x n (k+1) =
  if k % 3=2 then ((made32 x n k).1,(made32 x n k).2.1++[⟨(made32 x n k).2.2+gapAt x k,madeP (x.l.getD k ⟨[]⟩) n 2 3⟩],(made32 x n k).2.2+gapAt x k+1)
  else ((made32 x n k).1++[⟨(made32 x n k).2.2+gapAt x k,madeP (x.l.getD k ⟨[]⟩) n 2 3⟩],(made32 x n k).2.1,(made32 x n k).2.2+gapAt x k+1):=rfl
theorem ZnC{x:Zo}(h:Raw32Ok x)(k:Nat):0<=gapAt x k/\gapAt x k<=3:=by
 unfold gapAt
 split
 .rename_i hp
  have hlt:k % x.gap.length<x.gap.length:=Nat.mod_lt _ hp
  have hg:=h.gap (x.gap[k % x.gap.length]) (List.getElem_mem hlt)
  rw[List.getD_eq_getElem?_getD,List.getElem?_eq_getElem hlt,Option.getD_some]
  have:=ZfJ hg.1 (show (0:Int)<4 by decide)
  omega
 omega
structure MadeI (n:Nat) (k:Nat) (s:List Zf×List Zf×Int):Prop where
 next:1<=s.2.2/\s.2.2<=1+4*k
 eqs:EqsOk n s.2.2 s.1
 neqs:EqsOk n s.2.2 s.2.1
 apart:∀ a ∈ s.1,∀ b ∈ s.2.1,a.id≠b.id
 len:s.1.length+s.2.1.length<=k
theorem Zlj{x:Zo}(h:Raw32Ok x)(k:Nat):RawOk (x.l.getD k ⟨[]⟩):=by
 rw[List.getD_eq_getElem?_getD]
 cases he:x.l[k]? with
 | none=>exact fun v hv=>by cases hv
 | some y=>exact h.l y (List.mem_of_getElem? he)
theorem Zg7{x:Zo}(h:Raw32Ok x){n:Nat}(hn:n<=4):∀ k,k<=6->MadeI n k (made32 x n k)
 | 0,_=>⟨⟨Int.le_refl 1,(by decide:(1:Int)<=1+4*0)⟩,Zmd _ _,Zmd _ _,fun a ha=>absurd ha List.not_mem_nil,Nat.le_refl 0⟩
 | k+1,hk=>by
  have ih:=Zg7 h hn k (by omega)
  obtain⟨g0,g3⟩:=ZnC h k
  have hp:=ZoS (Zlj h k) hn (d:=2) (by decide) (by decide) (k:=3) (by decide)
  have hnx:=ih.next
  have hl:=ih.len
  unfold made32
  generalize made32 x n k=s at *
  obtain⟨e,i,nx⟩:=s
  dsimp only at *
  by_cases h3:k % 3=2
  .rw[if_pos h3]
   refine⟨⟨by show 1<=nx+gapAt x k+1; omega,by show nx+gapAt x k+1<=_; omega⟩,ih.eqs.upS (by show nx<=nx+gapAt x k+1; omega),ih.neqs.snoc (by show i.length<12; omega) hp (by show 1<=nx; omega) (by show nx<=nx+gapAt x k; omega),fun a ha b hb=>?_,by show e.length+(i++[_]).length<=k+1; rw[List.length_append,List.length_singleton]; omega⟩
   rcases List.mem_append.1 hb with hb|hb
   .exact ih.apart a ha b hb
   rw[List.mem_singleton] at hb; subst hb
   have:=(ih.eqs.ids a ha).2
   show a.id≠nx+gapAt x k
   dsimp only at this
   omega
  rw[if_neg h3]
  refine⟨⟨by show 1<=nx+gapAt x k+1; omega,by show nx+gapAt x k+1<=_; omega⟩,ih.eqs.snoc (by show e.length<12; omega) hp (by show 1<=nx; omega) (by show nx<=nx+gapAt x k; omega),ih.neqs.upS (by show nx<=nx+gapAt x k+1; omega),fun a ha b hb=>?_,by show (e++[_]).length+i.length<=k+1; rw[List.length_append,List.length_singleton]; omega⟩
  rcases List.mem_append.1 ha with ha|ha
  .exact ih.apart a ha b hb
  rw[List.mem_singleton] at ha; subst ha
  have:=(ih.neqs.ids b hb).2
  show nx+gapAt x k≠b.id
  dsimp only at this
  omega
def names32:List ByteArray:=[ZO,ZJ,ZE]
theorem ZmT:(names32.all nameB && decide (names32.Pairwise fun a b=>a≠b))=true:=by decide +kernel
def nOf(x:Zo):Nat:=x.n.toNat % 4
def madeS32(x:Zo):Zn:=⟨names32.take (nOf x),(made32 x (nOf x) (min x.l.length 6)).1,(made32 x (nOf x) (min x.l.length 6)).2.1,(made32 x (nOf x) (min x.l.length 6)).2.2⟩
theorem Zhc(x:Zo):nOf x<4:=Nat.mod_lt _ (by decide)
theorem Zhd(x:Zo):(names32.take (nOf x)).length=nOf x:=by
 have:=Zhc x
 rw[List.length_take]
 show min _ 3=_
 omega
theorem ZmS{x:Zo}(h:Raw32Ok x):Good (madeS32 x)/\(madeS32 x).eqs.length+(madeS32 x).neqs.length<=6:=by
 have hn:=Zhc x
 have hi:=Zg7 h (n:=nOf x) (by omega) (min x.l.length 6) (by omega)
 have hN:=ZmT
 simp only[Bool.and_eq_true,List.all_eq_true,decide_eq_true_eq] at hN
 have hl:=hi.len
 have hx:=hi.next
 refine⟨⟨by show (names32.take _).length<=4; rw[Zhd]; omega,fun v hv=>hN.1 v (List.mem_of_mem_take hv),hN.2.sublist (List.take_sublist _ _),⟨hx.1,?_⟩,?_,?_,hi.apart⟩,?_⟩
 .show (made32 x (nOf x) (min x.l.length 6)).2.2<=1000000
  omega
 .show EqsOk (names32.take _).length _ _
  rw[Zhd]; exact hi.eqs
 .show EqsOk (names32.take _).length _ _
  rw[Zhd]; exact hi.neqs
 show (made32 x (nOf x) (min x.l.length 6)).1.length+(made32 x (nOf x) (min x.l.length 6)).2.1.length<=6
 omega
theorem tmod4n{x:Zo}(h:Raw32Ok x):i64.wrap (Int.tmod x.n 4)=((nOf x:Nat):Int):=by
 obtain⟨h0,h1⟩:=h.n
 have e:Int.tmod x.n 4=((nOf x:Nat):Int):=by
  rw[Int.tmod_eq_emod_of_nonneg h0]
  unfold nOf
  omega
 have:=Zhc x
 rw[e,wrap64 (by omega)]
theorem Zmp{x:Zo}(h:Raw32Ok x):(ZfO x).Ret (madeS32 x):=by
 have hn:=Zhc x
 unfold ZfO
 rw[tmod4n h]
 refine⟨⟨Int.le_refl 0,by omega,by show ((nOf x:Nat):Int)<=3; omega⟩,?_⟩
 have stop:∀ s:List Zf×List Zf×Int,s=made32 x (nOf x) (min x.l.length 6)->(Zfa ((names32.take ((nOf x:Nat):Int).toNat).drop (0:Int).toNat) s.1 s.2.1 s.2.2).Ret (madeS32 x):=fun s hs=>by
  subst hs
  show _=_
  rw[Int.toNat_natCast]
  rfl
 refine Cq.Zq (min x.l.length 6) (fun k s=>s=((k:Int),(names32.take ((nOf x:Nat):Int).toNat).drop (0:Int).toNat,(made32 x (nOf x) k).1,(made32 x (nOf x) k).2.1,(made32 x (nOf x) k).2.2)) (fun k s hk hs=>?_) (fun s hs=>?_) rfl
 .subst hs
  have hi:=Zg7 h (n:=nOf x) (by omega) k (by omega)
  have hkl:k<x.l.length:=by omega
  have hx:=hi.next
  have hl:=hi.len
  obtain⟨g0,g3⟩:=ZnC h k
  refine Cq.wp.yes (by omega) (Cq.wp.yes (by omega) ?_)
  have key:(ZdC x (k:Int) ((names32.take ((nOf x:Nat):Int).toNat).drop (0:Int).toNat) (made32 x (nOf x) k).1 (made32 x (nOf x) k).2.1 (made32 x (nOf x) k).2.2 (gapAt x k)).wp (Out (fun s=>s=(((k+1:Nat):Int),(names32.take ((nOf x:Nat):Int).toNat).drop (0:Int).toNat,(made32 x (nOf x) (k+1)).1,(made32 x (nOf x) (k+1)).2.1,(made32 x (nOf x) (k+1)).2.2)) fun o=>(match o with|(bxvars1,bxeqs1,bxneqs1,bxnext1)=>Zfa bxvars1 bxeqs1 bxneqs1 bxnext1).wp fun a=>a=madeS32 x):=by
   refine⟨_,idxN hkl,madeP x.l[k] (nOf x) 2 3,?_,?_⟩
   .rw[tmod4n h]
    exact Zop (h.l _ (List.getElem_mem hkl)) (by omega) (by decide) (by decide) (k:=3) (by decide)
   have eg:x.l.getD k ⟨[]⟩=x.l[k]:=by rw[List.getD_eq_getElem?_getD,List.getElem?_eq_getElem hkl]; rfl
   have ew:i64.wrap ((made32 x (nOf x) k).2.2+gapAt x k)=(made32 x (nOf x) k).2.2+gapAt x k:=wrap64 (by omega)
   have ew2:i64.wrap ((made32 x (nOf x) k).2.2+gapAt x k+1)=(made32 x (nOf x) k).2.2+gapAt x k+1:=wrap64 (by omega)
   have em:Int.tmod (k:Int) 3=((k % 3:Nat):Int):=by rw[Int.tmod_eq_emod_of_nonneg (by omega)]; omega
   rw[Zh0]
   by_cases h3:k % 3=2
   .rw[if_pos h3]
    refine Cq.wp.yes (by rw[em]; omega) ⟨?_,?_⟩
    .rw[List.length_append,List.length_singleton]; simp only[small]; omega
    show _=_
    rw[wrapN (by omega),ew,ew2,eg]
   rw[if_neg h3]
   refine Cq.wp.no (by rw[em]; omega) ⟨?_,?_⟩
   .rw[List.length_append,List.length_singleton]; simp only[small]; omega
   show _=_
   rw[wrapN (by omega),ew,ew2,eg]
  show (ZdD x (k:Int) _ _ _ _).wp _
  unfold ZdD
  by_cases hg:0<x.gap.length
  .have hlt:k % x.gap.length<x.gap.length:=Nat.mod_lt _ hg
   have em:Int.tmod (k:Int) (x.gap.length:Int)=((k % x.gap.length:Nat):Int):=by rw[Int.tmod_eq_emod_of_nonneg (by omega)]; rfl
   refine Cq.wp.yes (by omega) ⟨by omega,?_⟩
   rw[em]
   refine⟨_,idxN hlt,?_⟩
   have ea:gapAt x k=Int.tmod x.gap[k % x.gap.length] 4:=by
    unfold gapAt
    rw[if_pos hg,List.getD_eq_getElem?_getD,List.getElem?_eq_getElem hlt,Option.getD_some]
   dsimp only
   rw[<- ea,wrap64 (by omega)]
   exact key
  have ea:gapAt x k=0:=if_neg hg
  refine Cq.wp.no (by omega) ?_
  rw[ea] at key
  exact key
 subst hs
 by_cases hl:x.l.length<=6
 .refine Cq.wp.no (by omega) ?_
  exact stop _ rfl
 refine Cq.wp.yes (by omega) (Cq.wp.no (by omega) ?_)
 exact stop _ rfl
end Go.EL

namespace Go.EL
open Go.IntKind (i8 i16 i32 i64 u8 u16 u32 u64)
open Go Go.RowKit
def nv:List Int->Int
 | []=>0
 | x::l=>x+4294967296*nv l
def Wd(l:List Int):Prop:=∀ x ∈ l,0<=x/\x<4294967296
theorem Wd.nil:Wd []:=fun _ h=>(nomatch h)
theorem Wd.cons{x:Int}{l:List Int}(h:0<=x/\x<4294967296)(hl:Wd l):Wd (x::l):=fun y hy=>by
 rcases List.mem_cons.1 hy with rfl|hy
 .exact h
 exact hl y hy
theorem Wd.head{x:Int}{l:List Int}(h:Wd (x::l)):0<=x/\x<4294967296:=h x (List.mem_cons_self ..)
theorem Wd.tail{x:Int}{l:List Int}(h:Wd (x::l)):Wd l:=fun y hy=>h y (List.mem_cons_of_mem _ hy)
theorem Wd.append{a b:List Int}(ha:Wd a)(hb:Wd b):Wd (a++b):=fun y hy=>by
 rcases List.mem_append.1 hy with h|h
 .exact ha y h
 exact hb y h
theorem Wd.left{a b:List Int}(h:Wd (a++b)):Wd a:=fun y hy=>h y (List.mem_append_left _ hy)
theorem Wd.take{a:List Int}(h:Wd a)(n:Nat):Wd (a.take n):=fun y hy=>h y (List.mem_of_mem_take hy)
theorem Wd.drop{a:List Int}(h:Wd a)(n:Nat):Wd (a.drop n):=fun y hy=>h y (List.mem_of_mem_drop hy)
theorem Wd.get{a:List Int}(h:Wd a){i:Nat}(hi:i<a.length):0<=a[i]/\a[i]<4294967296:=h _ (List.getElem_mem hi)
theorem Wd.zeros(n:Nat):Wd (List.replicate n 0):=fun y hy=>by
 rw[List.eq_of_mem_replicate hy]; decide
theorem ZN:nv []=0:=rfl
theorem ZL(x:Int)(l:List Int):nv (x::l)=x+4294967296*nv l:=rfl
theorem ZdV(x:Int):nv [x]=x:=by rw[ZL,ZN]; omega
theorem ZT(n:Nat):(4294967296:Int) ^ (n+1)=4294967296*4294967296 ^ n:=by rw[Int.pow_succ,Int.mul_comm]
theorem Z5(n:Nat):(0:Int)<4294967296 ^ n:=Int.pow_pos (by decide)
theorem ZdU(a b:List Int):nv (a++b)=nv a+4294967296 ^ a.length*nv b:=by
 induction a with
 | nil=>rw[List.nil_append,ZN,List.length_nil,Int.pow_zero]; omega
 | cons x a ih=>
  rw[List.cons_append,ZL,ZL,ih,List.length_cons,ZT,Int.mul_add,Int.mul_assoc]; omega
theorem Zz{a:List Int}(h:Wd a):0<=nv a:=by
 induction a with
 | nil=>exact Int.le_refl _
 | cons x a ih=>
  have:=h.head; have:=ih h.tail
  rw[ZL]; omega
theorem ZaR{a:List Int}(h:Wd a):nv a<4294967296 ^ a.length:=by
 induction a with
 | nil=>decide
 | cons x a ih=>
  have:=h.head; have:=ih h.tail
  rw[ZL,List.length_cons,ZT]; omega
theorem Zin(n:Nat):nv (List.replicate n 0)=0:=by
 induction n with
 | zero=>rfl
 | succ n ih=>rw[List.replicate_succ,ZL,ih]; decide
theorem Zl{a:List Int}{i:Nat}(h:i<a.length):nv (a.take (i+1))=nv (a.take i)+4294967296 ^ i*a[i]:=by
 rw[List.take_succ_eq_append_getElem h,ZdU,ZdV,List.length_take,Nat.min_eq_left (Nat.le_of_lt h)]
theorem Za4(a:List Int)(i:Nat)(h:i<=a.length):nv a=nv (a.take i)+4294967296 ^ i*nv (a.drop i):=by
 have:=ZdU (a.take i) (a.drop i)
 rw[List.take_append_drop,List.length_take,Nat.min_eq_left h] at this
 exact this
theorem Zqm{a b:List Int}(ha:Wd a)(hb:Wd b)(hl:a.length=b.length)(h:nv a=nv b):a=b:=by
 induction a generalizing b with
 | nil=>cases b with
  | nil=>rfl
  | cons y b=>cases hl
 | cons x a ih=>
  cases b with
  | nil=>cases hl
  | cons y b=>
   rw[ZL,ZL] at h
   have h1:=ha.head; have h2:=hb.head
   have e:x=y:=by omega
   subst e
   rw[ih ha.tail hb.tail (Nat.succ.inj hl) (by omega)]
theorem Zqr{a:List Int}(h:Wd a)(hn:0<a.length)(h0:a[a.length-1]'(by omega)≠0):4294967296 ^ (a.length-1)<=nv a:=by
 rw[Za4 a (a.length-1) (by omega)]
 have h1:a.drop (a.length-1)=[a[a.length-1]'(by omega)]:=by
  rw[List.drop_eq_getElem_cons (by omega)]
  rw[show a.length-1+1=a.length by omega,List.drop_length]
 rw[h1,ZdV]
 have h2:=Zz (h.take (a.length-1))
 have h3:=h.get (show a.length-1<a.length by omega)
 have h4:(4294967296:Int) ^ (a.length-1)*1<=4294967296 ^ (a.length-1)*a[a.length-1]'(by omega):=Int.mul_le_mul_of_nonneg_left (by omega) (Int.le_of_lt (Z5 _))
 omega
structure Guess (U V t v1 q r:Int):Prop where
 tv:q*v1+r=t
 up:U<(q+1)*V
section
variable {U V P t u2 Ul v1 v2 Vl:Int}
structure Parts2 (U V P t u2 Ul v1 v2 Vl:Int):Prop where
 p:0<P
 v:V=(v1*4294967296+v2)*P+Vl
 u:U=(t*4294967296+u2)*P+Ul
 vl:0<=Vl/\Vl<P
 ul:0<=Ul/\Ul<P
 w1:0<v1/\v1<4294967296
 w2:0<=v2/\v2<4294967296
 x2:0<=u2/\u2<4294967296
 t:0<=t
 lt:U<V*4294967296
theorem Parts2.start(h:Parts2 U V P t u2 Ul v1 v2 Vl):Guess U V t v1 (t / v1) (t % v1) where
 tv:=by rw[Int.mul_comm]; exact Int.mul_ediv_add_emod t v1
 up:=by
  have h1:=Int.emod_lt_of_pos t h.w1.1
  have h2:v1*(t / v1)+t % v1=t:=Int.mul_ediv_add_emod t v1
  generalize t / v1=q at h2
  have h3:t+1<=(q+1)*v1:=by rw[Int.add_mul,Int.mul_comm q]; omega
  have hq:0<=q+1:=by
   rcases Int.lt_or_le (q+1) 0 with c|c
   .have:(q+1)*v1<0:=Int.mul_neg_of_neg_of_pos c h.w1.1
    have:=h.t; omega
   exact c
  have a1:U<(t*4294967296+u2+1)*P:=by
   rw[h.u,Int.add_mul (t*4294967296+u2) 1 P]; have:=h.ul; omega
  have a2:(t*4294967296+u2+1)*P<=((q+1)*v1*4294967296)*P:=Int.mul_le_mul_of_nonneg_right (by have:=h.x2; omega) (Int.le_of_lt h.p)
  have a3:((q+1)*v1*4294967296)*P<=(q+1)*V:=by
   rw[Int.mul_assoc (q+1),Int.mul_assoc (q+1)]
   refine Int.mul_le_mul_of_nonneg_left ?_ hq
   rw[h.v,Int.add_mul]
   have:=Int.mul_nonneg h.w2.1 (Int.le_of_lt h.p)
   have:=h.vl; omega
  omega
theorem Parts2.step1(h:Parts2 U V P t u2 Ul v1 v2 Vl){q r:Int}(g:Guess U V t v1 q r)(hq:4294967296<=q):Guess U V t v1 (q-1) (r+v1) where
 tv:=by have:=g.tv; rw[Int.sub_mul]; omega
 up:=by
  have hV:0<=V:=by
   have:=h.lt; have:=Int.mul_nonneg h.t (Int.le_of_lt h.p)
   rw[h.v]
   have a:=Int.mul_nonneg (show 0<=v1*4294967296+v2 by have:=h.w1; have:=h.w2; omega) (Int.le_of_lt h.p)
   have:=h.vl; omega
  have:4294967296*V<=q*V:=Int.mul_le_mul_of_nonneg_right hq hV
  rw[show q-1+1=q by omega]
  have:=h.lt; omega
theorem Parts2.step2(h:Parts2 U V P t u2 Ul v1 v2 Vl){q r:Int}(g:Guess U V t v1 q r)(hq0:0<=q)(hq:r*4294967296+u2<q*v2):Guess U V t v1 (q-1) (r+v1) where
 tv:=by have:=g.tv; rw[Int.sub_mul]; omega
 up:=by
  rw[show q-1+1=q by omega]
  have a1:U<(t*4294967296+u2+1)*P:=by
   rw[h.u,Int.add_mul (t*4294967296+u2) 1 P]; have:=h.ul; omega
  have e:q*(v1*4294967296+v2)=(q*v1)*4294967296+q*v2:=by rw[Int.mul_add,Int.mul_assoc]
  have a2:(t*4294967296+u2+1)*P<=(q*(v1*4294967296+v2))*P:=Int.mul_le_mul_of_nonneg_right (by rw[e]; have:=g.tv; omega) (Int.le_of_lt h.p)
  have a3:(q*(v1*4294967296+v2))*P<=q*V:=by
   rw[Int.mul_assoc]
   refine Int.mul_le_mul_of_nonneg_left ?_ hq0
   rw[h.v]; have:=h.vl; omega
  omega
theorem Parts2.stop(h:Parts2 U V P t u2 Ul v1 v2 Vl){q r:Int}(g:Guess U V t v1 q r)(hq0:0<=q/\q<4294967296)(hq:q*v2<=r*4294967296+u2):q*V<U+V:=by
 have e:q*(v1*4294967296+v2)=(q*v1)*4294967296+q*v2:=by rw[Int.mul_add,Int.mul_assoc]
 have a1:(q*(v1*4294967296+v2))*P<=(t*4294967296+u2)*P:=Int.mul_le_mul_of_nonneg_right (by rw[e]; have:=g.tv; omega) (Int.le_of_lt h.p)
 have a2:q*Vl<=4294967295*Vl:=Int.mul_le_mul_of_nonneg_right (by omega) h.vl.1
 have a3:4294967296*P<=V:=by
  rw[h.v,Int.add_mul]
  have b1:(4294967296:Int)*P<=v1*4294967296*P:=Int.mul_le_mul_of_nonneg_right (by have:=h.w1; omega) (Int.le_of_lt h.p)
  have:=Int.mul_nonneg h.w2.1 (Int.le_of_lt h.p)
  have:=h.vl; omega
 have e2:q*V=(q*(v1*4294967296+v2))*P+q*Vl:=by rw[h.v,Int.mul_add,Int.mul_assoc]
 rw[e2]
 have:=h.u; have:=h.vl; have:=h.ul; omega
end
end Go.EL

namespace Go.EL
open Go.IntKind (i8 i16 i32 i64 u8 u16 u32 u64)
open Go Go.RowKit
theorem Cq.nextR{α β:Type}{c:Cq α}{k:α->Cq β}{p:β->Prop}{r:α}(h:c.Ret r)(h2:(k r).wp p):(c.next k).wp p:=c.mono (fun a (e:a=r)=>by rw[e]; exact h2) h
theorem Zpv(N:Nat)(hN:N<=1000)(f:Nat->Bool){step:Int->Cq (Int⊕(Bool⊕Unit))}(h:∀ k,k<N->(step (k:Int)).wp fun o=>o=if f k=true then .inl (i64.wrap ((k:Int)+1)) else .inr (.inl false))
  (hend:(step (N:Int)).wp fun o=>o = .inr (.inr ())):(Cq.loop step 0).wp fun o=>o=if (List.range N).all f=true then .inr () else .inl false:=by
 refine Cq.Zq N (fun k s=>s=(k:Int)/\∀ i,i<k->f i=true) (fun k s hk hs=>?_) (fun s hs=>?_) ⟨rfl,fun i hi=>absurd hi (Nat.not_lt_zero _)⟩
 .obtain⟨rfl,ha⟩:=hs
  refine (step _).mono (fun o ho=>?_) (h k hk)
  subst ho
  by_cases hf:f k=true
  .rw[if_pos hf]
   refine⟨wrapN (by omega),fun i hik=>?_⟩
   by_cases e:i=k
   .subst e; exact hf
   exact ha i (by omega)
  rw[if_neg hf]
  show _=_
  rw[if_neg fun e=>hf (List.all_eq_true.1 e _ (List.mem_range.2 hk))]
 obtain⟨rfl,ha⟩:=hs
 refine (step _).mono (fun o ho=>?_) hend
 subst ho
 show _=_
 rw[if_pos (List.all_eq_true.2 fun x hx=>ha x (List.mem_range.1 hx))]
theorem ZkJ{α:Type}(l:List α)(hl:l.length<=1000)(f:α->Bool){step:Int->Cq (Int⊕(Bool⊕Unit))}(h:∀ k (hk:k<l.length),(step (k:Int)).wp fun o=>o=if f l[k]=true then .inl (i64.wrap ((k:Int)+1)) else .inr (.inl false))
  (hend:(step (l.length:Int)).wp fun o=>o = .inr (.inr ())):(Cq.loop step 0).wp fun o=>o=if l.all f=true then .inr () else .inl false:=by
 have key:=Zpv l.length hl (fun k=>(l[k]?.map f).getD true) (step:=step) (fun k hk=>by have:=h k hk; rw[List.getElem?_eq_getElem hk]; exact this) hend
 have e:((List.range l.length).all fun k=>(l[k]?.map f).getD true)=l.all f:=by
  rw[Bool.eq_iff_iff,List.all_eq_true,List.all_eq_true]
  constructor
  .intro ha x hx
   obtain⟨i,hi,rfl⟩:=List.getElem_of_mem hx
   have:=ha i (List.mem_range.2 hi)
   rw[List.getElem?_eq_getElem hi] at this
   exact this
  intro ha i hi
  have hi:=List.mem_range.1 hi
  rw[List.getElem?_eq_getElem hi]
  exact ha _ (List.getElem_mem hi)
 rw[e] at key
 exact key
theorem ZoV{c:Cq (Bool⊕Unit)}{b:Bool}{k:Bool⊕Unit->Cq Bool}(h:c.wp fun o=>o=if b=true then .inr () else .inl false)(h1:k (.inl false)=Cq.ret false)(h2:k (.inr ())=Cq.ret true):(c.next k).wp fun a=>a=b:=by
 refine c.mono (fun o e=>?_) h
 subst e
 cases b with
 | false=>rw[if_neg (by decide),h1]; rfl
 | true=>rw[if_pos rfl,h2]; rfl
end Go.EL

namespace Go.EL
open Go.IntKind (i8 i16 i32 i64 u8 u16 u32 u64)
open Go Go.RowKit
theorem u32w(t:Int):u32.wrap t=t % 4294967296:=by
 simp only[IntKind.wrap,IntKind.bits,IntKind.signed,Bool.false_and,Bool.false_eq_true,if_false]; rfl
theorem u64w(t:Int):u64.wrap t=t % 18446744073709551616:=by
 simp only[IntKind.wrap,IntKind.bits,IntKind.signed,Bool.false_and,Bool.false_eq_true,if_false]; rfl
theorem sh32(t:Int):Int.fdiv t (2 ^ (min (32:Int).toNat u64.bits))=t / 4294967296:=by
 show Int.fdiv t 4294967296=_
 rw[Int.fdiv_eq_ediv_of_nonneg _ (by decide)]
theorem sh63(t:Int):Int.fdiv t (2 ^ (min (63:Int).toNat u64.bits))=t / 9223372036854775808:=by
 show Int.fdiv t 9223372036854775808=_
 rw[Int.fdiv_eq_ediv_of_nonneg _ (by decide)]
theorem tmodP{t d:Int}(h:0<=t):Int.tmod t d=t % d:=Int.tmod_eq_emod_of_nonneg h
theorem tdivP{t d:Int}(h:0<=t):Int.tdiv t d=t / d:=Int.tdiv_eq_ediv_of_nonneg h
theorem Zle{x y:Int}{s:Nat}(hx:0<=x)(hy:0<=y/\y<2 ^ s)(hb:x*2 ^ s+y<18446744073709551616):((BitVec.ofInt 64 (x*2 ^ s) ||| BitVec.ofInt 64 y).toNat:Int)=x*2 ^ s+y:=by
 obtain⟨a,rfl⟩:=Int.eq_ofNat_of_zero_le hx
 obtain⟨b,rfl⟩:=Int.eq_ofNat_of_zero_le hy.1
 have e1:((a:Int)*2 ^ s)=((a*2 ^ s:Nat):Int):=by rw[Int.natCast_mul,Int.natCast_pow]; rfl
 have hb':b<2 ^ s:=by
  have:=hy.2
  rw[show (2:Int) ^ s=((2 ^ s:Nat):Int) by rw[Int.natCast_pow]; rfl] at this
  omega
 rw[e1] at hb ⊢
 rw[BitVec.toNat_or,BitVec.ofInt_natCast,BitVec.ofInt_natCast,BitVec.toNat_ofNat,BitVec.toNat_ofNat,Nat.mod_eq_of_lt (by omega),Nat.mod_eq_of_lt (by omega)]
 have:=Nat.shiftLeft_add_eq_or_of_lt hb' a
 rw[Nat.shiftLeft_eq] at this
 rw[<- this]; simp
theorem or32{x y:Int}(hx:0<=x/\x<4294967296)(hy:0<=y/\y<4294967296):u64.wrap (BitVec.ofInt u64.bits (u64.wrap (x*2 ^ (min (32:Int).toNat u64.bits))) ||| BitVec.ofInt u64.bits y).toNat=x*4294967296+y:=by
 show u64.wrap (BitVec.ofInt 64 (u64.wrap (x*2 ^ 32)) ||| BitVec.ofInt 64 y).toNat=_
 rw[Zh (x:=x*2 ^ 32) (by omega),Zle hx.1 (by omega) (by omega),Zh (by omega),show (2:Int) ^ 32=4294967296 from rfl]
def Cn(l:List Int):Prop:=∀ h:0<l.length,l[l.length-1]'(by omega)≠0
structure Mg (l:List Int) (x:Int):Prop where
 wd:Wd l
 cn:Cn l
 val:nv l=x
theorem Mg.nn{l:List Int}{x:Int}(h:Mg l x):0<=x:=h.val ▸ Zz h.wd
theorem Mg.ge{l:List Int}{x:Int}(h:Mg l x)(hl:0<l.length):4294967296 ^ (l.length-1)<=x:=h.val ▸ Zqr h.wd hl (h.cn hl)
theorem Mg.lt{l:List Int}{x:Int}(h:Mg l x):x<4294967296 ^ l.length:=h.val ▸ ZaR h.wd
theorem Mg.nil:Mg [] 0:=⟨Wd.nil,fun h=>absurd h (Nat.lt_irrefl 0),rfl⟩
theorem ZdH{m n:Nat}(h:m<=n):(4294967296:Int) ^ m<=4294967296 ^ n:=by
 obtain⟨k,rfl⟩:=Nat.exists_eq_add_of_le h
 rw[Int.pow_add]
 have:=Int.mul_le_mul_of_nonneg_left (show (1:Int)<=4294967296 ^ k from Z5 k) (Int.le_of_lt (Z5 m))
 omega
theorem Mg.len{l:List Int}{x:Int}(h:Mg l x){k:Nat}(hk:x<4294967296 ^ k):l.length<=k:=by
 rcases Nat.eq_zero_or_pos l.length with e|e
 .omega
 rcases Nat.lt_or_ge k l.length with c|c
 .have h1:=h.ge e
  have h2:=ZdH (show k<=l.length-1 by omega)
  omega
 exact c
theorem Mg.zero{l:List Int}(h:Mg l 0):l=[]:=List.eq_nil_of_length_eq_zero (Nat.le_zero.1 (h.len (k:=0) (by decide)))
theorem Mg.pos{l:List Int}{x:Int}(h:Mg l x)(hx:x≠0):0<l.length:=by
 rcases Nat.eq_zero_or_pos l.length with e|e
 .rw[List.eq_nil_of_length_eq_zero e] at h
  exact absurd h.val.symm hx
 exact e
theorem Mg.uniq{a b:List Int}{x:Int}(ha:Mg a x)(hb:Mg b x):a=b:=by
 refine Zqm ha.wd hb.wd ?_ (ha.val.trans hb.val.symm)
 exact Nat.le_antisymm (ha.len hb.lt) (hb.len ha.lt)
theorem Zi8{l:List Int}{k:Nat}(h:k<l.length)(x:Int):nv (l.set k x)=nv l+4294967296 ^ k*(x-l[k]):=by
 induction l generalizing k with
 | nil=>cases h
 | cons y l ih=>
  cases k with
  | zero=>rw[List.set_cons_zero,ZL,ZL,Int.pow_zero]; simp only[List.getElem_cons_zero]; omega
  | succ k=>
   rw[List.set_cons_succ,ZL,ZL,ih (Nat.lt_of_succ_lt_succ h),ZT]
   simp only[List.getElem_cons_succ]
   rw[Int.mul_add,Int.mul_assoc]; omega
theorem Wd.set{l:List Int}(h:Wd l){x:Int}(hx:0<=x/\x<4294967296)(k:Nat):Wd (l.set k x):=fun y hy=>by
 rcases List.mem_or_eq_of_mem_set hy with h1|h1
 .exact h y h1
 rw[h1]; exact hx
theorem take_set{l:List Int}{k:Nat}(h:k<l.length)(x:Int):(l.set k x).take (k+1)=l.take k++[x]:=by
 rw[List.take_succ_eq_append_getElem (by rw[List.length_set]; exact h),List.getElem_set_self,List.take_set_of_le (Nat.le_refl _)]
theorem ZS{l:List Int}{k:Nat}(h:k<l.length)(x:Int):nv ((l.set k x).take (k+1))=nv (l.take k)+4294967296 ^ k*x:=by
 rw[take_set h,ZdU,ZdV,List.length_take,Nat.min_eq_left (Nat.le_of_lt h)]
theorem dig(k:Nat)(s:Int):(4294967296:Int) ^ k*(s % 4294967296)+4294967296 ^ (k+1)*(s / 4294967296)=4294967296 ^ k*s:=by
 rw[Int.pow_succ,Int.mul_assoc,<- Int.mul_add,Int.emod_add_mul_ediv]
theorem Cq.ZQ{σ ρ:Type}{step:σ->Cq (σ⊕ρ)}{Φ:ρ->Prop}(n:Nat)(I:Nat->σ->Prop)(h:∀ k s,k<n->I k s->∃ s',(step s).Ret (.inl s')/\I (k+1) s')(hend:∀ s,I n s->∃ r,(step s).Ret (.inr r)/\Φ r):∀ {s:σ},I 0 s->∃ r,(Cq.loop step s).Ret r/\Φ r:=by
 have key:∀ d k s,k+d=n->I k s->∃ r,(Cq.loop step s).Ret r/\Φ r:=by
  intro d
  induction d with
  | zero=>
   intro k s e hs
   obtain rfl:k=n:=by omega
   obtain⟨r,h1,h2⟩:=hend s hs
   exact⟨r,Cq.Zm ((step s).mono (fun o (e:o=_)=>by rw[e]; rfl) h1),h2⟩
  | succ d ih=>
   intro k s e hs
   obtain⟨s',h1,h2⟩:=h k s (by omega) hs
   obtain⟨r,h3,h4⟩:=ih (k+1) s' (by omega) h2
   exact⟨r,Cq.Zm ((step s).mono (fun o (e:o=_)=>by rw[e]; exact h3) h1),h4⟩
 exact fun {s} hs=>key n 0 s (by omega) hs
end Go.EL

namespace Go.EL
open Go.IntKind (i8 i16 i32 i64 u8 u16 u32 u64)
open Go Go.EL Go.RowKit
theorem Zmm{a:List Int}(ha:a.length<=1000000):∀ k:Nat,k<=a.length->nv (a.take k)=nv a->∃ m:Nat,(ZdT a (k:Int)).Ret (m:Int)/\m<=k/\nv (a.take m)=nv a/\∀ h2:m-1<a.length,0<m->a[m-1]≠0
 | 0,_,hv=>⟨0,Cq.Zm (Cq.wp.no (by decide) rfl),Nat.le_refl _,hv,fun _ h=>absurd h (Nat.lt_irrefl 0)⟩
 | k+1,hk,hv=>by
  have e:i64.wrap (((k+1:Nat):Int)-1)=(k:Int):=by rw[wrap64 (by omega)]; omega
  by_cases h0:a[k]=0
  .obtain⟨m,h1,h2,h3,h4⟩:=Zmm ha k (by omega) (by rw[Zl (by omega),h0] at hv; omega)
   refine⟨m,Cq.Zm (Cq.wp.yes (by omega) ?_),by omega,h3,h4⟩
   rw[e]
   exact⟨_,idxN (show k<a.length by omega),Cq.wp.yes h0 h1⟩
  refine⟨k+1,Cq.Zm (Cq.wp.yes (by omega) ?_),Nat.le_refl _,hv,fun _ _=>h0⟩
  rw[e]
  exact⟨_,idxN (show k<a.length by omega),Cq.wp.no h0 rfl⟩
theorem Zab{a:List Int}(ha:a.length<=1000000)(hw:Wd a):∃ r,(Zu a).Ret r/\Mg r (nv a)/\r.length<=a.length:=by
 obtain⟨m,h1,h2,h3,h4⟩:=Zmm ha a.length (Nat.le_refl _) (by rw[List.take_length])
 refine⟨a.take m,Cq.nextR h1 ⟨⟨by decide,by omega,by omega⟩,?_⟩,⟨hw.take m,fun h=>?_,h3⟩,by rw[List.length_take]; omega⟩
 .show (a.take (m:Int).toNat).drop (0:Int).toNat=_
  rw[Int.toNat_natCast]; rfl
 have hl:(a.take m).length=m:=by rw[List.length_take]; omega
 rw[List.getElem_take]
 simp only[hl]
 exact h4 (by omega) (by omega)
theorem Zdz{a:List Int}{x:Int}(h:Mg a x)(ha:a.length<=1000000):(Zu a).Ret a:=by
 obtain⟨r,h1,h2,_⟩:=Zab ha h.wd
 rw[h.val] at h2
 rwa [h2.uniq h] at h1
theorem Ze8{m:Int}(h:0<=m/\m<18446744073709551616):∃ r,(Zam m).Ret r/\Mg r m:=by
 have hw:Wd [m % 4294967296,m / 4294967296 % 4294967296]:=Wd.cons (by omega) (Wd.cons (by omega) Wd.nil)
 obtain⟨r,h1,h2,_⟩:=Zab (a:=[m % 4294967296,m / 4294967296 % 4294967296]) (by show 2<=1000000; decide) hw
 refine⟨r,⟨r,?_,rfl⟩,?_⟩
 .rw[u32w,sh32,u32w]; exact h1
 rw[ZL,ZdV] at h2
 rwa [show m % 4294967296+4294967296*(m / 4294967296 % 4294967296)=m by omega] at h2
theorem Zm6(neg:Bool){a:List Int}{x:Int}(h:Mg a x)(ha:a.length<=1000000):(Zw neg a).Ret (if a=[] then ⟨false,[]⟩ else ⟨neg,a⟩):=by
 refine⟨a,Zdz h ha,?_⟩
 by_cases e:a=[]
 .subst e; exact Cq.wp.yes rfl rfl
 rw[if_neg e]
 exact Cq.wp.no (fun k=>e (List.eq_nil_of_length_eq_zero (by omega))) rfl
theorem ZgN{a:List Int}(ha:a.length<=1000000):(ZaN a).Ret a:=⟨by show ([]++a).length<=small; simp only[small,List.nil_append]; omega,rfl⟩
theorem Zlq{a b:List Int}(ha:a.length<=900000)(hl:b.length<=a.length)(wa:Wd a)(wb:Wd b):∃ r,(Za8 a b).Ret r/\Mg r (nv a+nv b):=by
 have wl:i64.wrap ((a.length:Int)+1)=((a.length+1:Nat):Int):=wrapN (by omega)
 have key:=Cq.ZQ (step:=fun gs:List Int×Int×Int=>match gs with|(rv2,carry2,v22_1)=>if v22_1<(a.length:Int) then (Cq.at' a v22_1 fun x2=>if v22_1<(b.length:Int) then (Cq.at' b v22_1 fun x4=>ZU rv2 v22_1 (u64.wrap ((u64.wrap ((u64.wrap x2)+carry2))+(u64.wrap x4)))) else (ZU rv2 v22_1 (u64.wrap ((u64.wrap x2)+carry2)))) else (Cq.ret (.inr (rv2,carry2)))) (Φ:=fun o:List Int×Int=>o.1.length=a.length+1/\Wd o.1/\(0<=o.2/\o.2<=1)/\nv (o.1.take a.length)+4294967296 ^ a.length*o.2=nv a+nv b) a.length
  (fun k s=>∃ rv c,s=(rv,c,(k:Int))/\rv.length=a.length+1/\Wd rv/\(0<=c/\c<=1)/\nv (rv.take k)+4294967296 ^ k*c=nv (a.take k)+nv (b.take k))
  (fun k s hk hs=>by
   obtain⟨rv,c,rfl,h1,h2,h3,h4⟩:=hs
   have x1:=wa.get hk
   have fin:∀ S:Int,(0<=S/\S<8589934592)->nv (a.take (k+1))+nv (b.take (k+1))=nv (a.take k)+nv (b.take k)-4294967296 ^ k*c+4294967296 ^ k*S->(ZU rv (k:Int) S).Ret (.inl (rv.set k (S % 4294967296),S / 4294967296,((k+1:Nat):Int)))/\∃ rv' c',(rv.set k (S % 4294967296),S / 4294967296,((k+1:Nat):Int))=(rv',c',((k+1:Nat):Int))/\rv'.length=a.length+1/\Wd rv'/\(0<=c'/\c'<=1)/\nv (rv'.take (k+1))+4294967296 ^ (k+1)*c'=nv (a.take (k+1))+nv (b.take (k+1)):=by
    intro S hS hv
    refine⟨⟨_,idxN (show k<rv.length by omega),?_⟩,_,_,rfl,by rw[List.length_set]; exact h1,h2.set (by omega) k,by omega,?_⟩
    .show Sum.inl _=Sum.inl _
     rw[u32w,sh32,wrapN (by omega),Int.toNat_natCast]
    rw[ZS (by omega)]
    have:=dig k S
    omega
   by_cases hb:k<b.length
   .have x2:=wb.get hb
    have eS:u64.wrap ((u64.wrap ((u64.wrap a[k])+c))+(u64.wrap b[k]))=a[k]+c+b[k]:=by
     rw[Zh (x:=a[k]) (by omega),Zh (x:=b[k]) (by omega),Zh (x:=a[k]+c) (by omega),Zh (by omega)]
    obtain⟨f1,f2⟩:=fin (a[k]+c+b[k]) (by omega) (by rw[Zl hk,Zl hb,Int.mul_add,Int.mul_add]; omega)
    refine⟨_,Cq.wp.yes (by omega) ⟨_,idxN hk,Cq.wp.yes (by omega) ⟨_,idxN hb,?_⟩⟩,f2⟩
    show (ZU rv (k:Int) _).wp _
    rw[eS]; exact f1
   have eS:u64.wrap ((u64.wrap a[k])+c)=a[k]+c:=by
    rw[Zh (x:=a[k]) (by omega),Zh (by omega)]
   obtain⟨f1,f2⟩:=fin (a[k]+c) (by omega) (by rw[Zl hk,List.take_of_length_le (show b.length<=k+1 by omega),List.take_of_length_le (show b.length<=k by omega),Int.mul_add]; omega)
   refine⟨_,Cq.wp.yes (by omega) ⟨_,idxN hk,Cq.wp.no (by omega) ?_⟩,f2⟩
   show (ZU rv (k:Int) _).wp _
   rw[eS]; exact f1)
  (fun s hs=>by
   obtain⟨rv,c,rfl,h1,h2,h3,h4⟩:=hs
   refine⟨(rv,c),Cq.wp.no (by omega) rfl,h1,h2,h3,?_⟩
   rw[List.take_length,List.take_of_length_le hl] at h4
   exact h4)
  (s:=(List.replicate (a.length+1) 0,0,0)) ⟨_,_,rfl,List.length_replicate,Wd.zeros _,by decide,by simp[ZN]⟩
 obtain⟨⟨rv,c⟩,k1,k2,k3,k4,k5⟩:=key
 dsimp only at k2 k3 k4 k5
 have hr:nv (rv.set a.length c)=nv a+nv b:=by
  have:=ZS (l:=rv) (k:=a.length) (by omega) c
  rw[List.take_of_length_le (by rw[List.length_set]; omega)] at this
  rw[this,k5]
 obtain⟨r,r1,r2,_⟩:=Zab (a:=rv.set a.length c) (by rw[List.length_set]; omega) (k3.set (by omega) _)
 rw[hr] at r2
 refine⟨r,⟨by rw[wl]; omega,?_⟩,r2⟩
 rw[wl,Int.toNat_natCast]
 refine Cq.nextR (r:=(rv,c)) k1 ⟨_,idxN (show a.length<rv.length by omega),r,?_,rfl⟩
 rw[Zav (by omega),Int.toNat_natCast]; exact r1
theorem Zp4{a b:List Int}{x y:Int}(ha:Mg a x)(hb:Mg b y)(la:a.length<=900000)(lb:b.length<=900000):∃ r,(Zcc a b).Ret r/\Mg r (x+y):=by
 by_cases h:(a.length:Int)<(b.length:Int)
 .obtain⟨r,h1,h2⟩:=Zlq lb (by omega) hb.wd ha.wd
  rw[ha.val,hb.val,Int.add_comm] at h2
  exact⟨r,Cq.wp.yes h h1,h2⟩
 obtain⟨r,h1,h2⟩:=Zlq la (by omega) ha.wd hb.wd
 rw[ha.val,hb.val] at h2
 exact⟨r,Cq.wp.no h h1,h2⟩
theorem Zfn{a b:List Int}{x y:Int}(ha:Mg a x)(hb:Mg b y)(hxy:y<=x)(la:a.length<=900000):∃ r,(Zac a b).Ret r/\Mg r (x-y):=by
 have hl:b.length<=a.length:=hb.len (Int.lt_of_le_of_lt hxy ha.lt)
 have wa:=ha.wd
 have wb:=hb.wd
 have key:=Cq.ZQ (step:=fun gs:List Int×Int×Int=>match gs with|(rv2,borrow1,v14_1)=>if v14_1<(a.length:Int) then (Cq.at' a v14_1 fun x1=>if v14_1<(b.length:Int) then (Cq.at' b v14_1 fun x3=>ZM rv2 v14_1 (u64.wrap ((u64.wrap ((u64.wrap x1)-borrow1))-(u64.wrap x3)))) else (ZM rv2 v14_1 (u64.wrap ((u64.wrap x1)-borrow1)))) else (Cq.ret (.inr rv2))) (Φ:=fun o:List Int=>o.length=a.length/\Wd o/\nv o=x-y) a.length
  (fun k s=>∃ rv c,s=(rv,c,(k:Int))/\rv.length=a.length/\Wd rv/\(0<=c/\c<=1)/\nv (rv.take k)+nv (b.take k)=nv (a.take k)+4294967296 ^ k*c)
  (fun k s hk hs=>by
   obtain⟨rv,c,rfl,h1,h2,h3,h4⟩:=hs
   have x1:=wa.get hk
   have fin:∀ D S:Int,(-4294967296<=D/\D<4294967296)->S=D % 18446744073709551616->nv (a.take (k+1))-nv (b.take (k+1))=nv (a.take k)-nv (b.take k)+4294967296 ^ k*c+4294967296 ^ k*D->(ZM rv (k:Int) S).Ret (.inl (rv.set k (D % 4294967296),(if D<0 then 1 else 0),((k+1:Nat):Int)))/\∃ rv' c',(rv.set k (D % 4294967296),(if D<0 then 1 else 0),((k+1:Nat):Int))=(rv',c',((k+1:Nat):Int))/\rv'.length=a.length/\Wd rv'/\(0<=c'/\c'<=1)/\nv (rv'.take (k+1))+nv (b.take (k+1))=nv (a.take (k+1))+4294967296 ^ (k+1)*c':=by
    intro D S hD hS hv
    refine⟨⟨_,idxN (show k<rv.length by omega),?_⟩,_,_,rfl,by rw[List.length_set]; exact h1,h2.set (by omega) k,by split <;> decide,?_⟩
    .show Sum.inl _=Sum.inl _
     rw[u32w,sh63,wrapN (by omega),Int.toNat_natCast,show S % 4294967296=D % 4294967296 by omega,show S / 9223372036854775808=if D<0 then 1 else 0 by split <;> omega]
    rw[ZS (by omega)]
    have e:4294967296 ^ k*(D % 4294967296)=4294967296 ^ k*D+4294967296 ^ (k+1)*(if D<0 then 1 else 0):=by
     rw[Int.pow_succ,Int.mul_assoc,<- Int.mul_add]
     congr 1
     split <;> omega
    omega
   by_cases hb:k<b.length
   .have x2:=wb.get hb
    have eS:u64.wrap ((u64.wrap ((u64.wrap a[k])-c))-(u64.wrap b[k]))=(a[k]-c-b[k]) % 18446744073709551616:=by
     rw[Zh (x:=a[k]) (by omega),Zh (x:=b[k]) (by omega),u64w,u64w]; omega
    obtain⟨f1,f2⟩:=fin (a[k]-c-b[k]) _ (by omega) eS (by rw[Zl hk,Zl hb,Int.mul_sub,Int.mul_sub]; omega)
    exact⟨_,Cq.wp.yes (by omega) ⟨_,idxN hk,Cq.wp.yes (by omega) ⟨_,idxN hb,f1⟩⟩,f2⟩
   have eS:u64.wrap ((u64.wrap a[k])-c)=(a[k]-c) % 18446744073709551616:=by
    rw[Zh (x:=a[k]) (by omega),u64w]
   obtain⟨f1,f2⟩:=fin (a[k]-c) _ (by omega) eS (by rw[Zl hk,List.take_of_length_le (show b.length<=k+1 by omega),List.take_of_length_le (show b.length<=k by omega),Int.mul_sub]; omega)
   exact⟨_,Cq.wp.yes (by omega) ⟨_,idxN hk,Cq.wp.no (by omega) f1⟩,f2⟩)
  (fun s hs=>by
   obtain⟨rv,c,rfl,h1,h2,h3,h4⟩:=hs
   refine⟨rv,Cq.wp.no (by omega) rfl,h1,h2,?_⟩
   rw[List.take_length,List.take_of_length_le hl,List.take_of_length_le (by omega),ha.val,hb.val] at h4
   have h5:=ZaR h2
   rw[h1] at h5
   by_cases hc:c=0
   .rw[hc] at h4; omega
   rw[show c=1 by omega] at h4; omega)
  (s:=(List.replicate a.length 0,0,0)) ⟨_,_,rfl,List.length_replicate,Wd.zeros _,by decide,by simp[ZN]⟩
 obtain⟨rv,k1,k2,k3,k4⟩:=key
 obtain⟨r,r1,r2,_⟩:=Zab (a:=rv) (by omega) k3
 rw[k4] at r2
 refine⟨r,⟨⟨by omega,by omega⟩,?_⟩,r2⟩
 rw[Int.toNat_natCast]
 exact Cq.nextR k1 ⟨r,r1,rfl⟩
theorem ZnJ{b r0:List Int}{i:Nat}{ai:Int}(ha:0<=ai/\ai<4294967296)(wb:Wd b)(w0:Wd r0)(hl:i+b.length<r0.length)(hs:r0.length<=900000):
  ∃ o,(Zbi b (i:Int) ai (r0,0,0)).Ret o/\o.1.length=r0.length/\Wd o.1/\(0<=o.2/\o.2<4294967296)/\nv o.1+4294967296 ^ (i+b.length)*o.2=nv r0+4294967296 ^ i*(ai*nv b)/\∀ t (h:t<o.1.length) (h':t<r0.length),i+b.length<=t->o.1[t]=r0[t]:=by
 have key:=Cq.ZQ (step:=fun gs:List Int×Int×Int=>match gs with|(v5_4,v7_2,v29_1)=>if v29_1<(b.length:Int) then (Cq.at' b v29_1 fun x3=>Cq.at' v5_4 (i64.wrap ((i:Int)+v29_1)) fun x4=>Cq.at' v5_4 (i64.wrap ((i:Int)+v29_1)) fun x5=>Cq.ret (.inl ((v5_4.set (i64.wrap ((i:Int)+v29_1)).toNat (u32.wrap (u64.wrap ((u64.wrap ((u64.wrap ((u64.wrap ai)*(u64.wrap x3)))+(u64.wrap x4)))+v7_2)))),Int.fdiv (u64.wrap ((u64.wrap ((u64.wrap ((u64.wrap ai)*(u64.wrap x3)))+(u64.wrap x4)))+v7_2)) (2 ^ (min (32:Int).toNat u64.bits)),i64.wrap (v29_1+1)))) else (Cq.ret (.inr (v5_4,v7_2))))
  (Φ:=fun o:List Int×Int=>o.1.length=r0.length/\Wd o.1/\(0<=o.2/\o.2<4294967296)/\nv o.1+4294967296 ^ (i+b.length)*o.2=nv r0+4294967296 ^ i*(ai*nv b)/\∀ t (h:t<o.1.length) (h':t<r0.length),i+b.length<=t->o.1[t]=r0[t]) b.length
  (fun j s=>∃ rv c,s=(rv,c,(j:Int))/\rv.length=r0.length/\Wd rv/\(0<=c/\c<4294967296)/\nv rv+4294967296 ^ (i+j)*c=nv r0+4294967296 ^ i*(ai*nv (b.take j))/\∀ t (h:t<rv.length) (h':t<r0.length),i+b.length<=t->rv[t]=r0[t])
  (fun j s hj hs'=>by
   obtain⟨rv,c,rfl,h1,h2,h3,h4,h5⟩:=hs'
   have x1:=wb.get hj
   have hk:i+j<rv.length:=by omega
   have x2:=h2.get hk
   have ew:i64.wrap ((i:Int)+(j:Int))=((i+j:Nat):Int):=by rw[wrap64 (by omega)]; omega
   have hp0:=Int.mul_nonneg ha.1 x1.1
   have hp1:ai*b[j]<=4294967295*4294967295:=Int.mul_le_mul (by omega) (by omega) x1.1 (by decide)
   have eS:u64.wrap ((u64.wrap ((u64.wrap ((u64.wrap ai)*(u64.wrap b[j])))+(u64.wrap rv[i+j])))+c)=ai*b[j]+rv[i+j]+c:=by
    rw[Zh (x:=ai) (by omega),Zh (x:=b[j]) (by omega),Zh (x:=rv[i+j]) (by omega),Zh (x:=ai*b[j]) (by omega),Zh (x:=ai*b[j]+rv[i+j]) (by omega),Zh (by omega)]
   refine⟨(rv.set (i+j) ((ai*b[j]+rv[i+j]+c) % 4294967296),(ai*b[j]+rv[i+j]+c) / 4294967296,((j+1:Nat):Int)),Cq.wp.yes (by omega) ⟨_,idxN hj,?_⟩,_,_,rfl,by rw[List.length_set]; exact h1,h2.set (by omega) _,by omega,?_,fun t h h' ht=>?_⟩
   .rw[ew]
    refine⟨_,idxN hk,_,idxN hk,?_⟩
    show Sum.inl _=Sum.inl _
    rw[eS,u32w,sh32,wrapN (by omega),Int.toNat_natCast]
   .rw[Zi8 hk,Zl hj,Int.mul_sub]
    have:=dig (i+j) (ai*b[j]+rv[i+j]+c)
    rw[show i+(j+1)=i+j+1 by omega]
    have e2:4294967296 ^ (i+j)*(ai*b[j]+rv[i+j]+c)=4294967296 ^ i*(ai*(4294967296 ^ j*b[j]))+4294967296 ^ (i+j)*rv[i+j]+4294967296 ^ (i+j)*c:=by
     rw[Int.mul_add,Int.mul_add,Int.pow_add]
     congr 2
     simp only[Int.mul_assoc,Int.mul_left_comm]
    rw[Int.mul_add,Int.mul_add]
    omega
   rw[List.getElem_set_ne (by omega)]
   exact h5 t (by rw[List.length_set] at h; exact h) h' ht)
  (fun s hs'=>by
   obtain⟨rv,c,rfl,h1,h2,h3,h4,h5⟩:=hs'
   rw[List.take_length] at h4
   exact⟨(rv,c),Cq.wp.no (by omega) rfl,h1,h2,h3,h4,h5⟩)
  (s:=(r0,0,0)) ⟨_,_,rfl,rfl,w0,by decide,by simp[ZN],fun _ _ _ _=>rfl⟩
 exact key
theorem ZlV{a b:List Int}{x y:Int}(ha:Mg a x)(hb:Mg b y)(la:a.length<=400000)(lb:b.length<=400000):∃ r,(ZbZ a b).Ret r/\Mg r (x*y):=by
 have wl:i64.wrap ((a.length:Int)+(b.length:Int))=((a.length+b.length:Nat):Int):=by rw[wrap64 (by omega)]; omega
 have key:=Cq.ZQ (step:=fun gs:List Int×Int=>match gs with|(v5_2,v19_1)=>if v19_1<(a.length:Int) then (Cq.at' a v19_1 fun x1=>Cq.next (Zbi b v19_1 x1 (v5_2,0,0)) fun ov=>match ov with|(v5_3,v7_1)=>Zaw b v19_1 v5_3 v7_1) else (Cq.ret (.inr v5_2)))
  (Φ:=fun o:List Int=>o.length=a.length+b.length/\Wd o/\nv o=nv a*nv b) a.length
  (fun i s=>∃ rv,s=(rv,(i:Int))/\rv.length=a.length+b.length/\Wd rv/\nv rv=nv (a.take i)*nv b/\∀ t (h:t<rv.length),i+b.length<=t->rv[t]=0)
  (fun i s hi hs=>by
   obtain⟨rv,rfl,h1,h2,h3,h4⟩:=hs
   have x1:=ha.wd.get hi
   obtain⟨⟨r1,c⟩,k1,k2,k3,k4,k5,k6⟩:=ZnJ (i:=i) x1 hb.wd h2 (by omega) (by omega)
   dsimp only at k2 k3 k4 k5 k6
   have hk:i+b.length<r1.length:=by omega
   have z0:r1[i+b.length]=0:=by rw[k6 _ hk (by omega) (Nat.le_refl _)]; exact h4 _ _ (Nat.le_refl _)
   have ew:i64.wrap ((i:Int)+(b.length:Int))=((i+b.length:Nat):Int):=by rw[wrap64 (by omega)]; omega
   refine⟨(r1.set (i+b.length) c,((i+1:Nat):Int)),Cq.wp.yes (by omega) ⟨_,idxN hi,Cq.nextR k1 ?_⟩,_,rfl,by rw[List.length_set]; omega,k3.set k4 _,?_,fun t h ht=>?_⟩
   .show (Zaw b (i:Int) r1 c).wp _
    unfold Zaw
    rw[ew]
    refine⟨_,idxN hk,?_⟩
    show Sum.inl _=Sum.inl _
    rw[Zav k4,wrapN (by omega),Int.toNat_natCast]
   .rw[Zi8 hk,z0,Int.sub_zero,Zl hi,Int.add_mul,<- h3,Int.mul_assoc]
    omega
   rw[List.length_set] at h
   rw[List.getElem_set_ne (by omega),k6 _ h (by omega) (by omega)]
   exact h4 _ _ (by omega))
  (fun s hs=>by
   obtain⟨rv,rfl,h1,h2,h3,h4⟩:=hs
   rw[List.take_length] at h3
   exact⟨rv,Cq.wp.no (by omega) rfl,h1,h2,h3⟩)
  (s:=(List.replicate (a.length+b.length) 0,0)) ⟨_,rfl,List.length_replicate,Wd.zeros _,by rw[Zin]; simp[ZN],fun t h _=>List.getElem_replicate ..⟩
 obtain⟨rv,k1,k2,k3,k4⟩:=key
 obtain⟨r,r1,r2,_⟩:=Zab (a:=rv) (by omega) k3
 rw[k4,ha.val,hb.val] at r2
 refine⟨r,⟨by rw[wl]; omega,?_⟩,r2⟩
 rw[wl,Int.toNat_natCast]
 exact Cq.nextR k1 ⟨r,r1,rfl⟩
end Go.EL

namespace Go.EL
open Go.IntKind (i8 i16 i32 i64 u8 u16 u32 u64)
open Go Go.EL Go.RowKit
def cmpV(x y:Int):Int:=if x<y then -1 else if x=y then 0 else 1
theorem ZkO(x y c:Int):cmpV (x+c) (y+c)=cmpV x y:=by
 unfold cmpV; repeat' split
 all_goals omega
theorem Zhx{a b:List Int}(wa:Wd a)(wb:Wd b){k:Nat}(ha:k<a.length)(hb:k<b.length)(h:a[k]<b[k]):nv (a.take (k+1))<nv (b.take (k+1)):=by
 rw[Zl ha,Zl hb]
 have h1:=ZaR (wa.take k)
 rw[List.length_take,Nat.min_eq_left (by omega)] at h1
 have h2:=Zz (wb.take k)
 have h3:=Int.mul_le_mul_of_nonneg_left (show a[k]+1<=b[k] by omega) (Int.le_of_lt (Z5 k))
 rw[Int.mul_add] at h3
 omega
theorem ZgQ{a b:List Int}(wa:Wd a)(wb:Wd b)(hl:a.length=b.length)(hs:a.length<=1000000):∀ k:Nat,k<=a.length->∃ o,(Zbh a b ((k:Int)-1)).Ret o/\(match o with | .inl r=>r | .inr ()=>0)=cmpV (nv (a.take k)) (nv (b.take k))
 | 0,_=>⟨.inr (),Cq.Zm (Cq.wp.no (by decide) rfl),by simp[cmpV]⟩
 | k+1,hk=>by
  have e:((k+1:Nat):Int)-1=(k:Int):=by omega
  rw[e]
  by_cases h0:a[k]'(by omega)=b[k]'(by omega)
  .obtain⟨o,h1,h2⟩:=ZgQ wa wb hl hs k (by omega)
   refine⟨o,Cq.Zm (Cq.wp.yes (by omega) ⟨_,idxN (by omega),_,idxN (by omega),Cq.wp.no (fun e=>e h0) ?_⟩),?_⟩
   .show (Zbh a b (i64.wrap ((k:Int)-1))).wp _
    rw[wrap64 (by omega)]
    exact h1
   rw[h2,Zl (show k<a.length by omega),Zl (show k<b.length by omega),h0]
   exact (ZkO _ _ _).symm
  by_cases h1:a[k]'(by omega)<b[k]'(by omega)
  .refine⟨.inl (-1),Cq.Zm (Cq.wp.yes (by omega) ⟨_,idxN (by omega),_,idxN (by omega),Cq.wp.yes h0 ⟨_,idxN (by omega),_,idxN (by omega),Cq.wp.yes h1 rfl⟩⟩),?_⟩
   unfold cmpV
   rw[if_pos (Zhx wa wb (show k<a.length by omega) (show k<b.length by omega) h1)]
  refine⟨.inl 1,Cq.Zm (Cq.wp.yes (by omega) ⟨_,idxN (by omega),_,idxN (by omega),Cq.wp.yes h0 ⟨_,idxN (by omega),_,idxN (by omega),Cq.wp.no h1 rfl⟩⟩),?_⟩
  have:=Zhx wb wa (k:=k) (show k<b.length by omega) (show k<a.length by omega) (by omega)
  unfold cmpV
  rw[if_neg (by omega),if_neg (by omega)]
theorem Mg.ZiU{a b:List Int}{x y:Int}(ha:Mg a x)(hb:Mg b y)(h:a.length<b.length):x<y:=by
 have h1:=ha.lt
 have h2:=hb.ge (by omega)
 have h3:=ZdH (show a.length<=b.length-1 by omega)
 omega
theorem ZdE{a b:List Int}{x y:Int}(ha:Mg a x)(hb:Mg b y)(la:a.length<=1000000):(ZaX a b).Ret (cmpV x y):=by
 by_cases h:(a.length:Int)=(b.length:Int)
 .obtain⟨o,h1,h2⟩:=ZgQ ha.wd hb.wd (by omega) la a.length (Nat.le_refl _)
  refine Cq.wp.no (fun e=>e h) ?_
  rw[wrap64 (by omega)]
  refine Cq.nextR h1 ?_
  rw[List.take_length,List.take_of_length_le (by omega),ha.val,hb.val] at h2
  cases o with
  | inl r=>exact h2
  | inr u=>exact h2
 refine Cq.wp.yes h ?_
 by_cases h1:(a.length:Int)<(b.length:Int)
 .refine Cq.wp.yes h1 ?_
  show _=_
  unfold cmpV
  rw[if_pos (ha.ZiU hb (by omega))]
 refine Cq.wp.no h1 ?_
 have:=hb.ZiU ha (by omega)
 show _=_
 unfold cmpV
 rw[if_neg (by omega),if_neg (by omega)]
theorem ZkR{a:List Int}{x d:Int}(ha:Mg a x)(la:a.length<=900000)(hd:0<d/\d<4294967296):∃ q,(Zao a d).Ret (q,x % d)/\Mg q (x / d):=by
 have wa:=ha.wd
 have key:=Cq.ZQ (step:=fun gs:List Int×Int×Int=>match gs with|(q2,rv2,i1)=>if 0<=i1 then (Cq.at' a i1 fun x1=>Cq.chk (d≠0) (Cq.at' q2 i1 fun x2=>Cq.chk (d≠0) (Cq.ret (.inl ((q2.set i1.toNat (u32.wrap (u64.wrap (Int.tdiv (u64.wrap (BitVec.ofInt u64.bits (u64.wrap (rv2*2 ^ (min (32:Int).toNat u64.bits))) ||| BitVec.ofInt u64.bits (u64.wrap x1)).toNat) d)))),Int.tmod (u64.wrap (BitVec.ofInt u64.bits (u64.wrap (rv2*2 ^ (min (32:Int).toNat u64.bits))) ||| BitVec.ofInt u64.bits (u64.wrap x1)).toNat) d,i64.wrap (i1-1)))))) else (Cq.ret (.inr (q2,rv2))))
  (Φ:=fun o:List Int×Int=>o.1.length=a.length/\Wd o.1/\(0<=o.2/\o.2<d)/\nv o.1*d+o.2=nv a) a.length
  (fun k s=>∃ q r,s=(q,r,(a.length:Int)-1-(k:Int))/\q.length=a.length/\Wd q/\(0<=r/\r<d)/\nv (q.drop (a.length-k))*d+r=nv (a.drop (a.length-k)))
  (fun k s hk hs=>by
   obtain⟨q,r,rfl,h1,h2,h3,h4⟩:=hs
   have hi:a.length-1-k<a.length:=by omega
   have ei:(a.length:Int)-1-(k:Int)=((a.length-1-k:Nat):Int):=by omega
   have x1:=wa.get hi
   generalize hj:a.length-1-k=j at hi ei x1
   have ej:a.length-k=j+1:=by omega
   have ej2:a.length-(k+1)=j:=by omega
   have eT:u64.wrap (BitVec.ofInt u64.bits (u64.wrap (r*2 ^ (min (32:Int).toNat u64.bits))) ||| BitVec.ofInt u64.bits (u64.wrap a[j])).toNat=r*4294967296+a[j]:=by
    rw[Zh (x:=a[j]) (by omega)]; exact or32 (by omega) x1
   have hT:0<=r*4294967296+a[j]:=by omega
   have hq:(r*4294967296+a[j]) / d<4294967296:=Int.ediv_lt_of_lt_mul hd.1 (by
    have:4294967296*(r+1)<=4294967296*d:=Int.mul_le_mul_of_nonneg_left (by omega) (by decide)
    omega)
   have hq0:0<=(r*4294967296+a[j]) / d:=Int.ediv_nonneg hT (by omega)
   have hm:=Int.emod_lt_of_pos (r*4294967296+a[j]) hd.1
   have hm0:=Int.emod_nonneg (r*4294967296+a[j]) (show d≠0 by omega)
   have hdm:=Int.mul_ediv_add_emod (r*4294967296+a[j]) d
   rw[ei]
   refine⟨(q.set j ((r*4294967296+a[j]) / d),(r*4294967296+a[j]) % d,(a.length:Int)-1-((k+1:Nat):Int)),Cq.wp.yes (by omega) ⟨_,idxN hi,by show d≠0; omega,_,idxN (show j<q.length by omega),by show d≠0; omega,?_⟩,_,_,rfl,by rw[List.length_set]; exact h1,h2.set ⟨hq0,hq⟩ _,⟨hm0,hm⟩,?_⟩
   .show Sum.inl _=Sum.inl _
    rw[eT,tdivP hT,tmodP hT,Zh (by omega),Zav ⟨hq0,hq⟩,wrap64 (by omega),Int.toNat_natCast,show (j:Int)-1=(a.length:Int)-1-((k+1:Nat):Int) by omega]
   rw[ej2]
   rw[ej] at h4
   rw[List.drop_eq_getElem_cons (show j<(q.set j _).length by rw[List.length_set]; omega),List.getElem_set_self,List.drop_set_of_lt (by omega),List.drop_eq_getElem_cons hi,ZL,ZL,<- h4,Int.add_mul,Int.mul_add,Int.mul_assoc 4294967296,Int.mul_comm ((r*4294967296+a[j]) / d) d]
   omega)
  (fun s hs=>by
   obtain⟨q,r,rfl,h1,h2,h3,h4⟩:=hs
   rw[Nat.sub_self,List.drop_zero,List.drop_zero] at h4
   exact⟨(q,r),Cq.wp.no (by omega) rfl,h1,h2,h3,h4⟩)
  (s:=(List.replicate a.length 0,0,(a.length:Int)-1)) ⟨_,_,by simp,List.length_replicate,Wd.zeros _,⟨by decide,hd.1⟩,by simp[ZN]⟩
 obtain⟨⟨q,r⟩,k1,k2,k3,k4,k5⟩:=key
 dsimp only at k2 k3 k4 k5
 rw[ha.val] at k5
 have eq:nv q=x / d/\r=x % d:=by
  have:=(Int.ediv_emod_unique hd.1 (a:=x) (r:=r) (q:=nv q)).2 ⟨by rw[Int.mul_comm d]; omega,k4.1,k4.2⟩
  exact⟨this.1.symm,this.2.symm⟩
 obtain⟨z,r1,r2,_⟩:=Zab (a:=q) (by omega) k3
 rw[eq.1] at r2
 refine⟨z,⟨⟨by omega,by omega⟩,?_⟩,r2⟩
 rw[Int.toNat_natCast,wrap64 (by omega)]
 refine Cq.nextR k1 ⟨z,r1,?_⟩
 rw[eq.2]; rfl
end Go.EL

namespace Go.EL
open Go.IntKind (i8 i16 i32 i64 u8 u16 u32 u64)
open Go Go.EL Go.RowKit
theorem two_pos(m:Nat):(0:Int)<2 ^ m:=Int.pow_pos (by decide)
theorem Zjj{m n:Nat}(h:m<=n):(2:Int) ^ m<=2 ^ n:=by
 obtain⟨k,rfl⟩:=Nat.exists_eq_add_of_le h
 rw[Int.pow_add]
 have:=Int.mul_le_mul_of_nonneg_left (show (1:Int)<=2 ^ k from two_pos k) (Int.le_of_lt (two_pos m))
 omega
theorem Zk4{m:Nat}(h:m<=31):min ((m:Int)).toNat u64.bits=m:=by
 rw[Int.toNat_natCast]; exact Nat.min_eq_left (by show m<=64; omega)
theorem Zmj{a:List Int}{m:Nat}(la:a.length<=900000)(wa:Wd a)(hm:m<=31):∃ r,(ZaG a (m:Int)).Ret r/\r.length=a.length+1/\Wd r/\nv r=nv a*2 ^ m:=by
 have wl:i64.wrap ((a.length:Int)+1)=((a.length+1:Nat):Int):=wrapN (by omega)
 have hp:=two_pos m
 have hp2:(2:Int) ^ m<=2147483648:=Zjj (n:=31) hm
 have key:=Cq.ZQ (step:=fun gs:List Int×Int×Int=>match gs with|(rv2,carry2,v15_1)=>if v15_1<(a.length:Int) then (Cq.at' a v15_1 fun x2=>Cq.chk (0<=(m:Int)) (Cq.at' rv2 v15_1 fun x3=>Cq.ret (.inl ((rv2.set v15_1.toNat (u32.wrap (u64.wrap (BitVec.ofInt u64.bits (u64.wrap ((u64.wrap x2)*2 ^ (min ((m:Int)).toNat u64.bits))) ||| BitVec.ofInt u64.bits carry2).toNat))),Int.fdiv (u64.wrap (BitVec.ofInt u64.bits (u64.wrap ((u64.wrap x2)*2 ^ (min ((m:Int)).toNat u64.bits))) ||| BitVec.ofInt u64.bits carry2).toNat) (2 ^ (min (32:Int).toNat u64.bits)),i64.wrap (v15_1+1))))) else (Cq.ret (.inr (rv2,carry2))))
  (Φ:=fun o:List Int×Int=>o.1.length=a.length+1/\Wd o.1/\(0<=o.2/\o.2<2 ^ m)/\nv (o.1.take a.length)+4294967296 ^ a.length*o.2=nv a*2 ^ m) a.length
  (fun k s=>∃ rv c,s=(rv,c,(k:Int))/\rv.length=a.length+1/\Wd rv/\(0<=c/\c<2 ^ m)/\nv (rv.take k)+4294967296 ^ k*c=nv (a.take k)*2 ^ m)
  (fun k s hk hs=>by
   obtain⟨rv,c,rfl,h1,h2,h3,h4⟩:=hs
   have x1:=wa.get hk
   have hmul:a[k]*2 ^ m<=4294967295*2 ^ m:=Int.mul_le_mul_of_nonneg_right (by omega) (Int.le_of_lt hp)
   have hnn:=Int.mul_nonneg x1.1 (Int.le_of_lt hp)
   have eT:u64.wrap (BitVec.ofInt u64.bits (u64.wrap ((u64.wrap a[k])*2 ^ (min ((m:Int)).toNat u64.bits))) ||| BitVec.ofInt u64.bits c).toNat=a[k]*2 ^ m+c:=by
    rw[Zk4 hm,Zh (x:=a[k]) (by omega),Zh (x:=a[k]*2 ^ m) (by omega)]
    show u64.wrap (BitVec.ofInt 64 (a[k]*2 ^ m) ||| BitVec.ofInt 64 c).toNat=_
    rw[Zle x1.1 h3 (by omega),Zh (by omega)]
   have hdiv:(a[k]*2 ^ m+c) / 4294967296<2 ^ m:=by omega
   refine⟨(rv.set k ((a[k]*2 ^ m+c) % 4294967296),(a[k]*2 ^ m+c) / 4294967296,((k+1:Nat):Int)),Cq.wp.yes (by omega) ⟨_,idxN hk,by omega,_,idxN (show k<rv.length by omega),?_⟩,_,_,rfl,by rw[List.length_set]; exact h1,h2.set (by omega) k,⟨by omega,hdiv⟩,?_⟩
   .show Sum.inl _=Sum.inl _
    rw[eT,u32w,sh32,wrapN (by omega),Int.toNat_natCast]
   rw[ZS (by omega),Zl hk,Int.add_mul,<- h4]
   have:=dig k (a[k]*2 ^ m+c)
   rw[Int.mul_add] at this
   rw[Int.mul_assoc (4294967296 ^ k)]
   omega)
  (fun s hs=>by
   obtain⟨rv,c,rfl,h1,h2,h3,h4⟩:=hs
   rw[List.take_length] at h4
   exact⟨(rv,c),Cq.wp.no (by omega) rfl,h1,h2,h3,h4⟩)
  (s:=(List.replicate (a.length+1) 0,0,0)) ⟨_,_,rfl,List.length_replicate,Wd.zeros _,⟨by decide,hp⟩,by simp[ZN]⟩
 obtain⟨⟨rv,c⟩,k1,k2,k3,k4,k5⟩:=key
 dsimp only at k2 k3 k4 k5
 have hr:nv (rv.set a.length c)=nv a*2 ^ m:=by
  have:=ZS (l:=rv) (k:=a.length) (by omega) c
  rw[List.take_of_length_le (by rw[List.length_set]; omega)] at this
  rw[this,k5]
 refine⟨rv.set a.length c,⟨by rw[wl]; omega,?_⟩,by rw[List.length_set]; exact k2,k3.set (by omega) _,hr⟩
 rw[wl,Int.toNat_natCast]
 refine Cq.nextR (r:=(rv,c)) k1 ⟨_,idxN (show a.length<rv.length by omega),?_⟩
 show _=_
 rw[Zav (by omega),Int.toNat_natCast]
theorem Zpw{t:Int}{m:Nat}(ht:0<=t/\t<18446744073709551616)(hm:m<=31):u64.wrap (BitVec.ofInt u64.bits t &&& BitVec.ofInt u64.bits (u64.wrap ((u64.wrap (1*2 ^ (min ((m:Int)).toNat u64.bits)))-1))).toNat=t % 2 ^ m:=by
 have hp:=two_pos m
 have hp2:(2:Int) ^ m<=2147483648:=Zjj (n:=31) hm
 rw[Zk4 hm,Int.one_mul,Zh (x:=2 ^ m) (by omega),Zh (x:=2 ^ m-1) (by omega)]
 obtain⟨a,rfl⟩:=Int.eq_ofNat_of_zero_le ht.1
 have e2:(2:Int) ^ m=((2 ^ m:Nat):Int):=by rw[Int.natCast_pow]; rfl
 have hpn:0<2 ^ m:=Nat.two_pow_pos m
 show u64.wrap (BitVec.ofInt 64 (a:Int) &&& BitVec.ofInt 64 (2 ^ m-1)).toNat=_
 rw[e2] at hp2
 rw[e2,show ((2 ^ m:Nat):Int)-1=((2 ^ m-1:Nat):Int) by omega,BitVec.ofInt_natCast,BitVec.ofInt_natCast,BitVec.toNat_and,BitVec.toNat_ofNat,BitVec.toNat_ofNat,Nat.mod_eq_of_lt (show a<2 ^ 64 by omega),Nat.mod_eq_of_lt (show 2 ^ m-1<2 ^ 64 by omega),Nat.and_two_pow_sub_one_eq_mod]
 have h1:=Nat.mod_lt a hpn
 rw[Zh (by omega),Int.natCast_emod]
theorem ZpI{t:Int}{m:Nat}(hm:m<=31):Int.fdiv t (2 ^ (min ((m:Int)).toNat u64.bits))=t / 2 ^ m:=by
 rw[Zk4 hm,Int.fdiv_eq_ediv_of_nonneg _ (Int.le_of_lt (two_pos m))]
theorem Zp2{a:List Int}{m:Nat}(la:a.length<=900000)(wa:Wd a)(hm:m<=31):∃ r,(Zbj a (m:Int)).Ret r/\Mg r (nv a / 2 ^ m):=by
 have hp:=two_pos m
 have hp2:(2:Int) ^ m<=2147483648:=Zjj (n:=31) hm
 have key:=Cq.ZQ (step:=fun gs:List Int×Int×Int=>match gs with|(rv2,carry1,i1)=>if 0<=i1 then (Cq.at' a i1 fun x1=>Cq.chk (0<=(m:Int)) (Cq.at' rv2 i1 fun x2=>Cq.chk (0<=(m:Int)) (Cq.ret (.inl ((rv2.set i1.toNat (u32.wrap (Int.fdiv (u64.wrap (BitVec.ofInt u64.bits (u64.wrap (carry1*2 ^ (min (32:Int).toNat u64.bits))) ||| BitVec.ofInt u64.bits (u64.wrap x1)).toNat) (2 ^ (min ((m:Int)).toNat u64.bits))))),u64.wrap (BitVec.ofInt u64.bits (u64.wrap (BitVec.ofInt u64.bits (u64.wrap (carry1*2 ^ (min (32:Int).toNat u64.bits))) ||| BitVec.ofInt u64.bits (u64.wrap x1)).toNat) &&& BitVec.ofInt u64.bits (u64.wrap ((u64.wrap (1*2 ^ (min ((m:Int)).toNat u64.bits)))-1))).toNat,i64.wrap (i1-1)))))) else (Cq.ret (.inr rv2)))
  (Φ:=fun o:List Int=>o.length=a.length/\Wd o/\nv o=nv a / 2 ^ m) a.length
  (fun k s=>∃ q r,s=(q,r,(a.length:Int)-1-(k:Int))/\q.length=a.length/\Wd q/\(0<=r/\r<2 ^ m)/\nv (q.drop (a.length-k))*2 ^ m+r=nv (a.drop (a.length-k)))
  (fun k s hk hs=>by
   obtain⟨q,r,rfl,h1,h2,h3,h4⟩:=hs
   have hi:a.length-1-k<a.length:=by omega
   have ei:(a.length:Int)-1-(k:Int)=((a.length-1-k:Nat):Int):=by omega
   have x1:=wa.get hi
   generalize hj:a.length-1-k=j at hi ei x1
   have ej:a.length-k=j+1:=by omega
   have ej2:a.length-(k+1)=j:=by omega
   have eT:u64.wrap (BitVec.ofInt u64.bits (u64.wrap (r*2 ^ (min (32:Int).toNat u64.bits))) ||| BitVec.ofInt u64.bits (u64.wrap a[j])).toNat=r*4294967296+a[j]:=by
    rw[Zh (x:=a[j]) (by omega)]; exact or32 (by omega) x1
   have hT:0<=r*4294967296+a[j]:=by omega
   have hq:(r*4294967296+a[j]) / 2 ^ m<4294967296:=Int.ediv_lt_of_lt_mul hp (by
    have:4294967296*(r+1)<=4294967296*2 ^ m:=Int.mul_le_mul_of_nonneg_left (by omega) (by decide)
    omega)
   have hq0:0<=(r*4294967296+a[j]) / 2 ^ m:=Int.ediv_nonneg hT (by omega)
   have hm1:=Int.emod_lt_of_pos (r*4294967296+a[j]) hp
   have hm0:=Int.emod_nonneg (r*4294967296+a[j]) (show (2:Int) ^ m≠0 by omega)
   have hdm:=Int.mul_ediv_add_emod (r*4294967296+a[j]) (2 ^ m)
   rw[ei]
   refine⟨(q.set j ((r*4294967296+a[j]) / 2 ^ m),(r*4294967296+a[j]) % 2 ^ m,(a.length:Int)-1-((k+1:Nat):Int)),Cq.wp.yes (by omega) ⟨_,idxN hi,by omega,_,idxN (show j<q.length by omega),by omega,?_⟩,_,_,rfl,by rw[List.length_set]; exact h1,h2.set ⟨hq0,hq⟩ _,⟨hm0,hm1⟩,?_⟩
   .show Sum.inl _=Sum.inl _
    rw[eT,Zpw ⟨hT,by omega⟩ hm,ZpI hm,Zav ⟨hq0,hq⟩,wrap64 (by omega),Int.toNat_natCast,show (j:Int)-1=(a.length:Int)-1-((k+1:Nat):Int) by omega]
   rw[ej2]
   rw[ej] at h4
   rw[List.drop_eq_getElem_cons (show j<(q.set j _).length by rw[List.length_set]; omega),List.getElem_set_self,List.drop_set_of_lt (by omega),List.drop_eq_getElem_cons hi,ZL,ZL,<- h4,Int.add_mul,Int.mul_add,Int.mul_assoc 4294967296,Int.mul_comm ((r*4294967296+a[j]) / 2 ^ m) (2 ^ m)]
   omega)
  (fun s hs=>by
   obtain⟨q,r,rfl,h1,h2,h3,h4⟩:=hs
   rw[Nat.sub_self,List.drop_zero,List.drop_zero] at h4
   have:=(Int.ediv_emod_unique hp (a:=nv a) (r:=r) (q:=nv q)).2 ⟨by rw[Int.mul_comm (2 ^ m)]; omega,h3.1,h3.2⟩
   exact⟨q,Cq.wp.no (by omega) rfl,h1,h2,this.1.symm⟩)
  (s:=(List.replicate a.length 0,0,(a.length:Int)-1)) ⟨_,_,by simp,List.length_replicate,Wd.zeros _,⟨by decide,hp⟩,by simp[ZN]⟩
 obtain⟨q,k1,k2,k3,k4⟩:=key
 obtain⟨z,r1,r2,_⟩:=Zab (a:=q) (by omega) k3
 rw[k4] at r2
 refine⟨z,⟨⟨by omega,by omega⟩,?_⟩,r2⟩
 rw[Int.toNat_natCast,wrap64 (by omega)]
 exact Cq.nextR k1 ⟨z,r1,rfl⟩
end Go.EL

namespace Go.EL
open Go.IntKind (i8 i16 i32 i64 u8 u16 u32 u64)
open Go Go.EL Go.RowKit
structure Digit (U V q:Int):Prop where
 w:0<=q/\q<4294967296
 up:U<(q+1)*V
 lo:q*V<U+V
section
variable {U V P t u2 Ul v1 v2 Vl:Int}
theorem Parts2.Zqx(h:Parts2 U V P t u2 Ul v1 v2 Vl):t<(v1+1)*4294967296:=by
 rcases Int.lt_or_le t ((v1+1)*4294967296) with c|c
 .exact c
 have a1:(v1*4294967296+v2+1)*P<=((v1+1)*4294967296)*P:=Int.mul_le_mul_of_nonneg_right (by have:=h.w2; omega) (Int.le_of_lt h.p)
 have a2:((v1+1)*4294967296)*P<=t*P:=Int.mul_le_mul_of_nonneg_right c (Int.le_of_lt h.p)
 have e1:V<(v1*4294967296+v2+1)*P:=by rw[h.v,Int.add_mul (v1*4294967296+v2) 1 P]; have:=h.vl; omega
 have a3:(t*4294967296)*P<=(t*4294967296+u2)*P:=Int.mul_le_mul_of_nonneg_right (by have:=h.x2; omega) (Int.le_of_lt h.p)
 have:=h.lt; have:=h.u; have:=h.ul
 rw[Int.mul_right_comm] at a3
 omega
theorem Parts2.brk(h:Parts2 U V P t u2 Ul v1 v2 Vl){q r:Int}(g:Guess U V t v1 q r)(hq:0<=q)(hr:4294967296<=r):Digit U V q:=by
 have h1:q<4294967296:=by
  rcases Int.lt_or_le q 4294967296 with c|c
  .exact c
  have a:4294967296*v1<=q*v1:=Int.mul_le_mul_of_nonneg_right c (by have:=h.w1; omega)
  have:=g.tv; have:=h.Zqx
  rw[Int.add_mul] at this
  omega
 refine⟨⟨hq,h1⟩,g.up,h.stop g ⟨hq,h1⟩ ?_⟩
 have a:q*v2<=4294967295*4294967295:=Int.mul_le_mul (by omega) (by have:=h.w2; omega) h.w2.1 (by decide)
 have:=h.x2
 omega
end
theorem ZmL{u v:List Int}{n:Nat}{U V P t Ul Vl:Int}(hv:v.length=n)(hn:2<=n)(hs:n<=900000)(hu:u.length=n+1)(wv:Wd v)(wu:Wd u)
  (hp:Parts2 U V P t (u[n-2]'(by omega)) Ul (v[n-1]'(by omega)) (v[n-2]'(by omega)) Vl) (ht:t<18446744073709551616) :
  ∀ (m:Nat) (q r:Int),(4294967296-r).toNat<=m->0<=q->(0<=r/\r<4294967296)->Guess U V t (v[n-1]'(by omega)) q r->∃ d,(Zaa u v (q,r)).Ret d/\Digit U V d:=by
 intro m
 induction m with
 | zero=>intro q r hm; omega
 | succ m ih=>
  intro q r hm hq hr g
  have w1:=hp.w1
  have w2:=hp.w2
  have x2:=hp.x2
  have i1:i64.wrap ((v.length:Int)-1)=((n-1:Nat):Int):=by rw[wrap64 (by omega)]; omega
  have i2:i64.wrap ((v.length:Int)-2)=((n-2:Nat):Int):=by rw[wrap64 (by omega)]; omega
  have hqt:q<=t:=by
   have:=Int.mul_le_mul_of_nonneg_left (show 1<=v[n-1]'(by omega) by omega) hq
   have:=g.tv; omega
  have step:1<=q->Guess U V t (v[n-1]'(by omega)) (q-1) (r+v[n-1]'(by omega))->∃ d,(Cq.at' v (i64.wrap ((v.length:Int)-1)) fun x15=>if 4294967296<=(u64.wrap (r+(u64.wrap x15))) then (Cq.ret (.inr (u64.wrap (q-1)))) else (Cq.ret (.inl (u64.wrap (q-1),u64.wrap (r+(u64.wrap x15)))))).wp (fun o:(Int×Int)⊕Int=>match o with | .inl s=>(Zaa u v s).Ret d | .inr z=>z=d)/\Digit U V d:=by
   intro h1 g'
   have e1:u64.wrap (r+(u64.wrap (v[n-1]'(by omega))))=r+v[n-1]'(by omega):=by rw[Zh (x:=v[n-1]'(by omega)) (by omega),Zh (by omega)]
   have e2:u64.wrap (q-1)=q-1:=Zh (by omega)
   by_cases c:4294967296<=r+v[n-1]'(by omega)
   .refine⟨q-1,?_,hp.brk g' (by omega) c⟩
    rw[i1]
    exact⟨_,idxN (by omega),Cq.wp.yes (by rw[e1]; exact c) (by show _=_; rw[e2])⟩
   obtain⟨d,d1,d2⟩:=ih (q-1) (r+v[n-1]'(by omega)) (by omega) (by omega) (by omega) g'
   refine⟨d,?_,d2⟩
   rw[i1]
   refine⟨_,idxN (by omega),Cq.wp.no (by rw[e1]; exact c) ?_⟩
   show (Zaa u v (u64.wrap (q-1),_)).Ret d
   rw[e1,e2]; exact d1
  by_cases c1:4294967296<=q
  .obtain⟨d,d1,d2⟩:=step (by omega) (hp.step1 g c1)
   refine⟨d,Cq.Zm (Cq.wp.yes c1 (Cq.mono _ (fun o ho=>?_) d1)),d2⟩
   cases o <;> exact ho
  have e3:u64.wrap (q*(u64.wrap (v[n-2]'(by omega))))=q*v[n-2]'(by omega):=by
   have:=Int.mul_le_mul (show q<=4294967295 by omega) (show v[n-2]'(by omega)<=4294967295 by omega) w2.1 (by decide)
   have:=Int.mul_nonneg hq w2.1
   rw[Zh (x:=v[n-2]'(by omega)) (by omega),Zh (by omega)]
  have e4:u64.wrap (BitVec.ofInt u64.bits (u64.wrap (r*2 ^ (min (32:Int).toNat u64.bits))) ||| BitVec.ofInt u64.bits (u64.wrap (u[n-2]'(by omega)))).toNat=r*4294967296+u[n-2]'(by omega):=by
   rw[Zh (x:=u[n-2]'(by omega)) (by omega)]; exact or32 hr x2
  by_cases c2:r*4294967296+u[n-2]'(by omega)<q*v[n-2]'(by omega)
  .have hq1:1<=q:=by
    rcases Int.lt_or_le q 1 with c|c
    .have:=Int.mul_nonpos_of_nonpos_of_nonneg (show q<=0 by omega) w2.1; omega
    exact c
   obtain⟨d,d1,d2⟩:=step hq1 (hp.step2 g hq c2)
   refine⟨d,Cq.Zm (Cq.wp.no c1 ?_),d2⟩
   refine⟨_,by rw[i2]; exact idxN (by omega),_,by rw[i2]; exact idxN (by omega),Cq.wp.yes (by rw[e3,e4]; exact c2) (Cq.mono _ (fun o ho=>?_) d1)⟩
   cases o <;> exact ho
  refine⟨q,Cq.Zm (Cq.wp.no c1 ?_),⟨⟨hq,by omega⟩,g.up,hp.stop g ⟨hq,by omega⟩ (by omega)⟩⟩
  exact⟨_,by rw[i2]; exact idxN (by omega),_,by rw[i2]; exact idxN (by omega),Cq.wp.no (by rw[e3,e4]; exact c2) rfl⟩
theorem Zob{u v:List Int}{n:Nat}{q:Int}(hv:v.length=n)(hs:n<=900000)(hu:u.length=n+1)(wv:Wd v)(wu:Wd u)(hq:0<=q/\q<4294967296):
  ∃ o:List Int×Int×Int,(ZbC v q (u,0,0,0)).Ret o/\o.1.length=n+1/\Wd o.1/\(0<=o.2.1/\o.2.1<4294967296)/\(0<=o.2.2/\o.2.2<=1)/\nv (o.1.take n)+q*nv v=nv (u.take n)+4294967296 ^ n*(o.2.1+o.2.2)/\o.1[n]? = u[n]?:=by
 have key:=Cq.ZQ (step:=fun gs:List Int×Int×Int×Int=>match gs with|(v0_4,v9_4,v10_2,v83_1)=>if v83_1<(v.length:Int) then (Cq.at' v v83_1 fun x12=>Cq.at' v0_4 v83_1 fun x13=>Cq.at' v0_4 v83_1 fun x14=>Cq.ret (.inl ((v0_4.set v83_1.toNat (u32.wrap (u64.wrap ((u64.wrap ((u64.wrap x13)-(u64.wrap (u32.wrap (u64.wrap ((u64.wrap (q*(u64.wrap x12)))+v9_4))))))-v10_2)))),Int.fdiv (u64.wrap ((u64.wrap (q*(u64.wrap x12)))+v9_4)) (2 ^ (min (32:Int).toNat u64.bits)),Int.fdiv (u64.wrap ((u64.wrap ((u64.wrap x13)-(u64.wrap (u32.wrap (u64.wrap ((u64.wrap (q*(u64.wrap x12)))+v9_4))))))-v10_2)) (2 ^ (min (63:Int).toNat u64.bits)),i64.wrap (v83_1+1)))) else (Cq.ret (.inr (v0_4,v9_4,v10_2))))
  (Φ:=fun o:List Int×Int×Int=>o.1.length=n+1/\Wd o.1/\(0<=o.2.1/\o.2.1<4294967296)/\(0<=o.2.2/\o.2.2<=1)/\nv (o.1.take n)+q*nv v=nv (u.take n)+4294967296 ^ n*(o.2.1+o.2.2)/\o.1[n]? = u[n]?) n
  (fun k s=>∃ rv c b,s=(rv,c,b,(k:Int))/\rv.length=n+1/\Wd rv/\(0<=c/\c<4294967296)/\(0<=b/\b<=1)/\nv (rv.take k)+q*nv (v.take k)=nv (u.take k)+4294967296 ^ k*(c+b)/\∀ j:Nat,k<=j->rv[j]? = u[j]?)
  (fun k s hk hs'=>by
   obtain⟨rv,c,b,rfl,h1,h2,h3,h4,h5,h6⟩:=hs'
   have hkv:k<v.length:=by omega
   have hkr:k<rv.length:=by omega
   have hku:k<u.length:=by omega
   have x1:=wv.get hkv
   have x2:=wu.get hku
   have er:rv[k]=u[k]:=by
    have:=h6 k (Nat.le_refl _)
    rw[List.getElem?_eq_getElem hkr,List.getElem?_eq_getElem hku] at this
    exact Option.some.inj this
   have m1:=Int.mul_le_mul (show q<=4294967295 by omega) (show v[k]<=4294967295 by omega) x1.1 (by decide)
   have m0:=Int.mul_nonneg hq.1 x1.1
   generalize hT:q*v[k]+c=T
   have eT:u64.wrap ((u64.wrap (q*(u64.wrap v[k])))+c)=T:=by
    rw[Zh (x:=v[k]) (by omega),Zh (x:=q*v[k]) (by omega),Zh (by omega),hT]
   have hTb:0<=T/\T<=4294967295*4294967296:=by omega
   generalize hD:u[k]-T % 4294967296-b=D
   have hDb:-4294967296<=D/\D<4294967296:=by omega
   have eD:u64.wrap ((u64.wrap ((u64.wrap rv[k])-(u64.wrap (u32.wrap T))))-b)=D % 18446744073709551616:=by
    rw[er,Zh (x:=u[k]) (by omega),u32w,Zh (x:=T % 4294967296) (by omega),u64w,u64w]; omega
   have eb:D % 18446744073709551616 / 9223372036854775808=if D<0 then 1 else 0:=by split <;> omega
   refine⟨(rv.set k (D % 4294967296),T / 4294967296,(if D<0 then 1 else 0),((k+1:Nat):Int)),Cq.wp.yes (by omega) ⟨_,idxN hkv,_,idxN hkr,_,idxN hkr,?_⟩,_,_,_,rfl,by rw[List.length_set]; exact h1,h2.set (by omega) k,by omega,by split <;> decide,?_,fun j hj=>?_⟩
   .show Sum.inl _=Sum.inl _
    rw[eT,eD,u32w,sh32,sh63,eb,wrapN (by omega),Int.toNat_natCast,show D % 18446744073709551616 % 4294967296=D % 4294967296 by omega]
   .rw[ZS hkr,Zl hkv,Zl hku]
    have e1:D % 4294967296+q*v[k]+c+b=u[k]+4294967296*(T / 4294967296+if D<0 then 1 else 0):=by split <;> omega
    have e2:(4294967296:Int) ^ k*(D % 4294967296+q*v[k]+c+b)=4294967296 ^ k*(u[k]+4294967296*(T / 4294967296+if D<0 then 1 else 0)):=by rw[e1]
    rw[Int.mul_add,Int.mul_add,Int.mul_add,Int.mul_add,<- Int.mul_assoc _ 4294967296,show (4294967296:Int) ^ k*4294967296=4294967296 ^ (k+1) from (Int.pow_succ _ _).symm] at e2
    rw[Int.mul_add] at h5
    rw[Int.mul_add q,Int.mul_left_comm q]
    omega
   rw[List.getElem?_set_ne (by omega)]; exact h6 j (by omega))
  (fun s hs'=>by
   obtain⟨rv,c,b,rfl,h1,h2,h3,h4,h5,h6⟩:=hs'
   rw[List.take_of_length_le (show v.length<=n by omega)] at h5
   exact⟨(rv,c,b),Cq.wp.no (by omega) rfl,h1,h2,h3,h4,h5,h6 n (Nat.le_refl _)⟩)
  (s:=(u,0,0,0)) ⟨_,_,_,rfl,hu,wu,by decide,by decide,by simp[ZN],fun _ _=>rfl⟩
 exact key
theorem Znk{u v:List Int}{n:Nat}(hv:v.length=n)(hs:n<=900000)(hu:u.length=n+1)(wv:Wd v)(wu:Wd u):
  ∃ o:List Int×Int,(ZbB v (u,0,0)).Ret o/\o.1.length=n+1/\Wd o.1/\(0<=o.2/\o.2<=1)/\nv (o.1.take n)+4294967296 ^ n*o.2=nv (u.take n)+nv v/\o.1[n]? = u[n]?:=by
 have key:=Cq.ZQ (step:=fun gs:List Int×Int×Int=>match gs with|(v0_3,v9_3,v136_1)=>if v136_1<(v.length:Int) then (Cq.at' v0_3 v136_1 fun x9=>Cq.at' v v136_1 fun x10=>Cq.at' v0_3 v136_1 fun x11=>Cq.ret (.inl ((v0_3.set v136_1.toNat (u32.wrap (u64.wrap ((u64.wrap ((u64.wrap x9)+(u64.wrap x10)))+v9_3)))),Int.fdiv (u64.wrap ((u64.wrap ((u64.wrap x9)+(u64.wrap x10)))+v9_3)) (2 ^ (min (32:Int).toNat u64.bits)),i64.wrap (v136_1+1)))) else (Cq.ret (.inr (v0_3,v9_3))))
  (Φ:=fun o:List Int×Int=>o.1.length=n+1/\Wd o.1/\(0<=o.2/\o.2<=1)/\nv (o.1.take n)+4294967296 ^ n*o.2=nv (u.take n)+nv v/\o.1[n]? = u[n]?) n
  (fun k s=>∃ rv c,s=(rv,c,(k:Int))/\rv.length=n+1/\Wd rv/\(0<=c/\c<=1)/\nv (rv.take k)+4294967296 ^ k*c=nv (u.take k)+nv (v.take k)/\∀ j:Nat,k<=j->rv[j]? = u[j]?)
  (fun k s hk hs'=>by
   obtain⟨rv,c,rfl,h1,h2,h3,h5,h6⟩:=hs'
   have hkv:k<v.length:=by omega
   have hkr:k<rv.length:=by omega
   have hku:k<u.length:=by omega
   have x1:=wv.get hkv
   have x2:=wu.get hku
   have er:rv[k]=u[k]:=by
    have:=h6 k (Nat.le_refl _)
    rw[List.getElem?_eq_getElem hkr,List.getElem?_eq_getElem hku] at this
    exact Option.some.inj this
   have eT:u64.wrap ((u64.wrap ((u64.wrap rv[k])+(u64.wrap v[k])))+c)=u[k]+v[k]+c:=by
    rw[er,Zh (x:=u[k]) (by omega),Zh (x:=v[k]) (by omega),Zh (x:=u[k]+v[k]) (by omega),Zh (by omega)]
   refine⟨(rv.set k ((u[k]+v[k]+c) % 4294967296),(u[k]+v[k]+c) / 4294967296,((k+1:Nat):Int)),Cq.wp.yes (by omega) ⟨_,idxN hkr,_,idxN hkv,_,idxN hkr,?_⟩,_,_,rfl,by rw[List.length_set]; exact h1,h2.set (by omega) k,by omega,?_,fun j hj=>?_⟩
   .show Sum.inl _=Sum.inl _
    rw[eT,u32w,sh32,wrapN (by omega),Int.toNat_natCast]
   .rw[ZS hkr,Zl hkv,Zl hku]
    have:=dig k (u[k]+v[k]+c)
    rw[Int.mul_add (4294967296 ^ k) (u[k]+v[k]),Int.mul_add (4294967296 ^ k) (u[k])] at this
    omega
   rw[List.getElem?_set_ne (by omega)]; exact h6 j (by omega))
  (fun s hs'=>by
   obtain⟨rv,c,rfl,h1,h2,h3,h5,h6⟩:=hs'
   rw[List.take_of_length_le (show v.length<=n by omega)] at h5
   exact⟨(rv,c),Cq.wp.no (by omega) rfl,h1,h2,h3,h5,h6 n (Nat.le_refl _)⟩)
  (s:=(u,0,0)) ⟨_,_,rfl,hu,wu,by decide,by simp[ZN],fun _ _=>rfl⟩
 exact key
theorem Zn2{u v:List Int}{m:Nat}(hv:v.length=m+2)(hs:m+2<=900000)(hu:u.length=m+3)(wv:Wd v)(wu:Wd u)(htop:0<v[m+1])(hlt:nv u<nv v*4294967296):
  ∃ q u',(Z4 u v).Ret (q,u')/\(0<=q/\q<4294967296)/\u'.length=m+3/\Wd u'/\nv u=q*nv v+nv u'/\nv u'<nv v:=by
 have x1:=wu.get (show m+2<u.length by omega)
 have x2:=wu.get (show m+1<u.length by omega)
 have x4:=wu.get (show m<u.length by omega)
 have x3:=wv.get (show m+1<v.length by omega)
 have x5:=wv.get (show m<v.length by omega)
 have su:nv u=((u[m+2]*4294967296+u[m+1])*4294967296+u[m])*4294967296 ^ m+nv (u.take m):=by
  have h1:=Zl (a:=u) (i:=m) (by omega)
  have h2:=Zl (a:=u) (i:=m+1) (by omega)
  have h3:=Zl (a:=u) (i:=m+2) (by omega)
  rw[List.take_of_length_le (by omega)] at h3
  rw[h3,h2,h1,show (4294967296:Int) ^ (m+2)=4294967296*(4294967296*4294967296 ^ m) by rw[<- ZT,<- ZT],ZT]
  grind
 have sv:nv v=(v[m+1]*4294967296+v[m])*4294967296 ^ m+nv (v.take m):=by
  have h1:=Zl (a:=v) (i:=m) (by omega)
  have h2:=Zl (a:=v) (i:=m+1) (by omega)
  rw[List.take_of_length_le (by omega)] at h2
  rw[h2,h1,ZT,Int.add_mul]
  simp only[Int.mul_assoc,Int.mul_comm,Int.mul_left_comm]
  omega
 have lu:=ZaR (wu.take m)
 have lv:=ZaR (wv.take m)
 rw[List.length_take,Nat.min_eq_left (by omega)] at lu lv
 generalize hT:u[m+2]*4294967296+u[m+1]=T at su
 have hp:Parts2 (nv u) (nv v) (4294967296 ^ m) T (u[m]) (nv (u.take m)) (v[m+1]) (v[m]) (nv (v.take m)):=
  ⟨Z5 _,sv,su,⟨Zz (wv.take _),lv⟩,⟨Zz (wu.take _),lu⟩,⟨htop,x3.2⟩,x5,x4,by omega,hlt⟩
 have hm:=Int.emod_lt_of_pos T htop
 have hm0:=Int.emod_nonneg T (show v[m+1]≠0 by omega)
 obtain⟨q,g1,g2⟩:=ZmL hv (by omega) hs hu wv wu hp (by omega) _ (T / v[m+1]) (T % v[m+1]) (Nat.le_refl _) (Int.ediv_nonneg (by omega) (by omega)) ⟨hm0,by omega⟩ hp.start
 obtain⟨⟨u1,c,b⟩,t1,t2,t3,t4,t5,t6,t7⟩:=Zob (q:=q) hv hs hu wv wu g2.w
 dsimp only at t2 t3 t4 t5 t6 t7
 have hn1:m+2<u1.length:=by omega
 have hnu:m+2<u.length:=by omega
 have e1:u1[m+2]=u[m+2]:=by
  rw[List.getElem?_eq_getElem hn1,List.getElem?_eq_getElem hnu] at t7
  exact Option.some.inj t7
 have i0:(v.length:Int)=((m+2:Nat):Int):=by omega
 have i1:i64.wrap ((v.length:Int)-1)=((m+1:Nat):Int):=by rw[wrap64 (by omega)]; omega
 have hU:=Zl hnu
 rw[List.take_of_length_le (by omega)] at hU
 generalize hD:u[m+2]-c-b=D
 have hDb:-4294967296<=D/\D<4294967296:=by omega
 have eD:u64.wrap ((u64.wrap ((u64.wrap u1[m+2])-c))-b)=D % 18446744073709551616:=by
  rw[e1,Zh (x:=u[m+2]) (by omega),u64w,u64w]; omega
 have eV:nv (u1.set (m+2) (D % 4294967296))=nv (u1.take (m+2))+4294967296 ^ (m+2)*(D % 4294967296):=by
  have:=ZS hn1 (D % 4294967296)
  rwa [List.take_of_length_le (by rw[List.length_set]; omega)] at this
 have hcb:=congrArg (fun z=>(4294967296:Int) ^ (m+2)*z) hD
 have hcb:(4294967296:Int) ^ (m+2)*u[m+2]-4294967296 ^ (m+2)*(c+b)=4294967296 ^ (m+2)*D:=by
  rw[<- Int.mul_sub]; congr 1; omega
 have start:∀ r,(ZbE u v q).Ret r->(Z4 u v).Ret r:=by
  intro r hr
  have eT:u64.wrap (BitVec.ofInt u64.bits (u64.wrap ((u64.wrap u[m+2])*2 ^ (min (32:Int).toNat u64.bits))) ||| BitVec.ofInt u64.bits (u64.wrap (u[m+1]))).toNat=T:=by
   rw[Zh (x:=u[m+2]) (by omega),Zh (x:=u[m+1]) (by omega),or32 x1 x2,hT]
  have e3:u64.wrap (v[m+1])=v[m+1]:=Zh (by omega)
  have hT0:0<=T:=by omega
  have hq:0<=T / v[m+1]/\T / v[m+1]<=T:=⟨Int.ediv_nonneg hT0 (by omega),Int.ediv_le_self _ hT0⟩
  refine⟨u[m+2],by rw[i0]; exact idxN hnu,u[m+1],by rw[i1]; exact idxN (by omega),v[m+1],by rw[i1]; exact idxN (by omega),by show u64.wrap (v[m+1])≠0; rw[e3]; omega,v[m+1],by rw[i1]; exact idxN (by omega),by show u64.wrap (v[m+1])≠0; rw[e3]; omega,?_⟩
  rw[eT,e3,tdivP hT0,tmodP hT0,Zh (by omega)]
  exact Cq.nextR g1 hr
 have n1:0<=nv (u1.take (m+2)):=Zz (t3.take (m+2))
 have l1:=ZaR (t3.take (m+2))
 rw[List.length_take,Nat.min_eq_left (by omega)] at l1
 by_cases hneg:D<0
 .-- the guess was one too much
  obtain⟨⟨u2,k⟩,b1,b2,b3,b4,b5,b6⟩:=Znk (u:=u1.set (m+2) (D % 4294967296)) hv hs (by rw[List.length_set]; exact t2) wv (t3.set (by omega) (m+2))
  dsimp only at b2 b3 b4 b5 b6
  have hn2:m+2<u2.length:=by omega
  rw[List.getElem?_set_self hn1,List.getElem?_eq_getElem hn2] at b6
  have e2:u2[m+2]=D % 4294967296:=Option.some.inj b6
  rw[List.take_set_of_le (Nat.le_refl _)] at b5
  have l2:=ZaR (b3.take (m+2))
  rw[List.length_take,Nat.min_eq_left (by omega)] at l2
  have n2:0<=nv (u2.take (m+2)):=Zz (b3.take (m+2))
  have hlo:=g2.lo
  have hk:D % 4294967296+k=4294967296:=by
   have hge:4294967296<=D % 4294967296+k:=by
    rcases Int.lt_or_le (D % 4294967296+k) 4294967296 with h|h
    .exfalso
     have a1:=Int.mul_le_mul_of_nonneg_left (show D % 4294967296+k<=4294967295 by omega) (Int.le_of_lt (Z5 (m+2)))
     have a2:(4294967296:Int) ^ (m+2)*(D % 4294967296)=4294967296 ^ (m+2)*D+4294967296 ^ (m+2)*4294967296:=by rw[<- Int.mul_add]; congr 1; omega
     rw[Int.mul_add] at a1
     have a3:(4294967296:Int) ^ (m+2)*4294967295+4294967296 ^ (m+2)=4294967296 ^ (m+2)*4294967296:=by omega
     omega
    exact h
   omega
  have fin:nv (u2.set (m+2) 0)=nv u-(q-1)*nv v:=by
   have:=ZS hn2 0
   rw[List.take_of_length_le (by rw[List.length_set]; omega)] at this
   rw[this]
   have a2:(4294967296:Int) ^ (m+2)*(D+k)=0:=by rw[show D+k=0 by omega,Int.mul_zero]
   rw[Int.mul_add] at a2
   rw[Int.sub_mul]
   omega
  refine⟨q-1,u2.set (m+2) 0,start _ ?_,?_,by rw[List.length_set]; exact b2,b3.set (by decide) (m+2),by rw[fin]; omega,?_⟩
  .refine Cq.nextR t1 ?_
   show (ZaA v q u1 c b).Ret _
   refine⟨u1[m+2],by rw[i0]; exact idxN hn1,u1[m+2],by rw[i0]; exact idxN hn1,?_⟩
   rw[eD,sh63]
   refine Cq.wp.no (by omega) ?_
   rw[i0,Int.toNat_natCast,u32w,show D % 18446744073709551616 % 4294967296=D % 4294967296 by omega]
   refine Cq.nextR b1 ?_
   show (ZbD v q u2 k).Ret _
   refine⟨u2[m+2],by rw[i0]; exact idxN hn2,u2[m+2],by rw[i0]; exact idxN hn2,?_⟩
   show _=_
   have hq1:1<=q:=by
    rcases Int.lt_or_le q 1 with h|h
    .exfalso
     have:=g2.w
     have:q*nv v=0:=by rw[show q=0 by omega,Int.zero_mul]
     have:(4294967296:Int) ^ (m+2)*D<=4294967296 ^ (m+2)*(-1):=Int.mul_le_mul_of_nonneg_left (by omega) (Int.le_of_lt (Z5 (m+2)))
     have:=Zz wu
     omega
    exact h
   have hw:=g2.w
   rw[i0,Int.toNat_natCast,e2,Zh (x:=q-1) (by omega),Zav (x:=q-1) (by omega),Zav (x:=k) (by omega),u32w,hk]
   rfl
  .have hq1:1<=q:=by
    rcases Int.lt_or_le q 1 with h|h
    .exfalso
     have:=g2.w
     have:q*nv v=0:=by rw[show q=0 by omega,Int.zero_mul]
     have:(4294967296:Int) ^ (m+2)*D<=4294967296 ^ (m+2)*(-1):=Int.mul_le_mul_of_nonneg_left (by omega) (Int.le_of_lt (Z5 (m+2)))
     have:=Zz wu
     omega
    exact h
   have:=g2.w
   omega
  rw[fin,Int.sub_mul]
  have:(4294967296:Int) ^ (m+2)*D<=4294967296 ^ (m+2)*(-1):=Int.mul_le_mul_of_nonneg_left (by omega) (Int.le_of_lt (Z5 (m+2)))
  omega
 have eM:D % 4294967296=D:=by omega
 rw[eM] at eV
 refine⟨q,u1.set (m+2) D,start _ ?_,g2.w,by rw[List.length_set]; exact t2,t3.set (by omega) (m+2),by rw[eV]; omega,?_⟩
 .refine Cq.nextR t1 ?_
  show (ZaA v q u1 c b).Ret _
  refine⟨u1[m+2],by rw[i0]; exact idxN hn1,u1[m+2],by rw[i0]; exact idxN hn1,?_⟩
  rw[eD,sh63]
  refine Cq.wp.yes (by omega) ?_
  show _=_
  have hw:=g2.w
  rw[i0,Int.toNat_natCast,Zav hw,u32w,show D % 18446744073709551616 % 4294967296=D by omega]
 have:=g2.up
 rw[Int.add_mul] at this
 rw[eV]
 omega
end Go.EL

namespace Go.EL
open Go.IntKind (i8 i16 i32 i64 u8 u16 u32 u64)
open Go Go.EL Go.RowKit
theorem Zpm{x:Int}(h:0<=x/\x<256):u8.wrap x=x:=by
 simp only[IntKind.wrap,IntKind.bits,IntKind.signed,Bool.false_and,Bool.false_eq_true,if_false]
 omega
theorem ZpP:((List.range 256).all fun b=>decide (0<=byteAt ZF (b:Int)/\byteAt ZF (b:Int)<=8/\(b=0\/(2 ^ (byteAt ZF (b:Int)).toNat<=2*b/\b<2 ^ (byteAt ZF (b:Int)).toNat))))=true:=by decide +kernel
theorem ZpN{y:Int}(h:1<=y/\y<256):∃ r:Nat,byteAt ZF y=(r:Int)/\r<=8/\(2:Int) ^ r<=2*y/\y<2 ^ r:=by
 obtain⟨b,rfl⟩:=Int.eq_ofNat_of_zero_le (show 0<=y by omega)
 have:=of_decide_eq_true (List.all_eq_true.1 ZpP b (List.mem_range.2 (by omega)))
 obtain⟨h1,h2,h3⟩:=this
 rcases h3 with h3|⟨h3,h4⟩
 .omega
 refine⟨(byteAt ZF (b:Int)).toNat,by omega,by omega,?_,?_⟩
 .have:((2 ^ (byteAt ZF (b:Int)).toNat:Nat):Int)<=((2*b:Nat):Int):=by omega
  rwa [Int.natCast_pow,Int.natCast_mul] at this
 have:((b:Nat):Int)<((2 ^ (byteAt ZF (b:Int)).toNat:Nat):Int):=by omega
 rwa [Int.natCast_pow] at this
theorem Zp3:(ZF.size:Int)=256:=by decide +kernel
theorem ZoQ{y:Int}(h:1<=y/\y<256){k:Nat}(hk:k<=24):∃ r:Nat,(Zad y (k:Int)).Ret ((k+r:Nat):Int)/\r<=8/\(2:Int) ^ r<=2*y/\y<2 ^ r:=by
 obtain⟨r,r1,r2,r3,r4⟩:=ZpN h
 refine⟨r,⟨?_,?_⟩,r2,r3,r4⟩
 .rw[Zpm (by omega)]
  exact⟨by omega,by rw[Zp3]; exact h.2⟩
 show _=_
 rw[Zpm (by omega),r1,wrap64 (x:=(r:Int)) (by omega),wrap64 (by omega)]; omega
theorem ZnN{x:Int}(h:1<=x/\x<4294967296):∃ r:Nat,(Zb0 x).Ret (r:Int)/\1<=r/\r<=32/\x<2 ^ r/\(2:Int) ^ r<=2*x:=by
 have s16:∀ t:Int,Int.fdiv t (2 ^ (min (16:Int).toNat u32.bits))=t / 65536:=fun t=>by
  show Int.fdiv t 65536=_
  rw[Int.fdiv_eq_ediv_of_nonneg _ (by decide)]
 have s8:∀ t:Int,Int.fdiv t (2 ^ (min (8:Int).toNat u32.bits))=t / 256:=fun t=>by
  show Int.fdiv t 256=_
  rw[Int.fdiv_eq_ediv_of_nonneg _ (by decide)]
 have two:∀ y k:Int,∀ n:Nat,(1<=y/\y<65536)->n<=16->x / 2 ^ n=y->∃ r:Nat,(Zax y (n:Int)).Ret (r:Int)/\1<=r/\r<=32/\x<2 ^ r/\(2:Int) ^ r<=2*x:=by
  intro y k n hy hn hx
  have fin:∀ y:Int,∀ n:Nat,(1<=y/\y<256)->n<=24->x / 2 ^ n=y->∃ r:Nat,(Zad y (n:Int)).Ret (r:Int)/\1<=r/\r<=32/\x<2 ^ r/\(2:Int) ^ r<=2*x:=by
   intro y n hy hn hx
   obtain⟨r,r1,r2,r3,r4⟩:=ZoQ hy hn
   have hp:=two_pos n
   have e1:=Int.mul_ediv_add_emod x (2 ^ n)
   have e2:=Int.emod_lt_of_pos x hp
   have e3:=Int.emod_nonneg x (show (2:Int) ^ n≠0 by omega)
   rw[hx] at e1
   have a1:=Int.mul_le_mul_of_nonneg_left r3 (Int.le_of_lt hp)
   have a2:=Int.mul_le_mul_of_nonneg_left (show y+1<=2 ^ r by omega) (Int.le_of_lt hp)
   rw[Int.mul_add] at a2
   have hr:1<=r:=by
    rcases Nat.eq_zero_or_pos r with e|e
    .rw[e] at r4; omega
    exact e
   refine⟨n+r,r1,by omega,by omega,by rw[Int.pow_add]; omega,?_⟩
   rw[Int.pow_add]
   rw[Int.mul_left_comm] at a1
   omega
  by_cases c:256<=y
  .obtain⟨r,r1,r2⟩:=fin (y / 256) (n+8) (by omega) (by omega) (by
    rw[Int.pow_add,<- hx,<- Int.ediv_ediv_of_nonneg (Int.le_of_lt (two_pos n))]; rfl)
   refine⟨r,Cq.wp.yes c ?_,r2⟩
   rw[s8,wrap64 (by omega)]
   exact r1
  obtain⟨r,r1,r2⟩:=fin y n (by omega) (by omega) hx
  exact⟨r,Cq.wp.no c r1,r2⟩
 by_cases c:65536<=x
 .obtain⟨r,r1,r2⟩:=two (x / 65536) 0 16 (by omega) (by omega) rfl
  refine⟨r,Cq.wp.yes c ?_,r2⟩
  rw[s16]; exact r1
 obtain⟨r,r1,r2⟩:=two x 0 0 (by omega) (by omega) (by rw[Int.pow_zero]; omega)
 exact⟨r,Cq.wp.no c r1,r2⟩
theorem ZoP{x:Int}(h:1<=x/\x<4294967296):∃ m:Nat,(Zar x).Ret (m:Int)/\m<=31/\(x+1)*2 ^ m<=4294967296:=by
 obtain⟨r,r1,r2,r3,r4,r5⟩:=ZnN h
 refine⟨32-r,⟨_,r1,?_⟩,by omega,?_⟩
 .show _=_
  rw[wrap64 (by omega)]; omega
 have:=Int.mul_le_mul_of_nonneg_right (show x+1<=2 ^ r by omega) (Int.le_of_lt (two_pos (32-r)))
 rw[<- Int.pow_add,show r+(32-r)=32 by omega] at this
 exact this
theorem ZfZ{u:List Int}(wu:Wd u){t n:Nat}(h:nv (u.drop t)<4294967296 ^ n)(hl:t+n<=u.length):nv (u.drop (t+n))=0:=by
 have e:=Za4 (u.drop t) n (by rw[List.length_drop]; omega)
 rw[List.drop_drop] at e
 have h1:=Zz ((wu.drop t).take n)
 have h2:=Zz (wu.drop (t+n))
 rcases Int.lt_or_le 0 (nv (u.drop (t+n))) with c|c
 .have:=Int.mul_le_mul_of_nonneg_left (show 1<=nv (u.drop (t+n)) by omega) (Int.le_of_lt (Z5 n))
  omega
 omega
theorem Zoy{yv v vv:List Int}{m L:Nat}{X V:Int}(hcut:(vv.take ((yv.length:Int)).toNat).drop (0:Int).toNat=v)(hy:yv.length=m+2)(hv:v.length=m+2)(hs:m+2+L<=800000)(wv:Wd v)(hV:nv v=V)(htop:0<v[m+1]){u0 q0:List Int}(hu:u0.length=m+2+L+1)(hq:q0.length=L+1)(wu:Wd u0)(wq:Wd q0)(hX:nv u0=X)(hlt:nv (u0.drop (L+1))<V):
  ∃ o:List Int×List Int,(Zc3 yv vv (u0,q0,(L:Int))).Ret o/\o.2.length=L+1/\Wd o.2/\o.1.length=m+2+L+1/\Wd o.1/\nv o.1+nv o.2*V=X/\nv o.1<V:=by
 have hVlt:V<4294967296 ^ (m+2):=by rw[<- hV,<- hv]; exact ZaR wv
 have key:=Cq.ZQ (step:=fun gs:List Int×List Int×Int=>match gs with|(u,q,j)=>if 0<=j then (Cq.chk (0<=j/\j<i64.wrap (i64.wrap (j+(yv.length:Int))+1)/\i64.wrap (i64.wrap (j+(yv.length:Int))+1)<=(u.length:Int)) (Cq.bind (Z4 ((u.take (i64.wrap (i64.wrap (j+(yv.length:Int))+1)).toNat).drop j.toNat) v) fun y=>Cq.at' q j fun _=>Cq.ret (.inl (u.take j.toNat++y.2++u.drop (i64.wrap (i64.wrap (j+(yv.length:Int))+1)).toNat,q.set j.toNat y.1,i64.wrap (j-1))))) else (Cq.ret (.inr (u,q))))
  (Φ:=fun o:List Int×List Int=>o.2.length=L+1/\Wd o.2/\o.1.length=m+2+L+1/\Wd o.1/\nv o.1+nv o.2*V=X/\nv o.1<V) (L+1)
  (fun k s=>∃ q u,s=(u,q,(L:Int)-(k:Int))/\q.length=L+1/\Wd q/\u.length=m+2+L+1/\Wd u/\nv u+4294967296 ^ (L+1-k)*(nv (q.drop (L+1-k))*V)=nv u0+4294967296 ^ (L+1-k)*(nv (q0.drop (L+1))*V)/\nv (u.drop (L+1-k))<V)
  (fun k s hk hs'=>by
   obtain⟨q,u,rfl,h1,h2,h3,h4,h5,h6⟩:=hs'
   obtain⟨j,hj⟩:∃ j,L-k=j:=⟨_,rfl⟩
   have ej:(L:Int)-(k:Int)=(j:Int):=by omega
   have et:L+1-k=j+1:=by omega
   have et2:L+1-(k+1)=j:=by omega
   have q0z:q0.drop (L+1)=[]:=List.drop_of_length_le (by omega)
   rw[et] at h5 h6
   rw[q0z,ZN,Int.zero_mul,Int.mul_zero,Int.add_zero] at h5
   have ew:i64.wrap (i64.wrap ((j:Int)+(yv.length:Int))+1)=((j+(m+2)+1:Nat):Int):=by
    rw[hy,wrap64 (x:=(j:Int)+((m+2:Nat):Int)) (by omega),wrap64 (by omega)]; omega
   have hju:j<u.length:=by omega
   have xj:=h4.get hju
   have hz:nv (u.drop (j+1+(m+2)))=0:=ZfZ h4 (Int.lt_trans h6 hVlt) (by omega)
   have ep:(u.take (j+(m+2)+1)).drop j=(u.drop j).take (m+3):=by rw[List.drop_take]; congr 1; omega
   have lp:((u.drop j).take (m+3)).length=m+3:=by rw[List.length_take,List.length_drop]; omega
   have vp:nv (u.drop j)=nv ((u.drop j).take (m+3)):=by
    have:=Za4 (u.drop j) (m+3) (by rw[List.length_drop]; omega)
    rw[List.drop_drop,show j+(m+3)=j+1+(m+2) by omega,hz,Int.mul_zero,Int.add_zero] at this
    exact this
   have vd:nv (u.drop j)=u[j]+4294967296*nv (u.drop (j+1)):=by rw[List.drop_eq_getElem_cons hju,ZL]
   obtain⟨d,p,w1,w2,w3,w4,w5,w6⟩:=Zn2 (u:=(u.drop j).take (m+3)) hv (by omega) lp wv ((h4.drop j).take _) htop (by rw[<- vp,vd,hV]; omega)
   rw[hV,<- vp] at w5
   rw[hV] at w6
   have hjq:j<q.length:=by omega
   have su:=Za4 u j (by omega)
   have la:(u.take j).length=j:=by rw[List.length_take]; omega
   have hw':Wd (u.take j++p++u.drop (j+(m+2)+1)):=((h4.take j).append w4).append (h4.drop _)
   have e1:u.take j++p++u.drop (j+(m+2)+1)=u.take j++(p++u.drop (j+(m+2)+1)):=List.append_assoc ..
   have nu':nv (p++u.drop (j+(m+2)+1))=nv p:=by rw[ZdU,show j+(m+2)+1=j+1+(m+2) by omega,hz,Int.mul_zero,Int.add_zero]
   refine⟨(u.take j++p++u.drop (j+(m+2)+1),q.set j d,(L:Int)-((k+1:Nat):Int)),?_,_,_,rfl,by rw[List.length_set]; exact h1,h2.set w2 j,?_,hw',?_,?_⟩
   .rw[ej]
    refine Cq.wp.yes (by omega) ?_
    rw[ew]
    refine⟨⟨by omega,by omega,by omega⟩,(d,p),?_,_,idxN hjq,?_⟩
    .rw[Int.toNat_natCast,Int.toNat_natCast,ep]; exact w1
    show Sum.inl _=Sum.inl _
    rw[Int.toNat_natCast,Int.toNat_natCast,wrap64 (by omega),show (j:Int)-1=(L:Int)-((k+1:Nat):Int) by omega]
   .rw[List.length_append,List.length_append,la,w3,List.length_drop]; omega
   .rw[et2,q0z,ZN,Int.zero_mul,Int.mul_zero,Int.add_zero,e1,ZdU,la,nu',List.drop_eq_getElem_cons (show j<(q.set j d).length by rw[List.length_set]; exact hjq),List.getElem_set_self,List.drop_set_of_lt (by omega),ZL]
    rw[ZT] at h5
    grind
   rw[et2,e1,List.drop_append_of_le_length (by omega),List.drop_eq_nil_of_le (show (u.take j).length<=j by omega),List.nil_append,nu']
   exact w6)
  (fun s hs'=>by
   obtain⟨q,u,rfl,h1,h2,h3,h4,h5,h6⟩:=hs'
   rw[Nat.sub_self,List.drop_zero,Int.pow_zero,Int.one_mul,List.drop_of_length_le (show q0.length<=L+1 by omega),ZN,Int.zero_mul,Int.mul_zero,Int.add_zero,hX] at h5
   rw[Nat.sub_self,List.drop_zero] at h6
   exact⟨(u,q),Cq.wp.no (by omega) rfl,h1,h2,h3,h4,h5,h6⟩)
  (s:=(u0,q0,(L:Int))) ⟨q0,u0,by simp,hq,wq,hu,wu,by simp,hlt⟩
 subst hcut
 exact key
theorem ZiK{a b:List Int}{x y:Int}(ha:Mg a x)(hb:Mg b y)(hy:0<y)(la:a.length<=800000)(lb:b.length<=800000):∃ q r,(ZaD a b).Ret (q,r)/\Mg q (x / y)/\Mg r (x % y):=by
 have ta:=Zdz ha (by omega)
 have tb:=Zdz hb (by omega)
 have lb0:=hb.pos (by omega)
 by_cases c1:x<y
 .refine⟨[],a,⟨_,ta,_,tb,_,ZdE ha hb (by omega),Cq.wp.yes (by unfold cmpV; rw[if_pos c1]; decide) ⟨_,ZgN (by omega),rfl⟩⟩,?_,?_⟩
  .rw[Int.ediv_eq_zero_of_lt ha.nn c1]; exact Mg.nil
  rw[Int.emod_eq_of_lt ha.nn c1]; exact ha
 have hc:¬ cmpV x y<0:=by unfold cmpV; rw[if_neg c1]; split <;> decide
 have hl:b.length<=a.length:=hb.len (Int.lt_of_le_of_lt (by omega) ha.lt)
 by_cases c2:b.length=1
 .obtain⟨w,rfl⟩:∃ w,b=[w]:=List.length_eq_one_iff.1 c2
  have hw:=hb.wd.head
  have ew:w=y:=by rw[<- hb.val,ZdV]
  subst ew
  obtain⟨q,q1,q2⟩:=ZkR ha (by omega) (d:=w) (by omega)
  have hm:=Int.emod_lt_of_pos x hy
  have hm0:=Int.emod_nonneg x (show w≠0 by omega)
  obtain⟨r,r1,r2⟩:=Ze8 (m:=x % w) (by omega)
  refine⟨q,r,⟨_,ta,_,tb,_,ZdE ha hb (by omega),Cq.wp.no hc (Cq.wp.yes (by simp) ⟨w,⟨by decide,rfl⟩,?_⟩)⟩,q2,r2⟩
  show (Cq.bind (Zao a (u64.wrap w)) _).wp _
  rw[Zh (x:=w) (by omega)]
  exact⟨_,q1,_,r1,rfl⟩
 obtain⟨m,hm⟩:∃ m,b.length=m+2:=⟨b.length-2,by omega⟩
 obtain⟨L,hL⟩:∃ L,a.length=m+2+L:=⟨a.length-(m+2),by omega⟩
 have xt:=hb.wd.get (show m+1<b.length by omega)
 have xn:b[m+1]≠0:=by
  have:=hb.cn lb0
  simp only[hm] at this
  exact this
 obtain⟨s,s1,s2,s3⟩:=ZoP (x:=b[m+1]) (by omega)
 obtain⟨u,u1,u2,u3,u4⟩:=Zmj (a:=a) (m:=s) (by omega) ha.wd s2
 obtain⟨v,v1,v2,v3,v4⟩:=Zmj (a:=b) (m:=s) (by omega) hb.wd s2
 rw[ha.val] at u4
 rw[hb.val] at v4
 have hp:=two_pos s
 have hbt:y<(b[m+1]+1)*4294967296 ^ (m+1):=by
  have h1:=Zl (a:=b) (i:=m+1) (by omega)
  rw[List.take_of_length_le (by omega),hb.val] at h1
  have h2:=ZaR (hb.wd.take (m+1))
  rw[List.length_take,Nat.min_eq_left (by omega)] at h2
  rw[Int.add_mul,Int.mul_comm b[m+1]]; omega
 have hyv:y*2 ^ s<4294967296 ^ (m+2):=by
  have h1:y*2 ^ s<(b[m+1]+1)*4294967296 ^ (m+1)*2 ^ s:=Int.mul_lt_mul_of_pos_right hbt hp
  have h2:(b[m+1]+1)*2 ^ s*4294967296 ^ (m+1)<=4294967296*4294967296 ^ (m+1):=Int.mul_le_mul_of_nonneg_right s3 (Int.le_of_lt (Z5 _))
  rw[Int.mul_right_comm] at h2
  rw[ZT]
  omega
 have hz:nv (v.drop (m+2))=0:=by
  have:=ZfZ v3 (t:=0) (n:=m+2) (by rw[List.drop_zero,v4]; exact hyv) (by omega)
  rwa [Nat.zero_add] at this
 have hvv:nv (v.take (m+2))=y*2 ^ s:=by
  have:=Za4 v (m+2) (by omega)
  rw[hz,Int.mul_zero,Int.add_zero] at this
  rw[<- this,v4]
 have lv:(v.take (m+2)).length=m+2:=by rw[List.length_take]; omega
 have hge:4294967296 ^ (m+1)<=y:=by have:=hb.ge lb0; rwa [hm] at this
 have hge2:4294967296 ^ (m+1)<=y*2 ^ s:=by
  have:=Int.mul_le_mul_of_nonneg_left (show (1:Int)<=2 ^ s by omega) (show 0<=y by omega)
  omega
 have htop:0<(v.take (m+2))[m+1]:=by
  have h1:=Zl (a:=v.take (m+2)) (i:=m+1) (by omega)
  rw[List.take_of_length_le (show (v.take (m+2)).length<=m+1+1 by omega),hvv] at h1
  have h2:=ZaR ((v3.take (m+2)).take (m+1))
  rw[List.length_take,Nat.min_eq_left (by omega)] at h2
  have h3:=(v3.take (m+2)).get (show m+1<(v.take (m+2)).length by omega)
  rcases Int.lt_or_le 0 (v.take (m+2))[m+1] with c|c
  .exact c
  rw[show (v.take (m+2))[m+1]=0 by omega,Int.mul_zero] at h1
  omega
 have hfirst:nv (u.drop (L+1))<y*2 ^ s:=by
  have h1:=Za4 u (L+1) (by omega)
  have h2:=Zz (u3.take (L+1))
  have hax:=ha.lt
  have h4:x*2 ^ s<4294967296 ^ (L+1)*(y*2 ^ s):=by
   have a1:x*2 ^ s<4294967296 ^ a.length*2 ^ s:=Int.mul_lt_mul_of_pos_right hax hp
   have a2:4294967296 ^ (L+1)*4294967296 ^ (m+1)<=4294967296 ^ (L+1)*y:=Int.mul_le_mul_of_nonneg_left hge (Int.le_of_lt (Z5 _))
   rw[<- Int.pow_add,show L+1+(m+1)=a.length by omega] at a2
   have a3:=Int.mul_le_mul_of_nonneg_right a2 (Int.le_of_lt hp)
   rw[Int.mul_assoc] at a3
   omega
  rw[u4] at h1
  rcases Int.lt_or_le (nv (u.drop (L+1))) (y*2 ^ s) with c|c
  .exact c
  have:=Int.mul_le_mul_of_nonneg_left c (Int.le_of_lt (Z5 (L+1)))
  omega
 obtain⟨⟨w,q⟩,d1,d2,d3,d4,d5,d6,d7⟩:=Zoy (yv:=b) (vv:=v) (L:=L) (by rw[Int.toNat_natCast,hm]; rfl) hm lv (by omega) (v3.take _) hvv htop (u0:=u) (q0:=List.replicate (L+1) 0) (by omega) List.length_replicate u3 (Wd.zeros _) u4 hfirst
 dsimp only at d2 d3 d4 d5 d6 d7
 have hV:0<y*2 ^ s:=Int.mul_pos hy hp
 have hdm:=(Int.ediv_emod_unique hV (a:=x*2 ^ s) (r:=nv w) (q:=nv q)).2 ⟨by rw[Int.mul_comm (y*2 ^ s)]; omega,Zz d5,d7⟩
 rw[Int.mul_ediv_mul_of_pos_left _ _ hp] at hdm
 obtain⟨q',q1,q2,_⟩:=Zab (a:=q) (by omega) d3
 rw[<- hdm.1] at q2
 have hwz:nv (w.drop (m+2))=0:=by
  have:=ZfZ d5 (t:=0) (n:=m+2) (by rw[List.drop_zero]; omega) (by omega)
  rwa [Nat.zero_add] at this
 have hwv:nv (w.take (m+2))=nv w:=by
  have:=Za4 w (m+2) (by omega)
  rw[hwz,Int.mul_zero,Int.add_zero] at this
  exact this.symm
 obtain⟨r,r1,r2⟩:=Zp2 (a:=w.take (m+2)) (m:=s) (by rw[List.length_take]; omega) (d5.take _) s2
 have er:nv w / 2 ^ s=x % y:=by
  rw[<- hdm.2,Int.mul_comm x,Int.mul_comm y,Int.mul_emod_mul_of_pos _ _ hp,Int.mul_comm,Int.mul_ediv_cancel _ (by omega)]
 rw[hwv,er] at r2
 refine⟨q',r,⟨_,ta,_,tb,_,ZdE ha hb (by omega),Cq.wp.no hc (Cq.wp.no (by omega) ?_)⟩,q2,r2⟩
 have i1:i64.wrap ((b.length:Int)-1)=((m+1:Nat):Int):=by rw[wrap64 (by omega)]; omega
 have i2:i64.wrap ((a.length:Int)-(b.length:Int))=(L:Int):=by rw[wrap64 (by omega)]; omega
 have i3:i64.wrap ((L:Int)+1)=((L+1:Nat):Int):=wrapN (by omega)
 refine⟨b[m+1],by rw[i1]; exact idxN (by omega),_,s1,_,u1,_,v1,⟨by decide,by omega,by omega⟩,?_⟩
 rw[i2,i3]
 refine⟨by omega,?_⟩
 rw[Int.toNat_natCast]
 refine Cq.nextR d1 ?_
 show (Zc4 b (s:Int) w q).Ret _
 have e2:(w.take ((b.length:Int)).toNat).drop (0:Int).toNat=w.take (m+2):=by rw[Int.toNat_natCast,hm]; rfl
 refine⟨_,q1,⟨by decide,by omega,by omega⟩,_,?_,rfl⟩
 rw[e2]; exact r1
end Go.EL

namespace Go.EL
open Go.IntKind (i8 i16 i32 i64 u8 u16 u32 u64)
open Go Go.EL Go.RowKit
theorem ZcX{m:Int}(h:0<=m/\m<18446744073709551616):∃ r,(Zaq m).Ret r/\Mg r m:=by
 have hw:Wd [m % 4294967296,m / 4294967296 % 4294967296]:=Wd.cons (by omega) (Wd.cons (by omega) Wd.nil)
 obtain⟨r,h1,h2,_⟩:=Zab (a:=[m % 4294967296,m / 4294967296 % 4294967296]) (by show 2<=1000000; decide) hw
 refine⟨r,⟨r,?_,rfl⟩,?_⟩
 .rw[tmodP h.1,tdivP h.1,Zh (by omega),u32w,u32w,show m % 4294967296 % 4294967296=m % 4294967296 by omega]; exact h1
 rw[ZL,ZdV] at h2
 rwa [show m % 4294967296+4294967296*(m / 4294967296 % 4294967296)=m by omega] at h2
theorem Zgk{a b:List Int}(wa:Wd a)(wb:Wd b)(hl:a.length=b.length)(hs:a.length<=1000000):∀ k:Nat,k<=a.length->∃ o,(ZbV a b ((k:Int)-1)).Ret o/\(match o with | .inl r=>r | .inr ()=>0)=cmpV (nv (a.take k)) (nv (b.take k))
 | 0,_=>⟨.inr (),Cq.Zm (Cq.wp.no (by decide) rfl),by simp[cmpV]⟩
 | k+1,hk=>by
  have e:((k+1:Nat):Int)-1=(k:Int):=by omega
  rw[e]
  by_cases h1:a[k]'(by omega)<b[k]'(by omega)
  .refine⟨.inl (-1),Cq.Zm (Cq.wp.yes (by omega) ⟨_,idxN (by omega),_,idxN (by omega),Cq.wp.yes h1 rfl⟩),?_⟩
   unfold cmpV
   rw[if_pos (Zhx wa wb (show k<a.length by omega) (show k<b.length by omega) h1)]
  by_cases h2:b[k]'(by omega)<a[k]'(by omega)
  .refine⟨.inl 1,Cq.Zm (Cq.wp.yes (by omega) ⟨_,idxN (by omega),_,idxN (by omega),Cq.wp.no h1 ⟨_,idxN (by omega),_,idxN (by omega),Cq.wp.yes h2 rfl⟩⟩),?_⟩
   have:=Zhx wb wa (k:=k) (show k<b.length by omega) (show k<a.length by omega) h2
   unfold cmpV
   rw[if_neg (by omega),if_neg (by omega)]
  obtain⟨o,h3,h4⟩:=Zgk wa wb hl hs k (by omega)
  refine⟨o,Cq.Zm (Cq.wp.yes (by omega) ⟨_,idxN (by omega),_,idxN (by omega),Cq.wp.no h1 ⟨_,idxN (by omega),_,idxN (by omega),Cq.wp.no h2 ?_⟩⟩),?_⟩
  .show (ZbV a b (i64.wrap ((k:Int)-1))).wp _
   rw[wrap64 (by omega)]
   exact h3
  rw[h4,Zl (show k<a.length by omega),Zl (show k<b.length by omega),show a[k]'(by omega)=b[k]'(by omega) by omega]
  exact (ZkO _ _ _).symm
theorem ZcW{a b:List Int}{x y:Int}(ha:Mg a x)(hb:Mg b y)(la:a.length<=1000000):(ZbK a b).Ret (cmpV x y):=by
 by_cases h1:(a.length:Int)<(b.length:Int)
 .refine Cq.wp.yes h1 ?_
  show _=_
  unfold cmpV
  rw[if_pos (ha.ZiU hb (by omega))]
 refine Cq.wp.no h1 ?_
 by_cases h2:(b.length:Int)<(a.length:Int)
 .refine Cq.wp.yes h2 ?_
  have:=hb.ZiU ha (by omega)
  show _=_
  unfold cmpV
  rw[if_neg (by omega),if_neg (by omega)]
 obtain⟨o,h3,h4⟩:=Zgk ha.wd hb.wd (by omega) la a.length (Nat.le_refl _)
 refine Cq.wp.no h2 ?_
 rw[wrap64 (by omega)]
 refine Cq.nextR h3 ?_
 rw[List.take_length,List.take_of_length_le (by omega),ha.val,hb.val] at h4
 cases o with
 | inl r=>exact h4
 | inr u=>exact h4
def wordF(l:List Int)(k:Nat):Int:=if h:k<l.length then l[k] else 0
theorem ZdA{l:List Int}(h:Wd l)(k:Nat):0<=wordF l k/\wordF l k<4294967296:=by
 unfold wordF
 rcases Nat.lt_or_ge k l.length with c|c
 .rw[dif_pos c]; exact h.get c
 rw[dif_neg (Nat.not_lt.2 c)]; decide
theorem ZcL{l:List Int}(h:Wd l)(k:Nat):(ZP l (k:Int)).Ret (wordF l k):=by
 unfold wordF
 rcases Nat.lt_or_ge k l.length with c|c
 .rw[dif_pos c]
  have:=h.get c
  exact Cq.wp.yes (by omega) ⟨_,idxN c,Zh (by omega)⟩
 rw[dif_neg (Nat.not_lt.2 c)]
 exact Cq.wp.no (by omega) rfl
theorem Zdu(l:List Int)(k:Nat):nv (l.take (k+1))=nv (l.take k)+4294967296 ^ k*wordF l k:=by
 unfold wordF
 rcases Nat.lt_or_ge k l.length with c|c
 .rw[dif_pos c,Zl c]
 rw[dif_neg (Nat.not_lt.2 c),List.take_of_length_le (show l.length<=k+1 by omega),List.take_of_length_le c,Int.mul_zero,Int.add_zero]
theorem Zmz{a b:List Int}{x y:Int}(ha:Mg a x)(hb:Mg b y)(la:a.length<=900000)(lb:b.length<=900000):∃ r,(Zc0 a b).Ret r/\Mg r (x+y):=by
 have wa:=ha.wd
 have wb:=hb.wd
 obtain⟨n,hn⟩:∃ n:Nat,(if (a.length:Int)<(b.length:Int) then (b.length:Int) else (a.length:Int))=(n:Int):=by
  by_cases h:(a.length:Int)<(b.length:Int)
  .exact⟨_,if_pos h⟩
  exact⟨_,if_neg h⟩
 have hna:a.length<=n/\b.length<=n/\n<=900000:=by split at hn <;> omega
 have wl:i64.wrap ((n:Int)+1)=((n+1:Nat):Int):=wrapN (by omega)
 have key:=Cq.ZQ (step:=fun gs:List Int×Int×Int=>match gs with|(out2,carry1,i1)=>if i1<(i64.wrap ((if (a.length:Int)<(b.length:Int) then (b.length:Int) else (a.length:Int))+1)) then (Cq.bind (ZP a i1) fun yv2=>Cq.bind (ZP b i1) fun yv3=>Cq.at' out2 i1 fun x1=>Cq.ret (.inl ((out2.set i1.toNat (u32.wrap (Int.tmod (u64.wrap ((u64.wrap (yv2+yv3))+carry1)) 4294967296))),u64.wrap (Int.tdiv (u64.wrap ((u64.wrap (yv2+yv3))+carry1)) 4294967296),i64.wrap (i1+1)))) else (Cq.ret (.inr out2)))
  (Φ:=fun o:List Int=>o.length=n+1/\Wd o/\nv o=x+y) (n+1)
  (fun k s=>∃ rv c,s=(rv,c,(k:Int))/\rv.length=n+1/\Wd rv/\(0<=c/\c<=1)/\nv (rv.take k)+4294967296 ^ k*c=nv (a.take k)+nv (b.take k))
  (fun k s hk hs=>by
   obtain⟨rv,c,rfl,h1,h2,h3,h4⟩:=hs
   have x1:=ZdA wa k
   have x2:=ZdA wb k
   generalize hS:wordF a k+wordF b k+c=S
   have eS:u64.wrap ((u64.wrap (wordF a k+wordF b k))+c)=S:=by
    rw[Zh (x:=wordF a k+wordF b k) (by omega),Zh (by omega),hS]
   refine⟨(rv.set k (S % 4294967296),S / 4294967296,((k+1:Nat):Int)),Cq.wp.yes (by rw[hn,wl]; omega) ⟨_,ZcL wa k,_,ZcL wb k,_,idxN (show k<rv.length by omega),?_⟩,_,_,rfl,by rw[List.length_set]; exact h1,h2.set (by omega) k,by omega,?_⟩
   .show Sum.inl _=Sum.inl _
    rw[eS,tmodP (by omega),tdivP (by omega),Zav (by omega),Zh (by omega),wrapN (by omega),Int.toNat_natCast]
   rw[ZS (by omega),Zdu,Zdu]
   have:=dig k S
   rw[<- hS,Int.mul_add _ (wordF a k+wordF b k),Int.mul_add _ (wordF a k),hS] at this
   omega)
  (fun s hs=>by
   obtain⟨rv,c,rfl,h1,h2,h3,h4⟩:=hs
   rw[List.take_of_length_le (by omega),List.take_of_length_le (show a.length<=n+1 by omega),List.take_of_length_le (show b.length<=n+1 by omega),ha.val,hb.val] at h4
   refine⟨rv,Cq.wp.no (by rw[hn,wl]; omega) rfl,h1,h2,?_⟩
   have b1:=ha.lt
   have b2:=hb.lt
   have b3:=ZdH hna.1
   have b4:=ZdH hna.2.1
   have b5:=Zz h2
   rw[ZT] at h4
   have b6:=Z5 n
   by_cases hc:c=0
   .rw[hc,Int.mul_zero] at h4; omega
   rw[show c=1 by omega,Int.mul_one] at h4; omega)
  (s:=(List.replicate (n+1) 0,0,0)) ⟨_,_,rfl,List.length_replicate,Wd.zeros _,by decide,by simp[ZN]⟩
 obtain⟨rv,k1,k2,k3,k4⟩:=key
 obtain⟨r,r1,r2,_⟩:=Zab (a:=rv) (by omega) k3
 rw[k4] at r2
 refine⟨r,⟨by rw[hn,wl]; omega,?_⟩,r2⟩
 rw[hn,wl,Int.toNat_natCast]
 exact Cq.nextR k1 ⟨r,r1,rfl⟩
theorem ZiG{a b:List Int}{x y:Int}(ha:Mg a x)(hb:Mg b y)(hxy:y<=x)(la:a.length<=900000):∃ r,(ZbX a b).Ret r/\Mg r (x-y):=by
 have hl:b.length<=a.length:=hb.len (Int.lt_of_le_of_lt hxy ha.lt)
 have wa:=ha.wd
 have wb:=hb.wd
 have key:=Cq.ZQ (step:=fun gs:List Int×Int×Int=>match gs with|(out2,borrow1,i1)=>if i1<(a.length:Int) then (Cq.at' a i1 fun x1=>Cq.bind (ZP b i1) fun yv2=>Cq.at' out2 i1 fun x2=>Cq.ret (.inl ((out2.set i1.toNat (u32.wrap (Int.tmod (u64.wrap ((u64.wrap ((u64.wrap (4294967296+(u64.wrap x1)))-yv2))-borrow1)) 4294967296))),u64.wrap (1-(u64.wrap (Int.tdiv (u64.wrap ((u64.wrap ((u64.wrap (4294967296+(u64.wrap x1)))-yv2))-borrow1)) 4294967296))),i64.wrap (i1+1)))) else (Cq.ret (.inr out2)))
  (Φ:=fun o:List Int=>o.length=a.length/\Wd o/\nv o=x-y) a.length
  (fun k s=>∃ rv c,s=(rv,c,(k:Int))/\rv.length=a.length/\Wd rv/\(0<=c/\c<=1)/\nv (rv.take k)+nv (b.take k)=nv (a.take k)+4294967296 ^ k*c)
  (fun k s hk hs=>by
   obtain⟨rv,c,rfl,h1,h2,h3,h4⟩:=hs
   have x1:=wa.get hk
   have x2:=ZdA wb k
   generalize hD:4294967296+a[k]-wordF b k-c=D
   have eD:u64.wrap ((u64.wrap ((u64.wrap (4294967296+(u64.wrap a[k])))-wordF b k))-c)=D:=by
    rw[Zh (x:=a[k]) (by omega),Zh (x:=4294967296+a[k]) (by omega),Zh (x:=4294967296+a[k]-wordF b k) (by omega),Zh (by omega),hD]
   refine⟨(rv.set k (D % 4294967296),1-D / 4294967296,((k+1:Nat):Int)),Cq.wp.yes (by omega) ⟨_,idxN hk,_,ZcL wb k,_,idxN (show k<rv.length by omega),?_⟩,_,_,rfl,by rw[List.length_set]; exact h1,h2.set (by omega) k,by omega,?_⟩
   .show Sum.inl _=Sum.inl _
    rw[eD,tmodP (by omega),tdivP (by omega),Zav (by omega),Zh (x:=D / 4294967296) (by omega),Zh (by omega),wrapN (by omega),Int.toNat_natCast]
   rw[ZS (by omega),Zdu b,Zl hk]
   have e1:D % 4294967296+wordF b k+c=a[k]+4294967296*(1-D / 4294967296):=by omega
   have e2:(4294967296:Int) ^ k*(D % 4294967296+wordF b k+c)=4294967296 ^ k*(a[k]+4294967296*(1-D / 4294967296)):=by rw[e1]
   rw[ZT]
   grind)
  (fun s hs=>by
   obtain⟨rv,c,rfl,h1,h2,h3,h4⟩:=hs
   refine⟨rv,Cq.wp.no (by omega) rfl,h1,h2,?_⟩
   rw[List.take_length,List.take_of_length_le hl,List.take_of_length_le (by omega),ha.val,hb.val] at h4
   have h5:=ZaR h2
   rw[h1] at h5
   by_cases hc:c=0
   .rw[hc] at h4; omega
   rw[show c=1 by omega] at h4; omega)
  (s:=(List.replicate a.length 0,0,0)) ⟨_,_,rfl,List.length_replicate,Wd.zeros _,by decide,by simp[ZN]⟩
 obtain⟨rv,k1,k2,k3,k4⟩:=key
 obtain⟨r,r1,r2,_⟩:=Zab (a:=rv) (by omega) k3
 rw[k4] at r2
 refine⟨r,⟨⟨by omega,by omega⟩,?_⟩,r2⟩
 rw[Int.toNat_natCast]
 exact Cq.nextR k1 ⟨r,r1,rfl⟩
theorem ZmC{a b r0:List Int}{i:Nat}(wa:Wd a)(hi:i<a.length)(wb:Wd b)(w0:Wd r0)(hl:i+b.length<r0.length)(hs:r0.length<=900000):
  ∃ o,(Zc1 a b (i:Int) (r0,0,0)).Ret o/\o.1.length=r0.length/\Wd o.1/\(0<=o.2/\o.2<4294967296)/\nv o.1+4294967296 ^ (i+b.length)*o.2=nv r0+4294967296 ^ i*(a[i]*nv b)/\∀ t (h:t<o.1.length) (h':t<r0.length),i+b.length<=t->o.1[t]=r0[t]:=by
 have key:=Cq.ZQ (step:=fun gs:List Int×Int×Int=>match gs with|(v5_4,v7_2,v8_1)=>if v8_1<(b.length:Int) then (Cq.at' a (i:Int) fun x2=>Cq.at' b v8_1 fun x3=>Cq.at' v5_4 (i64.wrap ((i:Int)+v8_1)) fun x4=>Cq.at' v5_4 (i64.wrap ((i:Int)+v8_1)) fun x5=>Cq.ret (.inl ((v5_4.set (i64.wrap ((i:Int)+v8_1)).toNat (u32.wrap (Int.tmod (u64.wrap ((u64.wrap ((u64.wrap ((u64.wrap x2)*(u64.wrap x3)))+(u64.wrap x4)))+v7_2)) 4294967296))),u64.wrap (Int.tdiv (u64.wrap ((u64.wrap ((u64.wrap ((u64.wrap x2)*(u64.wrap x3)))+(u64.wrap x4)))+v7_2)) 4294967296),i64.wrap (v8_1+1)))) else (Cq.ret (.inr (v5_4,v7_2))))
  (Φ:=fun o:List Int×Int=>o.1.length=r0.length/\Wd o.1/\(0<=o.2/\o.2<4294967296)/\nv o.1+4294967296 ^ (i+b.length)*o.2=nv r0+4294967296 ^ i*(a[i]*nv b)/\∀ t (h:t<o.1.length) (h':t<r0.length),i+b.length<=t->o.1[t]=r0[t]) b.length
  (fun j s=>∃ rv c,s=(rv,c,(j:Int))/\rv.length=r0.length/\Wd rv/\(0<=c/\c<4294967296)/\nv rv+4294967296 ^ (i+j)*c=nv r0+4294967296 ^ i*(a[i]*nv (b.take j))/\∀ t (h:t<rv.length) (h':t<r0.length),i+b.length<=t->rv[t]=r0[t])
  (fun j s hj hs'=>by
   obtain⟨rv,c,rfl,h1,h2,h3,h4,h5⟩:=hs'
   have x0:=wa.get hi
   have x1:=wb.get hj
   have hk:i+j<rv.length:=by omega
   have x2:=h2.get hk
   have ew:i64.wrap ((i:Int)+(j:Int))=((i+j:Nat):Int):=by rw[wrap64 (by omega)]; omega
   have hp0:=Int.mul_nonneg x0.1 x1.1
   have hp1:a[i]*b[j]<=4294967295*4294967295:=Int.mul_le_mul (by omega) (by omega) x1.1 (by decide)
   have eS:u64.wrap ((u64.wrap ((u64.wrap ((u64.wrap a[i])*(u64.wrap b[j])))+(u64.wrap rv[i+j])))+c)=a[i]*b[j]+rv[i+j]+c:=by
    rw[Zh (x:=a[i]) (by omega),Zh (x:=b[j]) (by omega),Zh (x:=rv[i+j]) (by omega),Zh (x:=a[i]*b[j]) (by omega),Zh (x:=a[i]*b[j]+rv[i+j]) (by omega),Zh (by omega)]
   refine⟨(rv.set (i+j) ((a[i]*b[j]+rv[i+j]+c) % 4294967296),(a[i]*b[j]+rv[i+j]+c) / 4294967296,((j+1:Nat):Int)),Cq.wp.yes (by omega) ⟨_,idxN hi,_,idxN hj,?_⟩,_,_,rfl,by rw[List.length_set]; exact h1,h2.set (by omega) _,by omega,?_,fun t h h' ht=>?_⟩
   .rw[ew]
    refine⟨_,idxN hk,_,idxN hk,?_⟩
    show Sum.inl _=Sum.inl _
    rw[eS,tmodP (by omega),tdivP (by omega),Zav (by omega),Zh (by omega),wrapN (by omega),Int.toNat_natCast]
   .rw[Zi8 hk,Zl hj,Int.mul_sub]
    have:=dig (i+j) (a[i]*b[j]+rv[i+j]+c)
    rw[show i+(j+1)=i+j+1 by omega]
    have e2:4294967296 ^ (i+j)*(a[i]*b[j]+rv[i+j]+c)=4294967296 ^ i*(a[i]*(4294967296 ^ j*b[j]))+4294967296 ^ (i+j)*rv[i+j]+4294967296 ^ (i+j)*c:=by
     rw[Int.mul_add,Int.mul_add,Int.pow_add]
     congr 2
     simp only[Int.mul_assoc,Int.mul_left_comm]
    rw[Int.mul_add,Int.mul_add]
    omega
   rw[List.getElem_set_ne (by omega)]
   exact h5 t (by rw[List.length_set] at h; exact h) h' ht)
  (fun s hs'=>by
   obtain⟨rv,c,rfl,h1,h2,h3,h4,h5⟩:=hs'
   rw[List.take_length] at h4
   exact⟨(rv,c),Cq.wp.no (by omega) rfl,h1,h2,h3,h4,h5⟩)
  (s:=(r0,0,0)) ⟨_,_,rfl,rfl,w0,by decide,by simp[ZN],fun _ _ _ _=>rfl⟩
 exact key
theorem ZfP{a b:List Int}{x y:Int}(ha:Mg a x)(hb:Mg b y)(la:a.length<=400000)(lb:b.length<=400000):∃ r,(ZbY a b).Ret r/\Mg r (x*y):=by
 have wl:i64.wrap ((a.length:Int)+(b.length:Int))=((a.length+b.length:Nat):Int):=by rw[wrap64 (by omega)]; omega
 have key:=Cq.ZQ (step:=fun gs:List Int×Int=>match gs with|(v5_2,v6_1)=>if v6_1<(a.length:Int) then (Cq.next (Zc1 a b v6_1 (v5_2,0,0)) fun ov=>match ov with|(v5_3,v7_1)=>ZbM b v6_1 v5_3 v7_1) else (Cq.ret (.inr v5_2)))
  (Φ:=fun o:List Int=>o.length=a.length+b.length/\Wd o/\nv o=nv a*nv b) a.length
  (fun i s=>∃ rv,s=(rv,(i:Int))/\rv.length=a.length+b.length/\Wd rv/\nv rv=nv (a.take i)*nv b/\∀ t (h:t<rv.length),i+b.length<=t->rv[t]=0)
  (fun i s hi hs=>by
   obtain⟨rv,rfl,h1,h2,h3,h4⟩:=hs
   obtain⟨⟨r1,c⟩,k1,k2,k3,k4,k5,k6⟩:=ZmC (i:=i) ha.wd hi hb.wd h2 (by omega) (by omega)
   dsimp only at k2 k3 k4 k5 k6
   have hk:i+b.length<r1.length:=by omega
   have z0:r1[i+b.length]=0:=by rw[k6 _ hk (by omega) (Nat.le_refl _)]; exact h4 _ _ (Nat.le_refl _)
   have ew:i64.wrap ((i:Int)+(b.length:Int))=((i+b.length:Nat):Int):=by rw[wrap64 (by omega)]; omega
   refine⟨(r1.set (i+b.length) c,((i+1:Nat):Int)),Cq.wp.yes (by omega) (Cq.nextR k1 ?_),_,rfl,by rw[List.length_set]; omega,k3.set k4 _,?_,fun t h ht=>?_⟩
   .show (ZbM b (i:Int) r1 c).wp _
    unfold ZbM
    rw[ew]
    refine⟨_,idxN hk,?_⟩
    show Sum.inl _=Sum.inl _
    rw[Zav k4,wrapN (by omega),Int.toNat_natCast]
   .rw[Zi8 hk,z0,Int.sub_zero,Zl hi,Int.add_mul,<- h3,Int.mul_assoc]
    omega
   rw[List.length_set] at h
   rw[List.getElem_set_ne (by omega),k6 _ h (by omega) (by omega)]
   exact h4 _ _ (by omega))
  (fun s hs=>by
   obtain⟨rv,rfl,h1,h2,h3,h4⟩:=hs
   rw[List.take_length] at h3
   exact⟨rv,Cq.wp.no (by omega) rfl,h1,h2,h3⟩)
  (s:=(List.replicate (a.length+b.length) 0,0)) ⟨_,rfl,List.length_replicate,Wd.zeros _,by rw[Zin]; simp[ZN],fun t h _=>List.getElem_replicate ..⟩
 obtain⟨rv,k1,k2,k3,k4⟩:=key
 obtain⟨r,r1,r2,_⟩:=Zab (a:=rv) (by omega) k3
 rw[k4,ha.val,hb.val] at r2
 refine⟨r,⟨by rw[wl]; omega,?_⟩,r2⟩
 rw[wl,Int.toNat_natCast]
 exact Cq.nextR k1 ⟨r,r1,rfl⟩
theorem ZiF{a:List Int}{x d:Int}(ha:Wd a)(hx:nv a=x)(la:a.length<=900000)(hd:0<d/\d<4294967296):∃ q,(Zbg a d).Ret (q,x % d)/\Mg q (x / d):=by
 have wa:=ha
 have key:=Cq.ZQ (step:=fun gs:List Int×Int×Int=>match gs with|(out2,rv2,i1)=>if 0<=i1 then (Cq.at' a i1 fun x1=>Cq.chk (d≠0) (Cq.at' out2 i1 fun x2=>Cq.chk (d≠0) (Cq.ret (.inl ((out2.set i1.toNat (u32.wrap (u64.wrap (Int.tdiv (u64.wrap ((u64.wrap (rv2*4294967296))+(u64.wrap x1))) d)))),Int.tmod (u64.wrap ((u64.wrap (rv2*4294967296))+(u64.wrap x1))) d,i64.wrap (i1-1)))))) else (Cq.ret (.inr (out2,rv2))))
  (Φ:=fun o:List Int×Int=>o.1.length=a.length/\Wd o.1/\(0<=o.2/\o.2<d)/\nv o.1*d+o.2=nv a) a.length
  (fun k s=>∃ q r,s=(q,r,(a.length:Int)-1-(k:Int))/\q.length=a.length/\Wd q/\(0<=r/\r<d)/\nv (q.drop (a.length-k))*d+r=nv (a.drop (a.length-k)))
  (fun k s hk hs=>by
   obtain⟨q,r,rfl,h1,h2,h3,h4⟩:=hs
   have hi:a.length-1-k<a.length:=by omega
   have ei:(a.length:Int)-1-(k:Int)=((a.length-1-k:Nat):Int):=by omega
   have x1:=wa.get hi
   generalize hj:a.length-1-k=j at hi ei x1
   have ej:a.length-k=j+1:=by omega
   have ej2:a.length-(k+1)=j:=by omega
   have eT:u64.wrap ((u64.wrap (r*4294967296))+(u64.wrap a[j]))=r*4294967296+a[j]:=by
    rw[Zh (x:=a[j]) (by omega),Zh (x:=r*4294967296) (by omega),Zh (by omega)]
   have hT:0<=r*4294967296+a[j]:=by omega
   have hq:(r*4294967296+a[j]) / d<4294967296:=Int.ediv_lt_of_lt_mul hd.1 (by
    have:4294967296*(r+1)<=4294967296*d:=Int.mul_le_mul_of_nonneg_left (by omega) (by decide)
    omega)
   have hq0:0<=(r*4294967296+a[j]) / d:=Int.ediv_nonneg hT (by omega)
   have hm:=Int.emod_lt_of_pos (r*4294967296+a[j]) hd.1
   have hm0:=Int.emod_nonneg (r*4294967296+a[j]) (show d≠0 by omega)
   have hdm:=Int.mul_ediv_add_emod (r*4294967296+a[j]) d
   rw[ei]
   refine⟨(q.set j ((r*4294967296+a[j]) / d),(r*4294967296+a[j]) % d,(a.length:Int)-1-((k+1:Nat):Int)),Cq.wp.yes (by omega) ⟨_,idxN hi,by show d≠0; omega,_,idxN (show j<q.length by omega),by show d≠0; omega,?_⟩,_,_,rfl,by rw[List.length_set]; exact h1,h2.set ⟨hq0,hq⟩ _,⟨hm0,hm⟩,?_⟩
   .show Sum.inl _=Sum.inl _
    rw[eT,tdivP hT,tmodP hT,Zh (by omega),Zav ⟨hq0,hq⟩,wrap64 (by omega),Int.toNat_natCast,show (j:Int)-1=(a.length:Int)-1-((k+1:Nat):Int) by omega]
   rw[ej2]
   rw[ej] at h4
   rw[List.drop_eq_getElem_cons (show j<(q.set j _).length by rw[List.length_set]; omega),List.getElem_set_self,List.drop_set_of_lt (by omega),List.drop_eq_getElem_cons hi,ZL,ZL,<- h4,Int.add_mul,Int.mul_add,Int.mul_assoc 4294967296,Int.mul_comm ((r*4294967296+a[j]) / d) d]
   omega)
  (fun s hs=>by
   obtain⟨q,r,rfl,h1,h2,h3,h4⟩:=hs
   rw[Nat.sub_self,List.drop_zero,List.drop_zero] at h4
   exact⟨(q,r),Cq.wp.no (by omega) rfl,h1,h2,h3,h4⟩)
  (s:=(List.replicate a.length 0,0,(a.length:Int)-1)) ⟨_,_,by simp,List.length_replicate,Wd.zeros _,⟨by decide,hd.1⟩,by simp[ZN]⟩
 obtain⟨⟨q,r⟩,k1,k2,k3,k4,k5⟩:=key
 dsimp only at k2 k3 k4 k5
 rw[hx] at k5
 have eq:nv q=x / d/\r=x % d:=by
  have:=(Int.ediv_emod_unique hd.1 (a:=x) (r:=r) (q:=nv q)).2 ⟨by rw[Int.mul_comm d]; omega,k4.1,k4.2⟩
  exact⟨this.1.symm,this.2.symm⟩
 obtain⟨z,r1,r2,_⟩:=Zab (a:=q) (by omega) k3
 rw[eq.1] at r2
 refine⟨z,⟨⟨by omega,by omega⟩,?_⟩,r2⟩
 rw[Int.toNat_natCast,wrap64 (by omega)]
 refine Cq.nextR k1 ⟨z,r1,?_⟩
 rw[eq.2]; rfl
end Go.EL

namespace Go.EL
open Go.IntKind (i8 i16 i32 i64 u8 u16 u32 u64)
open Go Go.EL Go.RowKit
theorem ZlO{u v:List Int}{n:Nat}{U V P t Ul Vl:Int}(hv:v.length=n)(hn:2<=n)(hs:n<=900000)(hu:u.length=n+1)(wv:Wd v)(wu:Wd u)
  (hp:Parts2 U V P t (u[n-2]'(by omega)) Ul (v[n-1]'(by omega)) (v[n-2]'(by omega)) Vl) (ht:t<18446744073709551616) :
  ∀ (m:Nat) (q r:Int),(4294967296-r).toNat<=m->0<=q->(0<=r/\r<4294967296)->Guess U V t (v[n-1]'(by omega)) q r->∃ d,(ZbL u v (q,r)).Ret d/\Digit U V d:=by
 intro m
 induction m with
 | zero=>intro q r hm; omega
 | succ m ih=>
  intro q r hm hq hr g
  have w1:=hp.w1
  have w2:=hp.w2
  have x2:=hp.x2
  have i1:i64.wrap ((v.length:Int)-1)=((n-1:Nat):Int):=by rw[wrap64 (by omega)]; omega
  have i2:i64.wrap ((v.length:Int)-2)=((n-2:Nat):Int):=by rw[wrap64 (by omega)]; omega
  have hqt:q<=t:=by
   have:=Int.mul_le_mul_of_nonneg_left (show 1<=v[n-1]'(by omega) by omega) hq
   have:=g.tv; omega
  have step:1<=q->Guess U V t (v[n-1]'(by omega)) (q-1) (r+v[n-1]'(by omega))->∃ d,(Cq.at' v (i64.wrap ((v.length:Int)-1)) fun x15=>if 4294967296<=(u64.wrap (r+(u64.wrap x15))) then (Cq.ret (.inr (u64.wrap (q-1)))) else (Cq.ret (.inl (u64.wrap (q-1),u64.wrap (r+(u64.wrap x15)))))).wp (fun o:(Int×Int)⊕Int=>match o with | .inl s=>(ZbL u v s).Ret d | .inr z=>z=d)/\Digit U V d:=by
   intro h1 g'
   have e1:u64.wrap (r+(u64.wrap (v[n-1]'(by omega))))=r+v[n-1]'(by omega):=by rw[Zh (x:=v[n-1]'(by omega)) (by omega),Zh (by omega)]
   have e2:u64.wrap (q-1)=q-1:=Zh (by omega)
   by_cases c:4294967296<=r+v[n-1]'(by omega)
   .refine⟨q-1,?_,hp.brk g' (by omega) c⟩
    rw[i1]
    exact⟨_,idxN (by omega),Cq.wp.yes (by rw[e1]; exact c) (by show _=_; rw[e2])⟩
   obtain⟨d,d1,d2⟩:=ih (q-1) (r+v[n-1]'(by omega)) (by omega) (by omega) (by omega) g'
   refine⟨d,?_,d2⟩
   rw[i1]
   refine⟨_,idxN (by omega),Cq.wp.no (by rw[e1]; exact c) ?_⟩
   show (ZbL u v (u64.wrap (q-1),_)).Ret d
   rw[e1,e2]; exact d1
  by_cases c1:4294967296<=q
  .obtain⟨d,d1,d2⟩:=step (by omega) (hp.step1 g c1)
   refine⟨d,Cq.Zm (Cq.wp.yes c1 (Cq.mono _ (fun o ho=>?_) d1)),d2⟩
   cases o <;> exact ho
  have e3:u64.wrap (q*(u64.wrap (v[n-2]'(by omega))))=q*v[n-2]'(by omega):=by
   have:=Int.mul_le_mul (show q<=4294967295 by omega) (show v[n-2]'(by omega)<=4294967295 by omega) w2.1 (by decide)
   have:=Int.mul_nonneg hq w2.1
   rw[Zh (x:=v[n-2]'(by omega)) (by omega),Zh (by omega)]
  have e4:u64.wrap ((u64.wrap (r*4294967296))+(u64.wrap (u[n-2]'(by omega))))=r*4294967296+u[n-2]'(by omega):=by
   rw[Zh (x:=u[n-2]'(by omega)) (by omega),Zh (x:=r*4294967296) (by omega),Zh (by omega)]
  by_cases c2:r*4294967296+u[n-2]'(by omega)<q*v[n-2]'(by omega)
  .have hq1:1<=q:=by
    rcases Int.lt_or_le q 1 with c|c
    .have:=Int.mul_nonpos_of_nonpos_of_nonneg (show q<=0 by omega) w2.1; omega
    exact c
   obtain⟨d,d1,d2⟩:=step hq1 (hp.step2 g hq c2)
   refine⟨d,Cq.Zm (Cq.wp.no c1 ?_),d2⟩
   refine⟨_,by rw[i2]; exact idxN (by omega),_,by rw[i2]; exact idxN (by omega),Cq.wp.yes (by rw[e3,e4]; exact c2) (Cq.mono _ (fun o ho=>?_) d1)⟩
   cases o <;> exact ho
  refine⟨q,Cq.Zm (Cq.wp.no c1 ?_),⟨⟨hq,by omega⟩,g.up,hp.stop g ⟨hq,by omega⟩ (by omega)⟩⟩
  exact⟨_,by rw[i2]; exact idxN (by omega),_,by rw[i2]; exact idxN (by omega),Cq.wp.no (by rw[e3,e4]; exact c2) rfl⟩
theorem ZlP{u v:List Int}{n:Nat}{q:Int}(hv:v.length=n)(hs:n<=900000)(hu:u.length=n+1)(wv:Wd v)(wu:Wd u)(hq:0<=q/\q<4294967296):
  ∃ b u',(Zbz u v q).Ret (b,u')/\u'.length=n+1/\Wd u'/\nv u'+q*nv v=nv u+4294967296 ^ (n+1)*(if b=true then 1 else 0):=by
 have key:=Cq.ZQ (step:=fun gs:List Int×Int×Int×Int=>match gs with|(u3,carry1,borrow2,i1)=>if i1<(u3.length:Int) then (Cq.bind (ZP v i1) fun yv1=>Cq.at' u3 i1 fun x1=>Cq.at' u3 i1 fun x2=>Cq.ret (.inl ((u3.set i1.toNat (u32.wrap (Int.tmod (u64.wrap ((u64.wrap ((u64.wrap (4294967296+(u64.wrap x1)))-(Int.tmod (u64.wrap ((u64.wrap (q*yv1))+carry1)) 4294967296)))-borrow2)) 4294967296))),u64.wrap (Int.tdiv (u64.wrap ((u64.wrap (q*yv1))+carry1)) 4294967296),u64.wrap (1-(u64.wrap (Int.tdiv (u64.wrap ((u64.wrap ((u64.wrap (4294967296+(u64.wrap x1)))-(Int.tmod (u64.wrap ((u64.wrap (q*yv1))+carry1)) 4294967296)))-borrow2)) 4294967296))),i64.wrap (i1+1)))) else (Cq.ret (.inr (u3,borrow2))))
  (Φ:=fun o:List Int×Int=>o.1.length=n+1/\Wd o.1/\(0<=o.2/\o.2<=1)/\nv o.1+q*nv v=nv u+4294967296 ^ (n+1)*o.2) (n+1)
  (fun k s=>∃ rv c b,s=(rv,c,b,(k:Int))/\rv.length=n+1/\Wd rv/\(0<=c/\c<4294967296)/\(k=n+1->c=0)/\(0<=b/\b<=1)/\nv (rv.take k)+q*nv (v.take k)=nv (u.take k)+4294967296 ^ k*(c+b)/\∀ j:Nat,k<=j->rv[j]? = u[j]?)
  (fun k s hk hs'=>by
   obtain⟨rv,c,b,rfl,h1,h2,h3,hcn,h4,h5,h6⟩:=hs'
   have hkr:k<rv.length:=by omega
   have hku:k<u.length:=by omega
   have x1:=ZdA wv k
   have x2:=wu.get hku
   have er:rv[k]=u[k]:=by
    have:=h6 k (Nat.le_refl _)
    rw[List.getElem?_eq_getElem hkr,List.getElem?_eq_getElem hku] at this
    exact Option.some.inj this
   have m1:=Int.mul_le_mul (show q<=4294967295 by omega) (show wordF v k<=4294967295 by omega) x1.1 (by decide)
   have m0:=Int.mul_nonneg hq.1 x1.1
   generalize hT:q*wordF v k+c=T
   have eT:u64.wrap ((u64.wrap (q*wordF v k))+c)=T:=by
    rw[Zh (x:=q*wordF v k) (by omega),Zh (by omega),hT]
   have hTb:0<=T/\T<=4294967295*4294967296:=by omega
   generalize hD:4294967296+u[k]-T % 4294967296-b=D
   have eD:u64.wrap ((u64.wrap ((u64.wrap (4294967296+(u64.wrap rv[k])))-(Int.tmod T 4294967296)))-b)=D:=by
    rw[er,tmodP (by omega),Zh (x:=u[k]) (by omega),Zh (x:=4294967296+u[k]) (by omega),Zh (x:=4294967296+u[k]-T % 4294967296) (by omega),Zh (by omega),hD]
   have hlast:k=n->wordF v k=0:=fun e=>by unfold wordF; rw[dif_neg (by omega)]
   refine⟨(rv.set k (D % 4294967296),T / 4294967296,1-D / 4294967296,((k+1:Nat):Int)),Cq.wp.yes (by omega) ⟨_,ZcL wv k,_,idxN hkr,_,idxN hkr,?_⟩,_,_,_,rfl,by rw[List.length_set]; exact h1,h2.set (by omega) k,by omega,fun e=>?_,by omega,?_,fun j hj=>?_⟩
   .show Sum.inl _=Sum.inl _
    rw[eT,eD,tmodP (t:=D) (by omega),tdivP (t:=T) (by omega),tdivP (t:=D) (by omega),Zav (by omega),Zh (x:=T / 4294967296) (by omega),Zh (x:=D / 4294967296) (by omega),Zh (x:=1-D / 4294967296) (by omega),wrapN (by omega),Int.toNat_natCast]
   .have:=hlast (by omega)
    rw[this,Int.mul_zero] at hT
    omega
   .rw[ZS hkr,Zdu v,Zl hku]
    have e1:D % 4294967296+q*wordF v k+c+b=u[k]+4294967296*(T / 4294967296+(1-D / 4294967296)):=by omega
    have e2:(4294967296:Int) ^ k*(D % 4294967296+q*wordF v k+c+b)=4294967296 ^ k*(u[k]+4294967296*(T / 4294967296+(1-D / 4294967296))):=by rw[e1]
    rw[ZT]
    grind
   rw[List.getElem?_set_ne (by omega)]; exact h6 j (by omega))
  (fun s hs'=>by
   obtain⟨rv,c,b,rfl,h1,h2,h3,hcn,h4,h5,h6⟩:=hs'
   rw[hcn rfl,Int.zero_add,List.take_of_length_le (show v.length<=n+1 by omega),List.take_of_length_le (show rv.length<=n+1 by omega),List.take_of_length_le (show u.length<=n+1 by omega)] at h5
   exact⟨(rv,b),Cq.wp.no (by omega) rfl,h1,h2,h4,h5⟩)
  (s:=(u,0,0,0)) ⟨_,_,_,rfl,hu,wu,by decide,fun e=>rfl,by decide,by simp[ZN],fun _ _=>rfl⟩
 obtain⟨⟨rv,b⟩,k1,k2,k3,k4,k5⟩:=key
 dsimp only at k2 k3 k4 k5
 refine⟨decide (b=1),rv,Cq.nextR k1 rfl,k2,k3,?_⟩
 rw[k5]
 by_cases hb:b=1
 .rw[decide_eq_true hb,if_pos rfl,hb]
 rw[decide_eq_false hb,if_neg (by decide),show b=0 by omega]
theorem ZkF{u v:List Int}{n:Nat}(hv:v.length=n)(hs:n<=900000)(hu:u.length=n+1)(wv:Wd v)(wu:Wd u):
  ∃ u' c,(Zbf u v).Ret u'/\u'.length=n+1/\Wd u'/\(0<=c/\c<=1)/\nv u'+4294967296 ^ (n+1)*c=nv u+nv v:=by
 have key:=Cq.ZQ (step:=fun gs:List Int×Int×Int=>match gs with|(u3,carry1,i1)=>if i1<(u3.length:Int) then (Cq.at' u3 i1 fun x1=>Cq.bind (ZP v i1) fun yv1=>Cq.at' u3 i1 fun x2=>Cq.ret (.inl ((u3.set i1.toNat (u32.wrap (Int.tmod (u64.wrap ((u64.wrap ((u64.wrap x1)+yv1))+carry1)) 4294967296))),u64.wrap (Int.tdiv (u64.wrap ((u64.wrap ((u64.wrap x1)+yv1))+carry1)) 4294967296),i64.wrap (i1+1)))) else (Cq.ret (.inr u3)))
  (Φ:=fun o:List Int=>o.length=n+1/\Wd o/\∃ c:Int,(0<=c/\c<=1)/\nv o+4294967296 ^ (n+1)*c=nv u+nv v) (n+1)
  (fun k s=>∃ rv c,s=(rv,c,(k:Int))/\rv.length=n+1/\Wd rv/\(0<=c/\c<=1)/\nv (rv.take k)+4294967296 ^ k*c=nv (u.take k)+nv (v.take k)/\∀ j:Nat,k<=j->rv[j]? = u[j]?)
  (fun k s hk hs'=>by
   obtain⟨rv,c,rfl,h1,h2,h3,h5,h6⟩:=hs'
   have hkr:k<rv.length:=by omega
   have hku:k<u.length:=by omega
   have x1:=ZdA wv k
   have x2:=wu.get hku
   have er:rv[k]=u[k]:=by
    have:=h6 k (Nat.le_refl _)
    rw[List.getElem?_eq_getElem hkr,List.getElem?_eq_getElem hku] at this
    exact Option.some.inj this
   generalize hS:u[k]+wordF v k+c=S
   have eS:u64.wrap ((u64.wrap ((u64.wrap rv[k])+wordF v k))+c)=S:=by
    rw[er,Zh (x:=u[k]) (by omega),Zh (x:=u[k]+wordF v k) (by omega),Zh (by omega),hS]
   refine⟨(rv.set k (S % 4294967296),S / 4294967296,((k+1:Nat):Int)),Cq.wp.yes (by omega) ⟨_,idxN hkr,_,ZcL wv k,_,idxN hkr,?_⟩,_,_,rfl,by rw[List.length_set]; exact h1,h2.set (by omega) k,by omega,?_,fun j hj=>?_⟩
   .show Sum.inl _=Sum.inl _
    rw[eS,tmodP (by omega),tdivP (by omega),Zav (by omega),Zh (by omega),wrapN (by omega),Int.toNat_natCast]
   .rw[ZS hkr,Zdu v,Zl hku]
    have:=dig k S
    rw[<- hS,Int.mul_add _ (u[k]+wordF v k),Int.mul_add _ u[k],hS] at this
    omega
   rw[List.getElem?_set_ne (by omega)]; exact h6 j (by omega))
  (fun s hs'=>by
   obtain⟨rv,c,rfl,h1,h2,h3,h5,h6⟩:=hs'
   rw[List.take_of_length_le (show v.length<=n+1 by omega),List.take_of_length_le (show rv.length<=n+1 by omega),List.take_of_length_le (show u.length<=n+1 by omega)] at h5
   exact⟨rv,Cq.wp.no (by omega) rfl,h1,h2,c,h3,h5⟩)
  (s:=(u,0,0)) ⟨_,_,rfl,hu,wu,by decide,by simp[ZN],fun _ _=>rfl⟩
 obtain⟨rv,k1,k2,k3,c,k4,k5⟩:=key
 exact⟨rv,c,Cq.nextR k1 rfl,k2,k3,k4,k5⟩
theorem ZmA{u v:List Int}{m:Nat}(hv:v.length=m+2)(hs:m+2<=800000)(hu:u.length=m+3)(wv:Wd v)(wu:Wd u)(htop:0<v[m+1])(hlt:nv u<nv v*4294967296):
  ∃ q b u' d u'',(ZbW u v).Ret q/\(Zbz u v q).Ret (b,u')/\(b=false->d=q/\u''=u')/\(b=true->d=u64.wrap (q-1)/\(Zbf u' v).Ret u'')/\(0<=d/\d<4294967296)/\u'.length=m+3/\u''.length=m+3/\Wd u''/\nv u=d*nv v+nv u''/\nv u''<nv v:=by
 have x1:=wu.get (show m+2<u.length by omega)
 have x2:=wu.get (show m+1<u.length by omega)
 have x4:=wu.get (show m<u.length by omega)
 have x3:=wv.get (show m+1<v.length by omega)
 have x5:=wv.get (show m<v.length by omega)
 have su:nv u=((u[m+2]*4294967296+u[m+1])*4294967296+u[m])*4294967296 ^ m+nv (u.take m):=by
  have h1:=Zl (a:=u) (i:=m) (by omega)
  have h2:=Zl (a:=u) (i:=m+1) (by omega)
  have h3:=Zl (a:=u) (i:=m+2) (by omega)
  rw[List.take_of_length_le (by omega)] at h3
  rw[h3,h2,h1,show (4294967296:Int) ^ (m+2)=4294967296*(4294967296*4294967296 ^ m) by rw[<- ZT,<- ZT],ZT]
  grind
 have sv:nv v=(v[m+1]*4294967296+v[m])*4294967296 ^ m+nv (v.take m):=by
  have h1:=Zl (a:=v) (i:=m) (by omega)
  have h2:=Zl (a:=v) (i:=m+1) (by omega)
  rw[List.take_of_length_le (by omega)] at h2
  rw[h2,h1,ZT,Int.add_mul]
  simp only[Int.mul_assoc,Int.mul_comm,Int.mul_left_comm]
  omega
 have lu:=ZaR (wu.take m)
 have lv:=ZaR (wv.take m)
 rw[List.length_take,Nat.min_eq_left (by omega)] at lu lv
 generalize hT:u[m+2]*4294967296+u[m+1]=T at su
 have hp:Parts2 (nv u) (nv v) (4294967296 ^ m) T (u[m]) (nv (u.take m)) (v[m+1]) (v[m]) (nv (v.take m)):=
  ⟨Z5 _,sv,su,⟨Zz (wv.take _),lv⟩,⟨Zz (wu.take _),lu⟩,⟨htop,x3.2⟩,x5,x4,by omega,hlt⟩
 have hm:=Int.emod_lt_of_pos T htop
 have hm0:=Int.emod_nonneg T (show v[m+1]≠0 by omega)
 obtain⟨q,g1,g2⟩:=ZlO hv (by omega) (by omega) hu wv wu hp (by omega) _ (T / v[m+1]) (T % v[m+1]) (Nat.le_refl _) (Int.ediv_nonneg (by omega) (by omega)) ⟨hm0,by omega⟩ hp.start
 have i0:(v.length:Int)=((m+2:Nat):Int):=by omega
 have i1:i64.wrap ((v.length:Int)-1)=((m+1:Nat):Int):=by rw[wrap64 (by omega)]; omega
 have gq:(ZbW u v).Ret q:=by
  have eT:u64.wrap ((u64.wrap ((u64.wrap u[m+2])*4294967296))+(u64.wrap u[m+1]))=T:=by
   rw[Zh (x:=u[m+2]) (by omega),Zh (x:=u[m+1]) (by omega),Zh (x:=u[m+2]*4294967296) (by omega),Zh (by omega),hT]
  have e3:u64.wrap v[m+1]=v[m+1]:=Zh (by omega)
  have hT0:0<=T:=by omega
  have hq:0<=T / v[m+1]/\T / v[m+1]<=T:=⟨Int.ediv_nonneg hT0 (by omega),Int.ediv_le_self _ hT0⟩
  refine⟨u[m+2],by rw[i0]; exact idxN (by omega),u[m+1],by rw[i1]; exact idxN (by omega),v[m+1],by rw[i1]; exact idxN (by omega),by show u64.wrap v[m+1]≠0; rw[e3]; omega,v[m+1],by rw[i1]; exact idxN (by omega),by show u64.wrap v[m+1]≠0; rw[e3]; omega,?_⟩
  rw[eT,e3,tdivP hT0,tmodP hT0,Zh (by omega)]
  exact Cq.nextR g1 rfl
 obtain⟨b,u',l1,l2,l3,l4⟩:=ZlP (n:=m+2) hv (by omega) hu wv wu g2.w
 have hU0:=Zz l3
 have hU1:=ZaR l3
 rw[l2] at hU1
 have hg:=g2.w
 have hup:=g2.up
 have hlo:=g2.lo
 rw[Int.add_mul,Int.one_mul] at hup
 cases b with
 | false=>
  rw[if_neg (by decide),Int.mul_zero,Int.add_zero] at l4
  exact⟨q,false,u',q,u',gq,l1,fun _=>⟨rfl,rfl⟩,(fun e=>nomatch e),hg,l2,l2,l3,by omega,by omega⟩
 | true=>
  rw[if_pos rfl,Int.mul_one] at l4
  obtain⟨u'',c,r1,r2,r3,r4,r5⟩:=ZkF (n:=m+2) hv (by omega) l2 wv l3
  have hR1:=ZaR r3
  rw[r2] at hR1
  have hR0:=Zz r3
  have hV:=Zz wv
  have hc:c=1:=by
   by_cases h:c=0
   .rw[h,Int.mul_zero] at r5; omega
   omega
  rw[hc,Int.mul_one] at r5
  have hq1:1<=q:=by
   rcases Int.lt_or_le q 1 with h|h
   .have:q*nv v=0:=by rw[show q=0 by omega,Int.zero_mul]
    have:=Zz wu
    omega
   exact h
  have e:(q-1)*nv v=q*nv v-nv v:=by rw[Int.sub_mul,Int.one_mul]
  refine⟨q,true,u',q-1,u'',gq,l1,(fun e=>nomatch e),fun _=>⟨(Zh (by omega)).symm,r1⟩,by omega,l2,r2,r3,by omega,by omega⟩
end Go.EL

namespace Go.EL
open Go.IntKind (i8 i16 i32 i64 u8 u16 u32 u64)
open Go Go.EL Go.RowKit
theorem Zne{yv v:List Int}{m L:Nat}{X V:Int}(hy:yv.length=m+2)(hv:v.length=m+2)(hs:m+2+L<=800000)(wv:Wd v)(hV:nv v=V)(htop:0<v[m+1]){u0 q0:List Int}(hu:u0.length=m+2+L+1)(hq:q0.length=L+1)(wu:Wd u0)(wq:Wd q0)(hX:nv u0=X)(hlt:nv (u0.drop (L+1))<V):
  ∃ o:List Int×List Int,(Zd9 yv v (u0,q0,(L:Int))).Ret o/\o.2.length=L+1/\Wd o.2/\o.1.length=m+2+L+1/\Wd o.1/\nv o.1+nv o.2*V=X/\nv o.1<V:=by
 have hVlt:V<4294967296 ^ (m+2):=by rw[<- hV,<- hv]; exact ZaR wv
 have key:=Cq.ZQ (step:=fun gs:List Int×List Int×Int=>match gs with|(u,q,j)=>if 0<=j then (Cq.chk (0<=j/\j<i64.wrap (i64.wrap (j+(yv.length:Int))+1)/\i64.wrap (i64.wrap (j+(yv.length:Int))+1)<=(u.length:Int)) (Cq.bind (ZbW ((u.take (i64.wrap (i64.wrap (j+(yv.length:Int))+1)).toNat).drop j.toNat) v) fun g=>Cq.bind (Zbz ((u.take (i64.wrap (i64.wrap (j+(yv.length:Int))+1)).toNat).drop j.toNat) v g) fun y=>if y.1=true then (Cq.bind (Zbf y.2 v) fun p=>Cq.at' q j fun _=>Cq.ret (.inl (u.take j.toNat++p++u.drop (i64.wrap (i64.wrap (j+(yv.length:Int))+1)).toNat,q.set j.toNat (u32.wrap (u64.wrap (g-1))),i64.wrap (j-1)))) else (Cq.at' q j fun _=>Cq.ret (.inl (u.take j.toNat++y.2++u.drop (i64.wrap (i64.wrap (j+(yv.length:Int))+1)).toNat,q.set j.toNat (u32.wrap g),i64.wrap (j-1)))))) else (Cq.ret (.inr (u,q))))
  (Φ:=fun o:List Int×List Int=>o.2.length=L+1/\Wd o.2/\o.1.length=m+2+L+1/\Wd o.1/\nv o.1+nv o.2*V=X/\nv o.1<V) (L+1)
  (fun k s=>∃ q u,s=(u,q,(L:Int)-(k:Int))/\q.length=L+1/\Wd q/\u.length=m+2+L+1/\Wd u/\nv u+4294967296 ^ (L+1-k)*(nv (q.drop (L+1-k))*V)=nv u0+4294967296 ^ (L+1-k)*(nv (q0.drop (L+1))*V)/\nv (u.drop (L+1-k))<V)
  (fun k s hk hs'=>by
   obtain⟨q,u,rfl,h1,h2,h3,h4,h5,h6⟩:=hs'
   obtain⟨j,hj⟩:∃ j,L-k=j:=⟨_,rfl⟩
   have ej:(L:Int)-(k:Int)=(j:Int):=by omega
   have et:L+1-k=j+1:=by omega
   have et2:L+1-(k+1)=j:=by omega
   have q0z:q0.drop (L+1)=[]:=List.drop_of_length_le (by omega)
   rw[et] at h5 h6
   rw[q0z,ZN,Int.zero_mul,Int.mul_zero,Int.add_zero] at h5
   have ew:i64.wrap (i64.wrap ((j:Int)+(yv.length:Int))+1)=((j+(m+2)+1:Nat):Int):=by
    rw[hy,wrap64 (x:=(j:Int)+((m+2:Nat):Int)) (by omega),wrap64 (by omega)]; omega
   have hju:j<u.length:=by omega
   have xj:=h4.get hju
   have hz:nv (u.drop (j+1+(m+2)))=0:=ZfZ h4 (Int.lt_trans h6 hVlt) (by omega)
   have ep:(u.take (j+(m+2)+1)).drop j=(u.drop j).take (m+3):=by rw[List.drop_take]; congr 1; omega
   have lp:((u.drop j).take (m+3)).length=m+3:=by rw[List.length_take,List.length_drop]; omega
   have vp:nv (u.drop j)=nv ((u.drop j).take (m+3)):=by
    have:=Za4 (u.drop j) (m+3) (by rw[List.length_drop]; omega)
    rw[List.drop_drop,show j+(m+3)=j+1+(m+2) by omega,hz,Int.mul_zero,Int.add_zero] at this
    exact this
   have vd:nv (u.drop j)=u[j]+4294967296*nv (u.drop (j+1)):=by rw[List.drop_eq_getElem_cons hju,ZL]
   obtain⟨g,bb,p0,d,p,z1,z2,z3,z4,w2,w30,w3,w4,w5,w6⟩:=ZmA (u:=(u.drop j).take (m+3)) hv (by omega) lp wv ((h4.drop j).take _) htop (by rw[<- vp,vd,hV]; omega)
   rw[hV,<- vp] at w5
   rw[hV] at w6
   have hjq:j<q.length:=by omega
   have su:=Za4 u j (by omega)
   have la:(u.take j).length=j:=by rw[List.length_take]; omega
   have hw':Wd (u.take j++p++u.drop (j+(m+2)+1)):=((h4.take j).append w4).append (h4.drop _)
   have e1:u.take j++p++u.drop (j+(m+2)+1)=u.take j++(p++u.drop (j+(m+2)+1)):=List.append_assoc ..
   have nu':nv (p++u.drop (j+(m+2)+1))=nv p:=by rw[ZdU,show j+(m+2)+1=j+1+(m+2) by omega,hz,Int.mul_zero,Int.add_zero]
   refine⟨(u.take j++p++u.drop (j+(m+2)+1),q.set j d,(L:Int)-((k+1:Nat):Int)),?_,_,_,rfl,by rw[List.length_set]; exact h1,h2.set w2 j,?_,hw',?_,?_⟩
   .rw[ej]
    refine Cq.wp.yes (by omega) ?_
    rw[ew]
    refine⟨⟨by omega,by omega,by omega⟩,g,?_,(bb,p0),?_,?_⟩
    .rw[Int.toNat_natCast,Int.toNat_natCast,ep]; exact z1
    .rw[Int.toNat_natCast,Int.toNat_natCast,ep]; exact z2
    cases bb with
    | true=>
     obtain⟨y1,y2⟩:=z4 rfl
     refine Cq.wp.yes rfl ⟨_,y2,_,idxN hjq,?_⟩
     show Sum.inl _=Sum.inl _
     rw[Int.toNat_natCast,Int.toNat_natCast,wrap64 (by omega),show (j:Int)-1=(L:Int)-((k+1:Nat):Int) by omega,<- y1,Zav w2]
    | false=>
     obtain⟨y1,y2⟩:=z3 rfl
     subst y1 y2
     refine Cq.wp.no (fun e=>nomatch e) ⟨_,idxN hjq,?_⟩
     show Sum.inl _=Sum.inl _
     rw[Int.toNat_natCast,Int.toNat_natCast,wrap64 (by omega),show (j:Int)-1=(L:Int)-((k+1:Nat):Int) by omega,Zav w2]
   .rw[List.length_append,List.length_append,la,w3,List.length_drop]; omega
   .rw[et2,q0z,ZN,Int.zero_mul,Int.mul_zero,Int.add_zero,e1,ZdU,la,nu',List.drop_eq_getElem_cons (show j<(q.set j d).length by rw[List.length_set]; exact hjq),List.getElem_set_self,List.drop_set_of_lt (by omega),ZL]
    rw[ZT] at h5
    grind
   rw[et2,e1,List.drop_append_of_le_length (by omega),List.drop_eq_nil_of_le (show (u.take j).length<=j by omega),List.nil_append,nu']
   exact w6)
  (fun s hs'=>by
   obtain⟨q,u,rfl,h1,h2,h3,h4,h5,h6⟩:=hs'
   rw[Nat.sub_self,List.drop_zero,Int.pow_zero,Int.one_mul,List.drop_of_length_le (show q0.length<=L+1 by omega),ZN,Int.zero_mul,Int.mul_zero,Int.add_zero,hX] at h5
   rw[Nat.sub_self,List.drop_zero] at h6
   exact⟨(u,q),Cq.wp.no (by omega) rfl,h1,h2,h3,h4,h5,h6⟩)
  (s:=(u0,q0,(L:Int))) ⟨q0,u0,by simp,hq,wq,hu,wu,by simp,hlt⟩
 exact key
theorem ZgI{a b:List Int}{x y:Int}(ha:Mg a x)(hb:Mg b y)(hy:0<y)(la:a.length<=300000)(lb:b.length<=300000):∃ q r,(Zbe a b).Ret (q,r)/\Mg q (x / y)/\Mg r (x % y):=by
 have lb0:=hb.pos (by omega)
 by_cases c1:x<y
 .refine⟨[],a,⟨_,ZcW ha hb (by omega),Cq.wp.yes (by unfold cmpV; rw[if_pos c1]; decide) rfl⟩,?_,?_⟩
  .rw[Int.ediv_eq_zero_of_lt ha.nn c1]; exact Mg.nil
  rw[Int.emod_eq_of_lt ha.nn c1]; exact ha
 have hc:¬ cmpV x y<0:=by unfold cmpV; rw[if_neg c1]; split <;> decide
 have hl:b.length<=a.length:=hb.len (Int.lt_of_le_of_lt (by omega) ha.lt)
 by_cases c2:b.length=1
 .obtain⟨w,rfl⟩:∃ w,b=[w]:=List.length_eq_one_iff.1 c2
  have hw:=hb.wd.head
  have ew:w=y:=by rw[<- hb.val,ZdV]
  subst ew
  obtain⟨q,q1,q2⟩:=ZiF ha.wd ha.val (by omega) (d:=w) (by omega)
  have hm:=Int.emod_lt_of_pos x hy
  have hm0:=Int.emod_nonneg x (show w≠0 by omega)
  obtain⟨r,r1,r2⟩:=ZcX (m:=x % w) (by omega)
  refine⟨q,r,⟨_,ZcW ha hb (by omega),Cq.wp.no hc (Cq.wp.yes (by simp) ⟨w,⟨by decide,rfl⟩,?_⟩)⟩,q2,r2⟩
  show (Cq.bind (Zbg a (u64.wrap w)) _).wp _
  rw[Zh (x:=w) (by omega)]
  exact⟨_,q1,_,r1,rfl⟩
 obtain⟨m,hm⟩:∃ m,b.length=m+2:=⟨b.length-2,by omega⟩
 obtain⟨L,hL⟩:∃ L,a.length=m+2+L:=⟨a.length-(m+2),by omega⟩
 have xt:=hb.wd.get (show m+1<b.length by omega)
 have xn:b[m+1]≠0:=by
  have:=hb.cn lb0
  simp only[hm] at this
  exact this
 generalize hd:4294967296 / (b[m+1]+1)=d
 have hd1:1<=d/\d<=2147483648:=by
  rw[<- hd]
  constructor
  .exact Int.le_ediv_of_mul_le (by omega) (by omega)
  have:=Int.mul_ediv_self_le (x:=4294967296) (k:=b[m+1]+1) (by omega)
  rw[hd] at this ⊢
  have h2:=Int.mul_le_mul_of_nonneg_right (show 2<=b[m+1]+1 by omega) (show 0<=d by rw[<- hd]; exact Int.ediv_nonneg (by decide) (by omega))
  omega
 have hdb:(b[m+1]+1)*d<=4294967296:=by rw[<- hd]; exact Int.mul_ediv_self_le (by omega)
 obtain⟨w,w1,w2⟩:=ZcX (m:=d) (by omega)
 have lw:w.length<=1:=w2.len (by omega)
 obtain⟨v,v1,v2⟩:=ZfP hb w2 (by omega) (by omega)
 obtain⟨z,z1,z2⟩:=ZfP ha w2 (by omega) (by omega)
 have hbt:y<(b[m+1]+1)*4294967296 ^ (m+1):=by
  have h1:=Zl (a:=b) (i:=m+1) (by omega)
  rw[List.take_of_length_le (by omega),hb.val] at h1
  have h2:=ZaR (hb.wd.take (m+1))
  rw[List.length_take,Nat.min_eq_left (by omega)] at h2
  rw[Int.add_mul,Int.mul_comm b[m+1]]; omega
 have hyv:y*d<4294967296 ^ (m+2):=by
  have h1:y*d<(b[m+1]+1)*4294967296 ^ (m+1)*d:=Int.mul_lt_mul_of_pos_right hbt (by omega)
  have h2:(b[m+1]+1)*d*4294967296 ^ (m+1)<=4294967296*4294967296 ^ (m+1):=Int.mul_le_mul_of_nonneg_right hdb (Int.le_of_lt (Z5 _))
  rw[Int.mul_right_comm] at h2
  rw[ZT]
  omega
 have hge:4294967296 ^ (m+1)<=y:=by have:=hb.ge lb0; rwa [hm] at this
 have hyd:y<=y*d:=by
  have:=Int.mul_le_mul_of_nonneg_left (show (1:Int)<=d by omega) (show 0<=y by omega)
  omega
 have lv:v.length=m+2:=by
  have h1:=v2.len hyv
  rcases Nat.lt_or_ge v.length (m+2) with h|h
  .have h2:=v2.lt
   have h3:=ZdH (show v.length<=m+1 by omega)
   omega
  omega
 have htop:0<v[m+1]:=by
  have h1:=v2.cn (by omega)
  simp only[lv] at h1
  have h2:=v2.wd.get (show m+1<v.length by omega)
  have h3:v[m+1]≠0:=h1
  omega
 have hdp:0<d:=by omega
 have lz:z.length<=a.length+1:=by
  refine z2.len ?_
  have h1:x*d<4294967296 ^ a.length*d:=Int.mul_lt_mul_of_pos_right ha.lt hdp
  have h2:4294967296 ^ a.length*d<=4294967296 ^ a.length*4294967296:=Int.mul_le_mul_of_nonneg_left (by omega) (Int.le_of_lt (Z5 _))
  rw[Int.pow_succ]; omega
 obtain⟨u,hu⟩:∃ u,z++List.replicate (a.length+1-z.length) (0:Int)=u:=⟨_,rfl⟩
 have uz:z++(List.replicate (a.length+1) (0:Int)).drop z.length=u:=by
  rw[List.drop_replicate]; exact hu
 have lz0:0<z.length:=z2.pos (Int.ne_of_gt (Int.mul_pos (show 0<x by omega) hdp))
 have lu:u.length=m+2+L+1:=by rw[<- hu,List.length_append,List.length_replicate]; omega
 have wu:Wd u:=by rw[<- hu]; exact z2.wd.append (Wd.zeros _)
 have nu:nv u=x*d:=by rw[<- hu,ZdU,Zin,Int.mul_zero,Int.add_zero,z2.val]
 have hfirst:nv (u.drop (L+1))<y*d:=by
  have h1:=Za4 u (L+1) (by omega)
  have h2:=Zz (wu.take (L+1))
  have hax:=ha.lt
  have h4:x*d<4294967296 ^ (L+1)*(y*d):=by
   have a1:x*d<4294967296 ^ a.length*d:=Int.mul_lt_mul_of_pos_right hax hdp
   have a2:4294967296 ^ (L+1)*4294967296 ^ (m+1)<=4294967296 ^ (L+1)*y:=Int.mul_le_mul_of_nonneg_left hge (Int.le_of_lt (Z5 _))
   rw[<- Int.pow_add,show L+1+(m+1)=a.length by omega] at a2
   have a3:=Int.mul_le_mul_of_nonneg_right a2 (Int.le_of_lt hdp)
   rw[Int.mul_assoc] at a3
   omega
  rw[nu] at h1
  rcases Int.lt_or_le (nv (u.drop (L+1))) (y*d) with c|c
  .exact c
  have:=Int.mul_le_mul_of_nonneg_left c (Int.le_of_lt (Z5 (L+1)))
  omega
 obtain⟨⟨w',q⟩,d1,d2,d3,d4,d5,d6,d7⟩:=Zne (yv:=b) (L:=L) hm lv (by omega) v2.wd v2.val htop (u0:=u) (q0:=List.replicate (L+1) 0) lu List.length_replicate wu (Wd.zeros _) nu hfirst
 dsimp only at d2 d3 d4 d5 d6 d7
 have hV:0<y*d:=Int.mul_pos hy hdp
 have hdm:=(Int.ediv_emod_unique hV (a:=x*d) (r:=nv w') (q:=nv q)).2 ⟨by rw[Int.mul_comm (y*d)]; omega,Zz d5,d7⟩
 rw[Int.mul_ediv_mul_of_pos_left _ _ hdp] at hdm
 obtain⟨q',q1,q2,_⟩:=Zab (a:=q) (by omega) d3
 rw[<- hdm.1] at q2
 obtain⟨w'',t1,t2,t3⟩:=Zab (a:=w') (by omega) d5
 obtain⟨r,r1,r2⟩:=ZiF t2.wd t2.val (by omega) (d:=d) (by omega)
 have er:nv w' / d=x % y:=by
  rw[<- hdm.2,Int.mul_comm x,Int.mul_comm y,Int.mul_emod_mul_of_pos _ _ hdp,Int.mul_comm,Int.mul_ediv_cancel _ (by omega)]
 rw[er] at r2
 refine⟨q',r,⟨_,ZcW ha hb (by omega),Cq.wp.no hc (Cq.wp.no (by omega) ?_)⟩,q2,r2⟩
 have i1:i64.wrap ((b.length:Int)-1)=((m+1:Nat):Int):=by rw[wrap64 (by omega)]; omega
 have i2:i64.wrap ((a.length:Int)-(b.length:Int))=(L:Int):=by rw[wrap64 (by omega)]; omega
 have i3:i64.wrap ((L:Int)+1)=((L+1:Nat):Int):=wrapN (by omega)
 have i4:i64.wrap ((a.length:Int)+1)=((a.length+1:Nat):Int):=wrapN (by omega)
 have e1:u64.wrap ((u64.wrap b[m+1])+1)=b[m+1]+1:=by rw[Zh (x:=b[m+1]) (by omega),Zh (by omega)]
 have e2:u64.wrap (Int.tdiv 4294967296 (b[m+1]+1))=d:=by rw[tdivP (by decide),hd,Zh (by omega)]
 rw[i2,i3,i4]
 refine⟨b[m+1],by rw[i1]; exact idxN (by omega),?_⟩
 simp only[e1,e2]
 refine⟨by omega,_,w1,_,v1,by omega,_,w1,_,z1,⟨lz0,by rw[Int.toNat_natCast,List.length_replicate]; exact lz⟩,by omega,?_⟩
 rw[Int.toNat_natCast,Int.toNat_natCast,uz]
 refine Cq.nextR d1 ?_
 show (Zch b[m+1] w' q).Ret _
 unfold Zch
 rw[e1,e2]
 exact⟨_,t1,_,r1,_,q1,rfl⟩
end Go.EL

namespace Go.EL
open Go.IntKind (i8 i16 i32 i64 u8 u16 u32 u64)
open Go Go.EL Go.RowKit
structure In (a:Zb) (z:Int):Prop where
 neg:a.neg=decide (z<0)
 mg:Mg a.mag (z.natAbs:Int)
def Bd(k:Nat)(z:Int):Prop:=(z.natAbs:Int)<4294967296 ^ k
theorem Bd.up{j k:Nat}{z:Int}(h:Bd j z)(hk:j<=k):Bd k z:=Int.lt_of_lt_of_le h (ZdH hk)
theorem Bd.mul{j k:Nat}{x y:Int}(hx:Bd j x)(hy:Bd k y):Bd (j+k) (x*y):=by
 unfold Bd at *
 rw[Int.natAbs_mul,Int.natCast_mul,Int.pow_add]
 have:=Z5 j
 rcases Int.lt_or_le 0 (y.natAbs:Int) with c|c
 .have a1:(x.natAbs:Int)*(y.natAbs:Int)<4294967296 ^ j*(y.natAbs:Int):=Int.mul_lt_mul_of_pos_right hx c
  have a2:(4294967296:Int) ^ j*(y.natAbs:Int)<=4294967296 ^ j*4294967296 ^ k:=Int.mul_le_mul_of_nonneg_left (by omega) (by omega)
  omega
 rw[show (y.natAbs:Int)=0 by omega,Int.mul_zero]
 exact Int.mul_pos (Z5 j) (Z5 k)
theorem Bd.add{j:Nat}{x y:Int}(hx:Bd j x)(hy:Bd j y):Bd (j+1) (x+y):=by
 unfold Bd at *
 rw[ZT]
 omega
theorem Bd.neg{j:Nat}{x:Int}(hx:Bd j x):Bd j (-x):=by unfold Bd at *; omega
theorem Bd.le{j:Nat}{x y:Int}(hx:Bd j x)(h:y.natAbs<=x.natAbs):Bd j y:=by unfold Bd at *; omega
theorem Bd.one{x:Int}(h:x.natAbs<4294967296):Bd 1 x:=by unfold Bd; rw[Int.pow_one]; omega
theorem In.len{a:Zb}{z:Int}(h:In a z){k:Nat}(hb:Bd k z):a.mag.length<=k:=h.mg.len hb
theorem In.Zly{a:Zb}{z:Int}(h:In a z):a.mag=[]↔z=0:=by
 constructor
 .intro e
  have:=h.mg.val
  rw[e,ZN] at this
  omega
 intro e
 have:=h.mg
 rw[e] at this
 exact this.zero
theorem In.pos{a:Zb}{z:Int}(h:In a z)(hz:z≠0):0<a.mag.length:=by
 rcases Nat.eq_zero_or_pos a.mag.length with e|e
 .exact absurd (h.Zly.1 (List.eq_nil_of_length_eq_zero e)) hz
 exact e
theorem In.mk'{neg:Bool}{l:List Int}{x:Int}(h:Mg l x)(h0:l=[]->neg=false):In ⟨neg,l⟩ (if neg=true then -x else x):=by
 have hn:=h.nn
 cases neg with
 | false=>exact⟨by rw[if_neg (by decide),decide_eq_false (by omega)],by rw[if_neg (by decide),show (x.natAbs:Int)=x by omega]; exact h⟩
 | true=>
  have hx:x≠0:=fun e=>by
   rw[e] at h
   cases h0 h.zero
  exact⟨by rw[if_pos rfl,decide_eq_true (by omega)],by rw[if_pos rfl,show ((-x).natAbs:Int)=x by omega]; exact h⟩
theorem Zau(neg:Bool){l:List Int}{x:Int}(h:Mg l x)(hl:l.length<=1000000):∃ r,(Zw neg l).Ret r/\In r (if neg=true then -x else x):=by
 refine⟨_,Zm6 neg h hl,?_⟩
 by_cases e:l=[]
 .rw[if_pos e]
  have h0:x=0:=by rw[<- h.val,e]; rfl
  subst h0
  rw[show (if neg=true then -(0:Int) else 0)=0 by split <;> rfl]
  exact⟨rfl,Mg.nil⟩
 rw[if_neg e]
 exact In.mk' h (fun k=>absurd k e)
theorem ZbF(neg:Bool){l:List Int}{x:Int}(h:Mg l x)(hl:l.length<=1000000):∃ r,(Z2 neg l).Ret r/\In r (if neg=true then -x else x):=by
 have ht:(Zaf l).Ret l:=Zdz h hl
 cases neg with
 | false=>exact⟨⟨false,l⟩,⟨l,ht,Cq.wp.no (by decide) rfl⟩,In.mk' h (fun _=>rfl)⟩
 | true=>
  by_cases e:l=[]
  .subst e
   have h0:x=0:=by rw[<- h.val]; rfl
   subst h0
   exact⟨⟨false,[]⟩,⟨[],ht,Cq.wp.yes rfl rfl⟩,⟨rfl,Mg.nil⟩⟩
  have hp:0<l.length:=List.length_pos_iff.2 e
  exact⟨⟨true,l⟩,⟨l,ht,Cq.wp.yes rfl (by show _=_; rw[decide_eq_true (show (0:Int)<(l.length:Int) by omega)])⟩,In.mk' h (fun k=>absurd k e)⟩
theorem ZjE(x y:Int):(if decide (¬ decide (x<0)=decide (y<0))=true then -((x.natAbs:Int)*(y.natAbs:Int)) else (x.natAbs:Int)*(y.natAbs:Int))=x*y:=by
 by_cases h1:x<0 <;> by_cases h2:y<0
 .rw[decide_eq_true h1,decide_eq_true h2,if_neg (by decide),show (x.natAbs:Int) = -x by omega,show (y.natAbs:Int) = -y by omega,Int.neg_mul_neg]
 .rw[decide_eq_true h1,decide_eq_false h2,if_pos (by decide),show (x.natAbs:Int) = -x by omega,show (y.natAbs:Int)=y by omega,Int.neg_mul,Int.neg_neg]
 .rw[decide_eq_false h1,decide_eq_true h2,if_pos (by decide),show (x.natAbs:Int)=x by omega,show (y.natAbs:Int) = -y by omega,Int.mul_neg,Int.neg_neg]
 rw[decide_eq_false h1,decide_eq_false h2,if_neg (by decide),show (x.natAbs:Int)=x by omega,show (y.natAbs:Int)=y by omega]
section
variable {a b:Zb}{x y:Int}{j k:Nat}
theorem Zql(ha:In a x)(hb:In b y)(bx:Bd j x)(bY:Bd k y)(hj:j<=100000)(hk:k<=100000):∃ r,(Zdt a b).Ret r/\In r (x*y):=by
 have la:=ha.len bx
 have lb:=hb.len bY
 obtain⟨p,p1,p2⟩:=ZlV ha.mg hb.mg (by omega) (by omega)
 have lp:p.length<=j+k:=p2.len (by have:=bx.mul bY; unfold Bd at this; rwa [Int.natAbs_mul,Int.natCast_mul] at this)
 obtain⟨r,r1,r2⟩:=Zau (decide (¬ a.neg=b.neg)) p2 (by omega)
 rw[ha.neg,hb.neg,ZjE] at r2
 exact⟨r,⟨p,p1,r,r1,rfl⟩,r2⟩
theorem Zhv(ha:In a x)(hb:In b y)(bx:Bd j x)(bY:Bd k y)(hj:j<=100000)(hk:k<=100000):∃ r,(Zb9 a b).Ret r/\In r (x*y):=by
 have la:=ha.len bx
 have lb:=hb.len bY
 obtain⟨p,p1,p2⟩:=ZfP ha.mg hb.mg (by omega) (by omega)
 have lp:p.length<=j+k:=p2.len (by have:=bx.mul bY; unfold Bd at this; rwa [Int.natAbs_mul,Int.natCast_mul] at this)
 obtain⟨r,r1,r2⟩:=ZbF (decide (¬ a.neg=b.neg)) p2 (by omega)
 rw[ha.neg,hb.neg,ZjE] at r2
 exact⟨r,⟨p,p1,r,r1,rfl⟩,r2⟩
theorem Zqb(ha:In a x)(hb:In b y)(bx:Bd j x)(bY:Bd j y)(hj:j<=100000):∃ r,(Zdr a b).Ret r/\In r (x+y):=by
 have la:=ha.len bx
 have lb:=hb.len bY
 have hs:=bx.add bY
 by_cases c:a.neg=b.neg
 .obtain⟨p,p1,p2⟩:=Zp4 ha.mg hb.mg (by omega) (by omega)
  have e:(if a.neg=true then -((x.natAbs:Int)+(y.natAbs:Int)) else (x.natAbs:Int)+(y.natAbs:Int))=x+y:=by
   rw[ha.neg,hb.neg,decide_eq_decide] at c
   rw[ha.neg]
   by_cases h:x<0
   .rw[decide_eq_true h,if_pos rfl]; have:=c.1 h; omega
   rw[decide_eq_false h,if_neg (by decide)]; have:¬ y<0:=fun k=>h (c.2 k); omega
  have lp:p.length<=j+1:=p2.len (by unfold Bd at bx bY; rw[ZT]; omega)
  obtain⟨r,r1,r2⟩:=Zau a.neg p2 (by omega)
  rw[e] at r2
  exact⟨r,Cq.wp.yes c ⟨p,p1,r,r1,rfl⟩,r2⟩
 have hx:a.neg=decide (x<0):=ha.neg
 have hy:b.neg=decide (y<0):=hb.neg
 have hc:=ZdE ha.mg hb.mg (by omega)
 have cc:¬ (x<0↔y<0):=fun k=>c (by rw[hx,hy]; exact decide_eq_decide.2 k)
 by_cases h:(x.natAbs:Int)<(y.natAbs:Int)
 .obtain⟨p,p1,p2⟩:=Zfn hb.mg ha.mg (by omega) (by omega)
  have lp:p.length<=j:=p2.len (by unfold Bd at bx bY; omega)
  obtain⟨r,r1,r2⟩:=Zau b.neg p2 (by omega)
  have e:(if b.neg=true then -((y.natAbs:Int)-(x.natAbs:Int)) else (y.natAbs:Int)-(x.natAbs:Int))=x+y:=by
   rw[hy]
   by_cases h2:y<0
   .rw[decide_eq_true h2,if_pos rfl]; omega
   rw[decide_eq_false h2,if_neg (by decide)]; omega
  rw[e] at r2
  exact⟨r,Cq.wp.no c ⟨_,hc,Cq.wp.no (by unfold cmpV; rw[if_pos h]; decide) ⟨p,p1,r,r1,rfl⟩⟩,r2⟩
 obtain⟨p,p1,p2⟩:=Zfn ha.mg hb.mg (by omega) (by omega)
 have lp:p.length<=j:=p2.len (by unfold Bd at bx bY; omega)
 obtain⟨r,r1,r2⟩:=Zau a.neg p2 (by omega)
 have e:(if a.neg=true then -((x.natAbs:Int)-(y.natAbs:Int)) else (x.natAbs:Int)-(y.natAbs:Int))=x+y:=by
  rw[hx]
  by_cases h2:x<0
  .rw[decide_eq_true h2,if_pos rfl]; omega
  rw[decide_eq_false h2,if_neg (by decide)]; omega
 rw[e] at r2
 exact⟨r,Cq.wp.no c ⟨_,hc,Cq.wp.yes (by unfold cmpV; rw[if_neg h]; split <;> decide) ⟨p,p1,r,r1,rfl⟩⟩,r2⟩
theorem Zpq(ha:In a x)(hb:In b y)(bx:Bd j x)(bY:Bd j y)(hj:j<=100000):∃ r,(Zf8 a b).Ret r/\In r (x+y):=by
 have la:=ha.len bx
 have lb:=hb.len bY
 have hs:=bx.add bY
 by_cases c:a.neg=b.neg
 .obtain⟨p,p1,p2⟩:=Zmz ha.mg hb.mg (by omega) (by omega)
  have e:(if a.neg=true then -((x.natAbs:Int)+(y.natAbs:Int)) else (x.natAbs:Int)+(y.natAbs:Int))=x+y:=by
   rw[ha.neg,hb.neg,decide_eq_decide] at c
   rw[ha.neg]
   by_cases h:x<0
   .rw[decide_eq_true h,if_pos rfl]; have:=c.1 h; omega
   rw[decide_eq_false h,if_neg (by decide)]; have:¬ y<0:=fun k=>h (c.2 k); omega
  have lp:p.length<=j+1:=p2.len (by unfold Bd at bx bY; rw[ZT]; omega)
  obtain⟨r,r1,r2⟩:=ZbF a.neg p2 (by omega)
  rw[e] at r2
  exact⟨r,Cq.wp.yes c ⟨p,p1,r,r1,rfl⟩,r2⟩
 have hx:a.neg=decide (x<0):=ha.neg
 have hy:b.neg=decide (y<0):=hb.neg
 have hc:=ZcW ha.mg hb.mg (by omega)
 have cc:¬ (x<0↔y<0):=fun k=>c (by rw[hx,hy]; exact decide_eq_decide.2 k)
 by_cases h:(x.natAbs:Int)<(y.natAbs:Int)
 .obtain⟨p,p1,p2⟩:=ZiG hb.mg ha.mg (by omega) (by omega)
  have lp:p.length<=j:=p2.len (by unfold Bd at bx bY; omega)
  obtain⟨r,r1,r2⟩:=ZbF b.neg p2 (by omega)
  have e:(if b.neg=true then -((y.natAbs:Int)-(x.natAbs:Int)) else (y.natAbs:Int)-(x.natAbs:Int))=x+y:=by
   rw[hy]
   by_cases h2:y<0
   .rw[decide_eq_true h2,if_pos rfl]; omega
   rw[decide_eq_false h2,if_neg (by decide)]; omega
  rw[e] at r2
  exact⟨r,Cq.wp.no c ⟨_,hc,Cq.wp.yes (by unfold cmpV; rw[if_pos h]; decide) ⟨p,p1,r,r1,rfl⟩⟩,r2⟩
 obtain⟨p,p1,p2⟩:=ZiG ha.mg hb.mg (by omega) (by omega)
 have lp:p.length<=j:=p2.len (by unfold Bd at bx bY; omega)
 obtain⟨r,r1,r2⟩:=ZbF a.neg p2 (by omega)
 have e:(if a.neg=true then -((x.natAbs:Int)-(y.natAbs:Int)) else (x.natAbs:Int)-(y.natAbs:Int))=x+y:=by
  rw[hx]
  by_cases h2:x<0
  .rw[decide_eq_true h2,if_pos rfl]; omega
  rw[decide_eq_false h2,if_neg (by decide)]; omega
 rw[e] at r2
 exact⟨r,Cq.wp.no c ⟨_,hc,Cq.wp.no (by unfold cmpV; rw[if_neg h]; split <;> decide) ⟨p,p1,r,r1,rfl⟩⟩,r2⟩
theorem Zmi{x y:Int}(h:y≠0)(hd:x % y=0):(if decide (¬ decide (x<0)=decide (y<0))=true then -((x.natAbs:Int) / (y.natAbs:Int)) else (x.natAbs:Int) / (y.natAbs:Int))=x / y/\(x.natAbs:Int) % (y.natAbs:Int)=0:=by
 obtain⟨q,rfl⟩:=Int.dvd_of_emod_eq_zero hd
 have hy:(y.natAbs:Int)≠0:=by omega
 have e1:=ZjE y q
 rw[Int.mul_ediv_cancel_left _ h,Int.natAbs_mul,Int.natCast_mul,Int.mul_ediv_cancel_left _ hy,Int.mul_emod_right]
 refine⟨?_,rfl⟩
 rcases Int.lt_trichotomy q 0 with c|c|c
 .by_cases h2:y<0
  .rw[decide_eq_true h2,decide_eq_false (Int.not_lt.2 (Int.le_of_lt (Int.mul_pos_of_neg_of_neg h2 c))),if_pos (by decide)]; omega
  rw[decide_eq_false h2,decide_eq_true (Int.mul_neg_of_pos_of_neg (by omega) c),if_pos (by decide)]; omega
 .subst c
  rw[Int.mul_zero]; split <;> rfl
 by_cases h2:y<0
 .rw[decide_eq_true h2,decide_eq_true (Int.mul_neg_of_neg_of_pos h2 c),if_neg (by decide)]; omega
 rw[decide_eq_false h2,decide_eq_false (Int.not_lt.2 (Int.le_of_lt (Int.mul_pos (show 0<y by omega) c))),if_neg (by decide)]; omega
theorem Znp(ha:In a x)(hb:In b y)(h:y≠0)(hd:x % y=0)(bx:Bd j x)(bY:Bd k y)(hj:j<=100000)(hk:k<=100000):∃ r,(∃ r2 e,(Za6 a b).Ret (r,r2,e))/\In r (x / y):=by
 have la:=ha.len bx
 have lb:=hb.len bY
 have lp:=hb.pos h
 obtain⟨e1,e2⟩:=Zmi h hd
 obtain⟨q,r,d1,d2,d3⟩:=ZiK ha.mg hb.mg (by omega) (by omega) (by omega)
 rw[e2] at d3
 have hr:=d3.zero
 subst hr
 have lq:q.length<=j:=d2.len (by have:=Int.ediv_le_self (b:=(y.natAbs:Int)) (a:=(x.natAbs:Int)) (by omega); unfold Bd at bx; omega)
 obtain⟨z,z1,z2⟩:=Zau (decide (¬ a.neg=b.neg)) d2 (by omega)
 obtain⟨z',z3,_⟩:=Zau false Mg.nil (by decide)
 rw[ha.neg,hb.neg,e1] at z2
 have k1:(ZaF a b (q,[]) false).Ret (z,z',0):=Cq.wp.no (by decide) ⟨z,z1,z',z3,rfl⟩
 refine⟨z,⟨z',0,?_⟩,z2⟩
 refine⟨_,Zdz hb.mg (by omega),Cq.wp.no (by omega) ⟨_,d1,?_⟩⟩
 by_cases c:a.neg=true
 .exact Cq.wp.yes c k1
 exact Cq.wp.no c k1
theorem ZeS(ha:In a x)(hb:In b y)(h:y≠0)(hd:x % y=0)(bx:Bd j x)(bY:Bd k y)(hj:j<=100000)(hk:k<=100000):∃ r,(Zc2 a b).Ret r/\In r (x / y):=by
 have la:=ha.len bx
 have lb:=hb.len bY
 have lp:=hb.pos h
 obtain⟨e1,e2⟩:=Zmi h hd
 obtain⟨q,r,d1,d2,d3⟩:=ZgI ha.mg hb.mg (by omega) (by omega) (by omega)
 rw[e2] at d3
 have hr:=d3.zero
 subst hr
 have lq:q.length<=j:=d2.len (by have:=Int.ediv_le_self (b:=(y.natAbs:Int)) (a:=(x.natAbs:Int)) (by omega); unfold Bd at bx; omega)
 obtain⟨z,z1,z2⟩:=ZbF (decide (¬ a.neg=b.neg)) d2 (by omega)
 obtain⟨z',z3,_⟩:=ZbF false Mg.nil (by decide)
 rw[ha.neg,hb.neg,e1] at z2
 have k1:(Zbp a b (q,[]) false).Ret (z,z',0):=Cq.wp.no (by decide) ⟨z,z1,z',z3,rfl⟩
 refine⟨z,⟨(z,z',0),?_,rfl⟩,z2⟩
 refine Cq.wp.no (by omega) ⟨_,d1,?_⟩
 by_cases c:a.neg=true
 .exact Cq.wp.yes c k1
 exact Cq.wp.no c k1
theorem Zid(ha:In a x):(ZdG a).Ret (if x=0 then 0 else if x<0 then -1 else 1):=by
 by_cases c:x<0
 .rw[if_neg (by omega),if_pos c]; exact Cq.wp.yes (by rw[ha.neg]; exact decide_eq_true c) rfl
 refine Cq.wp.no (by rw[ha.neg,decide_eq_false c]; decide) ?_
 show _=_
 by_cases h:x=0
 .rw[if_pos h,ha.Zly.2 h]; rfl
 have:=ha.pos h
 rw[if_neg h,if_neg c]
 split <;> omega
theorem Zps(ha:In a x)(bx:Bd j x)(hj:j<=100000):∃ r,(Zga a).Ret r/\In r (-x):=by
 have la:=ha.len bx
 obtain⟨r,r1,r2⟩:=ZbF (!a.neg) ha.mg (by omega)
 have e:(if (!a.neg)=true then -(x.natAbs:Int) else (x.natAbs:Int)) = -x:=by
  rw[ha.neg]
  by_cases c:x<0
  .rw[decide_eq_true c,if_neg (by decide)]; omega
  rw[decide_eq_false c,if_pos (by decide)]; omega
 rw[e] at r2
 exact⟨r,⟨r,r1,rfl⟩,r2⟩
theorem Zal(ha:In a x):(Zah a).Ret (decide (x=1)):=by
 by_cases c:x<0
 .rw[decide_eq_false (by omega)]
  exact Cq.wp.yes (by rw[ha.neg]; exact decide_eq_true c) rfl
 refine Cq.wp.no (by rw[ha.neg,decide_eq_false c]; decide) ?_
 by_cases h:(a.mag.length:Int)=1
 .obtain⟨w,hw⟩:=List.length_eq_one_iff.1 (show a.mag.length=1 by omega)
  refine Cq.wp.yes h ⟨w,by rw[hw]; exact⟨by decide,rfl⟩,?_⟩
  have:=ha.mg.val
  rw[hw,ZdV] at this
  show _=_
  congr 1
  apply propext
  omega
 refine Cq.wp.no h ?_
 show _=_
 rw[decide_eq_false]
 intro e
 have h1:=ha.pos (by omega)
 have h2:=ha.len (Bd.one (x:=x) (by omega))
 omega
end
end Go.EL

namespace Go.EL
open Go.IntKind (i8 i16 i32 i64 u8 u16 u32 u64)
open Go Go.EL Go.RowKit
theorem Zli(k:Nat):(4294967296:Int) ^ k=2 ^ (32*k):=by rw[Int.pow_mul]; rfl
theorem Zj7{a:List Int}(h:Wd a)(hl:a.length<=2):(Zbr a).Ret (nv a):=by
 have key:=Cq.ZQ (step:=fun gs:Int×Int=>match gs with|(m2,v7_1)=>if v7_1<(a.length:Int) then (Cq.at' a v7_1 fun x1=>Cq.chk (0<=(i64.wrap (32*v7_1))) (Cq.ret (.inl (u64.wrap (BitVec.ofInt u64.bits m2 ||| BitVec.ofInt u64.bits (u64.wrap ((u64.wrap x1)*2 ^ (min (i64.wrap (32*v7_1)).toNat u64.bits)))).toNat,i64.wrap (v7_1+1))))) else (Cq.ret (.inr m2)))
  (Φ:=fun o:Int=>o=nv a) a.length (fun k s=>s=(nv (a.take k),(k:Int)))
  (fun k s hk hs=>by
   subst hs
   have x1:=h.get hk
   have hw:=h.take k
   have l1:=ZaR hw
   have l0:=Zz hw
   rw[List.length_take,Nat.min_eq_left (by omega)] at l1
   have e32:i64.wrap (32*(k:Int))=((32*k:Nat):Int):=by rw[wrap64 (by omega)]; omega
   have hb:a[k]*2 ^ (32*k)+nv (a.take k)<18446744073709551616:=by
    rw[Zli] at l1
    have:a[k]*2 ^ (32*k)<=4294967295*2 ^ (32*k):=Int.mul_le_mul_of_nonneg_right (by omega) (Int.le_of_lt (two_pos _))
    have:(2:Int) ^ (32*k)<=2 ^ 32:=Zjj (by omega)
    omega
   have hn:=Int.mul_nonneg x1.1 (Int.le_of_lt (two_pos (32*k)))
   refine⟨_,Cq.wp.yes (by omega) ⟨_,idxN hk,by rw[e32]; omega,?_⟩,rfl⟩
   show Sum.inl _=Sum.inl _
   have em:min ((32*k:Nat):Int).toNat u64.bits=32*k:=by rw[Int.toNat_natCast]; exact Nat.min_eq_left (by show 32*k<=64; omega)
   have eo:=Zle (s:=32*k) x1.1 ⟨l0,by rw[<- Zli]; exact l1⟩ hb
   rw[e32,em,Zh (x:=a[k]) (by omega),Zh (x:=a[k]*2 ^ (32*k)) (by omega),wrapN (by omega)]
   show Sum.inl (u64.wrap ((BitVec.ofInt 64 (nv (a.take k)) ||| BitVec.ofInt 64 (a[k]*2 ^ (32*k))).toNat:Int),_)=_
   rw[BitVec.or_comm,eo,Zh (by omega),Zl hk,Zli,Int.mul_comm (a[k]),Int.add_comm])
  (fun s hs=>by
   subst hs
   rw[List.take_length]
   exact⟨_,Cq.wp.no (by omega) rfl,rfl⟩)
  (s:=(0,0)) (by simp[ZN])
 obtain⟨m,h1,rfl⟩:=key
 exact Cq.nextR h1 rfl
theorem Zi7{a:List Int}(h:Wd a)(hl:a.length<=2):(Zcs a).Ret (nv a):=by
 have h0:=ZdA h 0
 have h1:=ZdA h 1
 refine⟨_,ZcL h 1,_,ZcL h 0,?_⟩
 show _=_
 have e0:=Zdu a 0
 have e1:=Zdu a 1
 rw[List.take_of_length_le (by omega)] at e1
 rw[List.take_zero,ZN,Int.pow_zero] at e0
 rw[Zh (x:=wordF a 1*4294967296) (by omega),Zh (by omega),e1,e0]
 rw[Int.pow_one]; omega
theorem Zf1:∀ (f m n:Nat),n<=f->(Za7 ((m:Int),(n:Int))).Ret ((Nat.gcd m n:Nat):Int)
 | 0,m,n,h=>by
  obtain rfl:n=0:=by omega
  exact Cq.Zm (Cq.wp.no (by decide) (by show (m:Int)=_; rw[Nat.gcd_zero_right]))
 | f+1,m,n,h=>by
  by_cases hn:n=0
  .subst hn
   exact Cq.Zm (Cq.wp.no (by decide) (by show (m:Int)=_; rw[Nat.gcd_zero_right]))
  refine Cq.Zm (Cq.wp.yes (by omega) ⟨by omega,?_⟩)
  show (Za7 ((n:Int),Int.tmod (m:Int) (n:Int))).Ret _
  rw[tmodP (by omega),<- Int.natCast_emod,Nat.gcd_comm m n,Nat.gcd_rec n m,Nat.gcd_comm]
  have:=Nat.mod_lt m (show 0<n by omega)
  exact Zf1 f n (m % n) (by omega)
theorem ZmB(p:Int×Int):Zeu p=Za7 p:=rfl
theorem ZoF:∀ (f:Nat) (x y:List Int) (bx:Zb) (m n:Nat),n<=f->Mg x (m:Int)->Mg y (n:Int)->x.length<=700000->y.length<=700000->∃ o,(Zci (x,y,bx)).Ret o/\∃ r,(match o with | .inl rv1=>Cq.ret rv1 | .inr (x1,_)=>Zcj x1:Cq Zb).Ret r/\In r ((Nat.gcd m n:Nat):Int):=by
 intro f
 induction f with
 | zero=>
  intro x y bx m n hn hx hy lx ly
  obtain rfl:n=0:=by omega
  have:=hy.zero
  subst this
  obtain⟨r,r1,r2⟩:=Zau false hx (by omega)
  rw[if_neg (by decide)] at r2
  exact⟨.inr (x,bx),Cq.Zm (Cq.wp.no (by decide) rfl),r,⟨r,r1,rfl⟩,by rw[Nat.gcd_zero_right]; exact r2⟩
 | succ f ih=>
  intro x y bx m n hn hx hy lx ly
  by_cases h0:n=0
  .subst h0
   have:=hy.zero
   subst this
   obtain⟨r,r1,r2⟩:=Zau false hx (by omega)
   rw[if_neg (by decide)] at r2
   exact⟨.inr (x,bx),Cq.Zm (Cq.wp.no (by decide) rfl),r,⟨r,r1,rfl⟩,by rw[Nat.gcd_zero_right]; exact r2⟩
  have ly0:=hy.pos (by omega)
  have small:∀ (h1:x.length<=2) (h2:y.length<=2),∃ r,(ZaC x y bx true).Ret (.inr (.inl r))/\In r ((Nat.gcd m n:Nat):Int):=by
   intro h1 h2
   have v1:=Zj7 hx.wd h1
   have v2:=Zj7 hy.wd h2
   rw[hx.val] at v1
   rw[hy.val] at v2
   have b1:=Int.lt_of_lt_of_le hx.lt (ZdH h1)
   have b2:=Int.lt_of_lt_of_le hy.lt (ZdH h2)
   have hg:=Nat.gcd_le_right m (show 0<n by omega)
   obtain⟨w,w1,w2⟩:=Ze8 (m:=((Nat.gcd m n:Nat):Int)) ⟨by omega,by have:(4294967296:Int) ^ 2=18446744073709551616:=rfl; omega⟩
   obtain⟨r,r1,r2⟩:=Zau false w2 (by have:=w2.len (k:=2) (by omega); omega)
   rw[if_neg (by decide)] at r2
   exact⟨r,Cq.wp.yes rfl ⟨_,v1,_,v2,Cq.nextR (Zf1 n m n (Nat.le_refl _)) ⟨w,w1,r,r1,rfl⟩⟩,r2⟩
  have big:∃ r,(ZaD x y).Ret r/\Mg r.2 ((m % n:Nat):Int):=by
   obtain⟨q,r,h1,_,h3⟩:=ZiK hx hy (by omega) (by omega) (by omega)
   rw[<- Int.natCast_emod] at h3
   exact⟨(q,r),h1,h3⟩
  have go:∀ v:Bool,v=false->∃ o,(ZaC x y bx v).wp (Out (fun s=>(Zci s).Ret o) (fun z=>z=o))/\∃ r,(match o with | .inl rv1=>Cq.ret rv1 | .inr (x1,_)=>Zcj x1:Cq Zb).Ret r/\In r ((Nat.gcd m n:Nat):Int):=by
   rintro v rfl
   obtain⟨⟨q,r⟩,b1,b2⟩:=big
   have hlt:=Nat.mod_lt m (show 0<n by omega)
   have lr:r.length<=y.length:=b2.len (by have:=hy.lt; omega)
   obtain⟨o,o1,o2⟩:=ih y r bx n (m % n) (by omega) hy b2 ly (by omega)
   rw[Nat.gcd_comm n (m % n),<- Nat.gcd_rec n m,Nat.gcd_comm n m] at o2
   exact⟨o,Cq.wp.no (by decide) ⟨_,b1,o1⟩,o2⟩
  by_cases c1:(x.length:Int)<=2
  .by_cases c2:(y.length:Int)<=2
   .obtain⟨r,r1,r2⟩:=small (by omega) (by omega)
    refine⟨.inl r,Cq.Zm (Cq.wp.yes (by omega) (Cq.wp.yes c1 ?_)),r,rfl,r2⟩
    rw[decide_eq_true c2]
    exact Cq.mono _ (fun o (e:o=_)=>by rw[e]; rfl) r1
   obtain⟨o,o1,o2⟩:=go (decide ((y.length:Int)<=2)) (decide_eq_false c2)
   exact⟨o,Cq.Zm (Cq.wp.yes (by omega) (Cq.wp.yes c1 o1)),o2⟩
  obtain⟨o,o1,o2⟩:=go false rfl
  exact⟨o,Cq.Zm (Cq.wp.yes (by omega) (Cq.wp.no c1 o1)),o2⟩
section
variable {a b:Zb}{x y:Int}{j k:Nat}
theorem Zqj(ha:In a x)(hb:In b y)(bx:Bd j x)(bY:Bd k y)(hj:j<=100000)(hk:k<=100000):∃ r,(Zds a b).Ret r/\In r ((Int.gcd x y:Nat):Int):=by
 have la:=ha.len bx
 have lb:=hb.len bY
 obtain⟨o,o1,r,r1,r2⟩:=ZoF _ a.mag b.mag ⟨false,[]⟩ x.natAbs y.natAbs (Nat.le_refl _) ha.mg hb.mg (by omega) (by omega)
 refine⟨r,⟨_,Zdz ha.mg (by omega),_,ZgN (by omega),_,Zdz hb.mg (by omega),_,ZgN (by omega),Cq.nextR o1 ?_⟩,r2⟩
 cases o <;> exact r1
theorem Znf:∀ (f:Nat) (x y:List Int) (m n:Nat),n<=f->Mg x (m:Int)->Mg y (n:Int)->x.length<=200000->y.length<=200000->∃ o,(ZcD (x,y)).Ret o/\∃ r,(match o with | .inl rv1=>Cq.ret rv1 | .inr a2=>ZcE a2:Cq (List Int)).Ret r/\Mg r ((Nat.gcd m n:Nat):Int):=by
 intro f
 induction f with
 | zero=>
  intro x y m n hn hx hy lx ly
  obtain rfl:n=0:=by omega
  have:=hy.zero
  subst this
  exact⟨.inr x,Cq.Zm (Cq.wp.no (by decide) rfl),x,rfl,by rw[Nat.gcd_zero_right]; exact hx⟩
 | succ f ih=>
  intro x y m n hn hx hy lx ly
  by_cases h0:n=0
  .subst h0
   have:=hy.zero
   subst this
   exact⟨.inr x,Cq.Zm (Cq.wp.no (by decide) rfl),x,rfl,by rw[Nat.gcd_zero_right]; exact hx⟩
  have ly0:=hy.pos (by omega)
  have small:∀ (h1:x.length<=2) (h2:y.length<=2),∃ r,(ZaM x y true).Ret (.inr (.inl r))/\Mg r ((Nat.gcd m n:Nat):Int):=by
   intro h1 h2
   have v1:=Zi7 hx.wd h1
   have v2:=Zi7 hy.wd h2
   rw[hx.val] at v1
   rw[hy.val] at v2
   have b1:=Int.lt_of_lt_of_le hx.lt (ZdH h1)
   have b2:=Int.lt_of_lt_of_le hy.lt (ZdH h2)
   have hg:=Nat.gcd_le_right m (show 0<n by omega)
   obtain⟨w,w1,w2⟩:=ZcX (m:=((Nat.gcd m n:Nat):Int)) ⟨by omega,by have:(4294967296:Int) ^ 2=18446744073709551616:=rfl; omega⟩
   have he:(Zd4 (m:Int) (n:Int)).Ret ((Nat.gcd m n:Nat):Int):=Cq.nextR (by rw[ZmB]; exact Zf1 n m n (Nat.le_refl _)) rfl
   exact⟨w,Cq.wp.yes rfl ⟨_,v1,_,v2,_,he,w,w1,rfl⟩,w2⟩
  have big:∃ r,(Zbe x y).Ret r/\Mg r.2 ((m % n:Nat):Int):=by
   obtain⟨q,r,h1,_,h3⟩:=ZgI hx hy (by omega) (by omega) (by omega)
   rw[<- Int.natCast_emod] at h3
   exact⟨(q,r),h1,h3⟩
  have go:∀ v:Bool,v=false->∃ o,(ZaM x y v).wp (Out (fun s=>(ZcD s).Ret o) (fun z=>z=o))/\∃ r,(match o with | .inl rv1=>Cq.ret rv1 | .inr a2=>ZcE a2:Cq (List Int)).Ret r/\Mg r ((Nat.gcd m n:Nat):Int):=by
   rintro v rfl
   obtain⟨⟨q,r⟩,b1,b2⟩:=big
   have hlt:=Nat.mod_lt m (show 0<n by omega)
   have lr:r.length<=y.length:=b2.len (by have:=hy.lt; omega)
   obtain⟨o,o1,o2⟩:=ih y r n (m % n) (by omega) hy b2 ly (by omega)
   rw[Nat.gcd_comm n (m % n),<- Nat.gcd_rec n m,Nat.gcd_comm n m] at o2
   exact⟨o,Cq.wp.no (by decide) ⟨_,b1,o1⟩,o2⟩
  by_cases c1:(x.length:Int)<=2
  .by_cases c2:(y.length:Int)<=2
   .obtain⟨r,r1,r2⟩:=small (by omega) (by omega)
    refine⟨.inl r,Cq.Zm (Cq.wp.yes (by omega) (Cq.wp.yes c1 ?_)),r,rfl,r2⟩
    rw[decide_eq_true c2]
    exact Cq.mono _ (fun o (e:o=_)=>by rw[e]; rfl) r1
   obtain⟨o,o1,o2⟩:=go (decide ((y.length:Int)<=2)) (decide_eq_false c2)
   exact⟨o,Cq.Zm (Cq.wp.yes (by omega) (Cq.wp.yes c1 o1)),o2⟩
  obtain⟨o,o1,o2⟩:=go false rfl
  exact⟨o,Cq.Zm (Cq.wp.yes (by omega) (Cq.wp.no c1 o1)),o2⟩
theorem Zpr(ha:In a x)(hb:In b y)(bx:Bd j x)(bY:Bd k y)(hj:j<=100000)(hk:k<=100000):∃ r,(Zf9 a b).Ret r/\In r ((Int.gcd x y:Nat):Int):=by
 have la:=ha.len bx
 have lb:=hb.len bY
 obtain⟨o,o1,l,r1,r2⟩:=Znf _ a.mag b.mag x.natAbs y.natAbs (Nat.le_refl _) ha.mg hb.mg (by omega) (by omega)
 have hc:(Zd3 a.mag b.mag).Ret l:=Cq.nextR o1 (by cases o <;> exact r1)
 have hl:l.length<=300000:=by
  rcases Nat.eq_zero_or_pos y.natAbs with e|e
  .rw[e,Nat.gcd_zero_right] at r2
   have:=r2.len bx
   omega
  have:=r2.len (k:=k) (by have:=Nat.gcd_le_right x.natAbs e; unfold Bd at bY; omega)
  omega
 obtain⟨r,r3,r4⟩:=ZbF false r2 (by omega)
 rw[if_neg (by decide)] at r4
 exact⟨r,⟨_,hc,r,r3,rfl⟩,r4⟩
end
theorem Zl9{p q:Int}(h:0<q):0<((Int.gcd p q:Nat):Int):=by
 have:0<Int.gcd p q:=Nat.gcd_pos_of_pos_right _ (by omega)
 omega
theorem Zfo{p g:Int}(hg:0<g)(hd:p % g=0):(p / g).natAbs<=p.natAbs:=by
 obtain⟨c,rfl⟩:=Int.dvd_of_emod_eq_zero hd
 rw[Int.mul_ediv_cancel_left _ (by omega),Int.natAbs_mul]
 exact Nat.le_mul_of_pos_left _ (by omega)
structure Low (p q p' q':Int):Prop where
 pos:0<q'
 eq:p'*q=p*q'
 pl:p'.natAbs<=p.natAbs
 ql:q'<=q
theorem Low.self{p q:Int}(h:0<q):Low p q p q:=⟨h,rfl,Nat.le_refl _,Int.le_refl _⟩
theorem ZpQ{p q:Int}(hq:0<q):p % ((Int.gcd p q:Nat):Int)=0/\q % ((Int.gcd p q:Nat):Int)=0/\Low p q (p / ((Int.gcd p q:Nat):Int)) (q / ((Int.gcd p q:Nat):Int)):=by
 have hg:=Zl9 (p:=p) hq
 have d1:((Int.gcd p q:Nat):Int) ∣ p:=Int.gcd_dvd_left ..
 have d2:((Int.gcd p q:Nat):Int) ∣ q:=Int.gcd_dvd_right ..
 generalize ((Int.gcd p q:Nat):Int)=g at hg d1 d2
 have e1:=Int.emod_eq_zero_of_dvd d1
 have e2:=Int.emod_eq_zero_of_dvd d2
 refine⟨e1,e2,?_,?_,Zfo hg e1,?_⟩
 .obtain⟨c,rfl⟩:=d2
  rw[Int.mul_ediv_cancel_left _ (by omega)]
  exact Int.pos_of_mul_pos_right hq hg
 .obtain⟨c,rfl⟩:=d2
  obtain⟨d,rfl⟩:=d1
  rw[Int.mul_ediv_cancel_left _ (by omega),Int.mul_ediv_cancel_left _ (by omega)]
  grind
 have:=Zfo hg e2
 have:=Int.ediv_nonneg (show 0<=q by omega) (show 0<=g by omega)
 omega
section
variable {a b:Zb}{p q:Int}{j k:Nat}
theorem Zg6(ha:In a p)(hb:In b q)(hq:0<q)(bp:Bd j p)(bq:Bd k q)(hj:j<=100000)(hk:k<=100000):∃ r p' q',(Zas a b).Ret r/\In r.num p'/\In r.den q'/\Low p q p' q':=by
 by_cases c1:q=1
 .exact⟨⟨a,b⟩,p,q,⟨_,Zal hb,Cq.wp.yes (decide_eq_true c1) rfl⟩,ha,hb,Low.self hq⟩
 obtain⟨g,g1,g2⟩:=Zqj ha hb bp bq hj hk
 by_cases c2:((Int.gcd p q:Nat):Int)=1
 .exact⟨⟨a,b⟩,p,q,⟨_,Zal hb,Cq.wp.no (by rw[decide_eq_false c1]; decide) ⟨_,g1,_,Zal g2,Cq.wp.yes (decide_eq_true c2) rfl⟩⟩,ha,hb,Low.self hq⟩
 obtain⟨e1,e2,hl⟩:=ZpQ (p:=p) hq
 have hg:=Zl9 (p:=p) hq
 have bg:Bd k ((Int.gcd p q:Nat):Int):=bq.le (by
  have:=Nat.gcd_le_right p.natAbs (show 0<q.natAbs by omega)
  show (((Int.gcd p q:Nat):Int)).natAbs<=_
  rw[Int.natAbs_natCast]; exact this)
 obtain⟨x,⟨x2,x3,x1⟩,x4⟩:=Znp ha g2 (by omega) e1 bp bg hj hk
 obtain⟨y,⟨y2,y3,y1⟩,y4⟩:=Znp hb g2 (by omega) e2 bq bg hk hk
 exact⟨⟨x,y⟩,_,_,⟨_,Zal hb,Cq.wp.no (by rw[decide_eq_false c1]; decide) ⟨_,g1,_,Zal g2,Cq.wp.no (by rw[decide_eq_false c2]; decide) ⟨_,x1,_,y1,rfl⟩⟩⟩,x4,y4,hl⟩
theorem ZiE(ha:In a p)(hb:In b q)(hq:q≠0)(bp:Bd j p)(bq:Bd k q)(hj:j<=100000)(hk:k<=100000):∃ r p' q',(Zct a b).Ret r/\In r.num p'/\In r.den q'/\0<q'/\Bd j p'/\Bd k q':=by
 obtain⟨g,g1,g2⟩:=Zpr ha hb bp bq hj hk
 have hg:0<((Int.gcd p q:Nat):Int):=by
  have:0<Int.gcd p q:=Nat.gcd_pos_of_pos_right _ (by omega)
  omega
 have d1:((Int.gcd p q:Nat):Int) ∣ p:=Int.gcd_dvd_left ..
 have d2:((Int.gcd p q:Nat):Int) ∣ q:=Int.gcd_dvd_right ..
 have bg:Bd k ((Int.gcd p q:Nat):Int):=bq.le (by
  have:=Nat.gcd_le_right p.natAbs (show 0<q.natAbs by omega)
  show (((Int.gcd p q:Nat):Int)).natAbs<=_
  rw[Int.natAbs_natCast]; exact this)
 generalize ((Int.gcd p q:Nat):Int)=G at g2 hg d1 d2 bg
 have e1:=Int.emod_eq_zero_of_dvd d1
 have e2:=Int.emod_eq_zero_of_dvd d2
 by_cases c:q<0
 .obtain⟨n,n1,n2⟩:=Zps g2 bg hk
  have f1:p % (-G)=0:=Int.emod_eq_zero_of_dvd (Int.neg_dvd.2 d1)
  have f2:q % (-G)=0:=Int.emod_eq_zero_of_dvd (Int.neg_dvd.2 d2)
  obtain⟨x,x1,x2⟩:=ZeS ha n2 (by omega) f1 bp bg.neg hj hk
  obtain⟨y,y1,y2⟩:=ZeS hb n2 (by omega) f2 bq bg.neg hk hk
  refine⟨⟨x,y⟩,_,_,⟨_,g1,_,Zid hb,Cq.wp.yes (by rw[if_neg (by omega),if_pos c]; decide) ⟨_,n1,_,x1,_,y1,rfl⟩⟩,x2,y2,?_,bp.le ?_,bq.le ?_⟩
  .obtain⟨z,rfl⟩:=d2
   rw[Int.ediv_neg,Int.mul_ediv_cancel_left _ (by omega)]
   have:=Int.neg_of_mul_neg_right c (by omega)
   omega
  .rw[Int.ediv_neg,Int.natAbs_neg]; exact Zfo hg e1
  rw[Int.ediv_neg,Int.natAbs_neg]; exact Zfo hg e2
 obtain⟨x,x1,x2⟩:=ZeS ha g2 (by omega) e1 bp bg hj hk
 obtain⟨y,y1,y2⟩:=ZeS hb g2 (by omega) e2 bq bg hk hk
 refine⟨⟨x,y⟩,_,_,⟨_,g1,_,Zid hb,Cq.wp.no (by rw[if_neg (by omega),if_neg c]; decide) ⟨_,x1,_,y1,rfl⟩⟩,x2,y2,?_,bp.le (Zfo hg e1),bq.le (Zfo hg e2)⟩
 obtain⟨z,rfl⟩:=d2
 rw[Int.mul_ediv_cancel_left _ (by omega)]
 exact Int.pos_of_mul_pos_right (show 0<G*z by omega) hg
end
end Go.EL

namespace Go.EL
open Go.IntKind (i8 i16 i32 i64 u8 u16 u32 u64)
open Go Go.EL Go.RowKit
theorem Zmq{n:Int}(h:-9223372036854775808<=n/\n<=9223372036854775807):∃ r,(ZbA n).Ret r/\In r n:=by
 by_cases c:n<0
 .have e:u64.wrap (0-u64.wrap n) = -n:=by rw[u64w,u64w]; omega
  obtain⟨w,w1,w2⟩:=Ze8 (m:=-n) (by omega)
  have lw:=w2.len (k:=2) (by have:(4294967296:Int) ^ 2=18446744073709551616:=rfl; omega)
  obtain⟨r,r1,r2⟩:=Zau (decide (n<0)) w2 (by omega)
  rw[decide_eq_true c,if_pos rfl,Int.neg_neg] at r2
  refine⟨r,Cq.wp.yes c ?_,r2⟩
  rw[e]; exact⟨w,w1,r,r1,rfl⟩
 obtain⟨w,w1,w2⟩:=Ze8 (m:=n) (by omega)
 have lw:=w2.len (k:=2) (by have:(4294967296:Int) ^ 2=18446744073709551616:=rfl; omega)
 obtain⟨r,r1,r2⟩:=Zau (decide (n<0)) w2 (by omega)
 rw[decide_eq_false c,if_neg (by decide)] at r2
 refine⟨r,Cq.wp.no c ?_,r2⟩
 rw[Zh (by omega)]; exact⟨w,w1,r,r1,rfl⟩
theorem Zen{n:Int}(h:-9223372036854775808<=n/\n<=9223372036854775807):∃ r,(ZaW n).Ret r/\In r n:=by
 by_cases c:n<0
 .have e:u64.wrap ((u64.wrap (i64.wrap (0-(i64.wrap (n+1)))))+1) = -n:=by
   rw[wrap64 (x:=n+1) (by omega),wrap64 (by omega),Zh (x:=0-(n+1)) (by omega),Zh (by omega)]; omega
  obtain⟨w,w1,w2⟩:=ZcX (m:=-n) (by omega)
  have lw:=w2.len (k:=2) (by have:(4294967296:Int) ^ 2=18446744073709551616:=rfl; omega)
  obtain⟨r,r1,r2⟩:=ZbF true w2 (by omega)
  rw[if_pos rfl,Int.neg_neg] at r2
  refine⟨r,Cq.wp.yes c ?_,r2⟩
  rw[e]; exact⟨w,w1,r,r1,rfl⟩
 obtain⟨w,w1,w2⟩:=ZcX (m:=n) (by omega)
 have lw:=w2.len (k:=2) (by have:(4294967296:Int) ^ 2=18446744073709551616:=rfl; omega)
 obtain⟨r,r1,r2⟩:=ZbF false w2 (by omega)
 rw[if_neg (by decide)] at r2
 refine⟨r,Cq.wp.no c ?_,r2⟩
 rw[Zh (by omega)]; exact⟨w,w1,r,r1,rfl⟩
theorem Zda{a b:Zb}{x y:Int}{j k:Nat}(ha:In a x)(hb:In b y)(bx:Bd j x)(bY:Bd k y)(hj:j<=90000)(hk:k<=100000):∃ r,(ZW [a,b]).Ret r/\In r (x*y):=by
 obtain⟨o,o1,o2⟩:=Zmq (n:=1) (by decide)
 have w1:i64.wrap (0+1)=1:=rfl
 have w2:i64.wrap (1+1)=2:=rfl
 have two:∀ r z,In r z->Bd (j+1) z->∃ s,(ZK [a,b] (1,r)).Ret s/\In s (z*y):=by
  intro r z hr bz
  by_cases c:y=1
  .refine⟨r,Cq.Zm (Cq.wp.yes (show (1:Int)<((2:Nat):Int) by decide) ⟨b,⟨by decide,rfl⟩,_,Zal hb,Cq.wp.yes (decide_eq_true c) ?_⟩),by rw[c,Int.mul_one]; exact hr⟩
   show (ZK [a,b] (i64.wrap (1+1),r)).Ret r
   rw[w2]
   exact Cq.Zm (Cq.wp.no (show ¬ (2:Int)<((2:Nat):Int) by decide) rfl)
  by_cases c2:z=1
  .refine⟨b,Cq.Zm (Cq.wp.yes (show (1:Int)<((2:Nat):Int) by decide) ⟨b,⟨by decide,rfl⟩,_,Zal hb,Cq.wp.no (by rw[decide_eq_false c]; decide) ⟨_,Zal hr,Cq.wp.yes (decide_eq_true c2) ?_⟩⟩),by rw[c2,Int.one_mul]; exact hb⟩
   show (ZK [a,b] (i64.wrap (1+1),b)).Ret b
   rw[w2]
   exact Cq.Zm (Cq.wp.no (show ¬ (2:Int)<((2:Nat):Int) by decide) rfl)
  obtain⟨s,s1,s2⟩:=Zql hr hb bz bY (by omega) hk
  refine⟨s,Cq.Zm (Cq.wp.yes (show (1:Int)<((2:Nat):Int) by decide) ⟨b,⟨by decide,rfl⟩,_,Zal hb,Cq.wp.no (by rw[decide_eq_false c]; decide) ⟨_,Zal hr,Cq.wp.no (by rw[decide_eq_false c2]; decide) ⟨_,s1,?_⟩⟩⟩),s2⟩
  show (ZK [a,b] (i64.wrap (1+1),s)).Ret s
  rw[w2]
  exact Cq.Zm (Cq.wp.no (show ¬ (2:Int)<((2:Nat):Int) by decide) rfl)
 have b1:Bd (j+1) 1:=Bd.up (j:=1) (Bd.one (by decide)) (by omega)
 by_cases c:x=1
 .obtain⟨s,s1,s2⟩:=two o 1 o2 b1
  refine⟨s,⟨o,o1,Cq.nextR (r:=s) (Cq.Zm (Cq.wp.yes (show (0:Int)<((2:Nat):Int) by decide) ⟨a,⟨by decide,rfl⟩,_,Zal ha,Cq.wp.yes (decide_eq_true c) ?_⟩)) rfl⟩,by rw[c]; exact s2⟩
  show (ZK [a,b] (i64.wrap (0+1),o)).Ret s
  rw[w1]; exact s1
 obtain⟨s,s1,s2⟩:=two a x ha (bx.up (by omega))
 refine⟨s,⟨o,o1,Cq.nextR (r:=s) (Cq.Zm (Cq.wp.yes (show (0:Int)<((2:Nat):Int) by decide) ⟨a,⟨by decide,rfl⟩,_,Zal ha,Cq.wp.no (by rw[decide_eq_false c]; decide) ⟨_,Zal o2,Cq.wp.yes (decide_eq_true rfl) ?_⟩⟩)) rfl⟩,s2⟩
 show (ZK [a,b] (i64.wrap (0+1),a)).Ret s
 rw[w1]; exact s1
structure RVq (r:Zc) (x:Rat) (k:Nat):Prop where
 ex:∃ p q:Int,In r.num p/\In r.den q/\0<q/\x=(p:Rat) / (q:Rat)/\Bd k p/\Bd k q
theorem RVq.up{r:Zc}{x:Rat}{j k:Nat}(h:RVq r x j)(hk:j<=k):RVq r x k:=by
 obtain⟨p,q,h1,h2,h3,h4,h5,h6⟩:=h.ex
 exact⟨p,q,h1,h2,h3,h4,h5.up hk,h6.up hk⟩
theorem Zb4{q:Int}(h:0<q):(q:Rat)≠0:=fun e=>by
 have:=Rat.intCast_eq_zero_iff.1 e
 omega
theorem ZjA{p q p' q':Int}(h:Low p q p' q')(hq:0<q):(p':Rat) / (q':Rat)=(p:Rat) / (q:Rat):=by
 have h1:=Zb4 hq
 have h2:=Zb4 h.pos
 have e:((p'*q:Int):Rat)=((p*q':Int):Rat):=by rw[h.eq]
 rw[Rat.intCast_mul,Rat.intCast_mul] at e
 grind
theorem Low.bd{p q p' q':Int}{j k:Nat}(h:Low p q p' q')(bp:Bd j p)(bq:Bd k q):Bd j p'/\Bd k q':=⟨bp.le h.pl,bq.le (by have:=h.ql; have:=h.pos; omega)⟩
theorem ZpZ{a b:Zc}{x y:Rat}{j k:Nat}(ha:RVq a x j)(hb:RVq b y k)(hj:j<=20000)(hk:k<=20000):∃ r,(Zc5 a b).Ret r/\RVq r (x+y) (j+k+1):=by
 obtain⟨p1,q1,h1,h2,h3,h4,h5,h6⟩:=ha.ex
 obtain⟨p2,q2,g1,g2,g3,g4,g5,g6⟩:=hb.ex
 obtain⟨u,u1,u2⟩:=Zda h1 g2 h5 g6 (by omega) (by omega)
 obtain⟨v,v1,v2⟩:=Zda g1 h2 g5 h6 (by omega) (by omega)
 have bu:Bd (j+k) (p1*q2):=h5.mul g6
 have bv:Bd (j+k) (p2*q1):=by have:=g5.mul h6; rwa [Nat.add_comm] at this
 obtain⟨s,s1,s2⟩:=Zqb u2 v2 bu bv (by omega)
 obtain⟨w,w1,w2⟩:=Zda h2 g2 h6 g6 (by omega) (by omega)
 have hq:0<q1*q2:=Int.mul_pos h3 g3
 obtain⟨r,p',q',r1,r2,r3,r4⟩:=Zg6 s2 w2 hq (bu.add bv) (h6.mul g6) (by omega) (by omega)
 obtain⟨l1,l2⟩:=r4.bd (bu.add bv) (h6.mul g6)
 refine⟨r,⟨_,u1,_,v1,_,s1,_,w1,_,r1,rfl⟩,⟨p',q',r2,r3,r4.pos,?_,l1,l2.up (by omega)⟩⟩
 rw[ZjA r4 hq,h4,g4,Rat.intCast_add,Rat.intCast_mul,Rat.intCast_mul,Rat.intCast_mul]
 have:=Zb4 h3
 have:=Zb4 g3
 grind
theorem Zhz{a b:Zc}{x y:Rat}{j k:Nat}(ha:RVq a x j)(hb:RVq b y k)(hj:j<=20000)(hk:k<=20000):∃ r,(Zag a b).Ret r/\RVq r (x*y) (j+k):=by
 obtain⟨p1,q1,h1,h2,h3,h4,h5,h6⟩:=ha.ex
 obtain⟨p2,q2,g1,g2,g3,g4,g5,g6⟩:=hb.ex
 obtain⟨l,p3,q3,l1,l2,l3,l4⟩:=Zg6 h1 g2 g3 h5 g6 (by omega) (by omega)
 obtain⟨m,p4,q4,m1,m2,m3,m4⟩:=Zg6 g1 h2 h3 g5 h6 (by omega) (by omega)
 obtain⟨lb,lc⟩:=l4.bd h5 g6
 obtain⟨mb,mc⟩:=m4.bd g5 h6
 obtain⟨u,u1,u2⟩:=Zda l2 m2 lb mb (by omega) (by omega)
 obtain⟨v,v1,v2⟩:=Zda l3 m3 lc mc (by omega) (by omega)
 refine⟨⟨u,v⟩,⟨_,l1,_,m1,_,u1,_,v1,rfl⟩,⟨p3*p4,q3*q4,u2,v2,Int.mul_pos l4.pos m4.pos,?_,lb.mul mb,by have:=lc.mul mc; rwa [Nat.add_comm] at this⟩⟩
 have e1:=ZjA l4 g3
 have e2:=ZjA m4 h3
 have n1:=Zb4 h3
 have n2:=Zb4 g3
 have n3:=Zb4 l4.pos
 have n4:=Zb4 m4.pos
 rw[h4,g4,Rat.intCast_mul,Rat.intCast_mul]
 grind
theorem Zmk{r:Zc}{x:Rat}{k:Nat}(h:RVq r x k):∃ s,(ZbG r).Ret s/\(s=0↔x=0):=by
 obtain⟨p,q,h1,h2,h3,h4,h5,h6⟩:=h.ex
 refine⟨_,⟨_,Zid h1,rfl⟩,?_⟩
 have n:=Zb4 h3
 have:x=0↔p=0:=by
  constructor
  .intro e
   refine Rat.intCast_eq_zero_iff.1 ?_
   grind
  intro e
  rw[h4,e]
  grind
 rw[this]
 by_cases c:p=0
 .rw[if_pos c]; exact⟨fun _=>c,fun _=>rfl⟩
 rw[if_neg c]
 refine⟨fun e=>?_,fun e=>absurd e c⟩
 split at e <;> cases e
theorem ZnO{x:ZD}(hn:-128<=x.n/\x.n<=127)(hd:-128<=x.d/\x.d<=127)(hk:0<=x.k/\x.k<=255):∃ r v,(Zfg x).Ret r/\RVq r v 9:=by
 obtain⟨n,n1,n2⟩:=Zen (n:=i64.wrap x.n) (by rw[wrap64 (by omega)]; omega)
 obtain⟨d,d1,d2⟩:=Zen (n:=i64.wrap x.d) (by rw[wrap64 (by omega)]; omega)
 obtain⟨o,o1,o2⟩:=Zen (n:=1) (by decide)
 have ek:i64.wrap (4611686018427387904+(i64.wrap x.k))=4611686018427387904+x.k:=by rw[wrap64 (x:=x.k) (by omega),wrap64 (by omega)]
 obtain⟨g,g1,g2⟩:=Zen (n:=i64.wrap (4611686018427387904+(i64.wrap x.k))) (by rw[ek]; omega)
 obtain⟨kk,k1,k2⟩:=Zen (n:=i64.wrap x.k) (by rw[wrap64 (by omega)]; omega)
 rw[wrap64 (by omega)] at n2 d2 k2
 rw[ek] at g2
 have bn:Bd 1 x.n:=Bd.one (by omega)
 have bk:Bd 1 x.k:=Bd.one (by omega)
 have bg:Bd 2 (4611686018427387904+x.k):=by unfold Bd; have:(4294967296:Int) ^ 2=18446744073709551616:=rfl; omega
 have last:∀ e q,In e q->q≠0->Bd 1 q->∀ z w,In z w->Bd 8 w->∃ r v,(Zca x e g z).Ret r/\RVq r v 9:=by
  intro e q he hq bq z w hz bw
  by_cases c:Int.tmod x.k 8=6
  .obtain⟨a,a1,a2⟩:=Zhv he g2 bq bg (by decide) (by decide)
   have ba:=bq.mul bg
   obtain⟨b,b1,b2⟩:=Zhv a2 g2 ba bg (by decide) (by decide)
   have bb:=ba.mul bg
   have hz2:q*(4611686018427387904+x.k)*(4611686018427387904+x.k)≠0:=by
    have h1:=Int.mul_ne_zero hq (show 4611686018427387904+x.k≠0 by omega)
    exact Int.mul_ne_zero h1 (by omega)
   obtain⟨r,p',q',r1,r2,r3,r4,r5,r6⟩:=ZiE hz b2 hz2 bw bb (by decide) (by decide)
   exact⟨r,_,Cq.wp.yes c ⟨_,a1,_,b1,_,r1,rfl⟩,⟨p',q',r2,r3,r4,rfl,r5.up (by decide),r6.up (by decide)⟩⟩
  obtain⟨r,p',q',r1,r2,r3,r4,r5,r6⟩:=ZiE hz he hq bw bq (by decide) (by decide)
  exact⟨r,_,Cq.wp.no c ⟨_,r1,rfl⟩,⟨p',q',r2,r3,r4,rfl,r5.up (by decide),r6.up (by decide)⟩⟩
 have mid:∀ e q,In e q->q≠0->Bd 1 q->∃ r v,(Zcb x n e).Ret r/\RVq r v 9:=by
  intro e q he hq bq
  by_cases c:Int.tmod x.k 8=7
  .obtain⟨a,a1,a2⟩:=Zhv n2 g2 bn bg (by decide) (by decide)
   have ba:=bn.mul bg
   obtain⟨b,b1,b2⟩:=Zhv a2 g2 ba bg (by decide) (by decide)
   have bb:=ba.mul bg
   obtain⟨s,s1,s2⟩:=Zpq b2 k2 (bb.up (show 1+2+2<=7 by decide)) (bk.up (show 1<=7 by decide)) (by decide)
   obtain⟨r,v,r1,r2⟩:=last e q he hq bq s _ s2 ((bb.up (show 1+2+2<=7 by decide)).add (bk.up (show 1<=7 by decide)))
   exact⟨r,v,⟨_,g1,Cq.wp.yes c ⟨_,a1,_,b1,_,k1,_,s1,r1⟩⟩,r2⟩
  obtain⟨r,v,r1,r2⟩:=last e q he hq bq n _ n2 (bn.up (by decide))
  exact⟨r,v,⟨_,g1,Cq.wp.no c r1⟩,r2⟩
 by_cases c:x.d=0
 .obtain⟨r,v,r1,r2⟩:=mid o 1 o2 (by decide) (Bd.one (by decide))
  exact⟨r,v,⟨_,n1,_,d1,Cq.wp.yes c ⟨_,o1,r1⟩⟩,r2⟩
 obtain⟨r,v,r1,r2⟩:=mid d x.d d2 c (Bd.one (by omega))
 exact⟨r,v,⟨_,n1,_,d1,Cq.wp.no c r1⟩,r2⟩
end Go.EL

namespace Go.EL
open Go.IntKind (i8 i16 i32 i64 u8 u16 u32 u64)
open Go Go.EL Go.RowKit
theorem pow_two(w:Rat)(b:Nat):∀ m:Nat,w ^ (2*m+b)=w ^ b*(w*w) ^ m
 | 0=>by rw[Nat.mul_zero,Nat.zero_add,Rat.pow_zero,Rat.mul_one]
 | m+1=>by
  rw[show 2*(m+1)+b=2*m+b+1+1 by omega,Rat.pow_succ,Rat.pow_succ,pow_two w b m,Rat.pow_succ]
  grind
theorem Zm0:∀ (m n:Nat),n<=m->1<=n->n<=100000->∀ {r x:Zc}{v w:Rat}{j k:Nat},RVq r v j->RVq x w k->j+n*k<=20000->∃ r' x' v' w' j' k',(Zap ((n:Int),x,r)).Ret (x',r')/\RVq r' v' j'/\RVq x' w' k'/\v'*w'=v*w ^ n/\j'+k'<=j+n*k:=by
 intro m
 induction m with
 | zero=>intro n h1 h2; omega
 | succ m ih=>
  intro n h1 h2 h3 r x v w j k hr hx hb
  by_cases c:n=1
  .subst c
   exact⟨r,x,v,w,j,k,Cq.Zm (Cq.wp.no (show ¬ (1:Int)<((1:Nat):Int) by decide) rfl),hr,hx,by rw[Rat.pow_succ,Rat.pow_zero,Rat.one_mul],by omega⟩
  have hk:2*k<=n*k:=Nat.mul_le_mul_right k (by omega)
  obtain⟨y,y1,y2⟩:=Zhz hx hx (by omega) (by omega)
  have e2:i64.wrap (Int.tdiv (n:Int) 2)=((n / 2:Nat):Int):=by
   rw[Int.tdiv_eq_ediv_of_nonneg (by omega),wrap64 (by omega)]; omega
  have em:Int.tmod (n:Int) 2=((n % 2:Nat):Int):=by
   rw[Int.tmod_eq_emod_of_nonneg (by omega)]; omega
  have lt:(1:Int)<(n:Int):=by omega
  have ek:n*k=(n % 2)*k+(n / 2)*(k+k):=by
   have:=Nat.div_add_mod n 2
   calc n*k=(2*(n / 2)+n % 2)*k:=by rw[this]
    _=_:=by grind
  have ew:∀ b:Nat,n=2*(n / 2)+b->w ^ n=w ^ b*(w*w) ^ (n / 2):=fun b hb=>by
   rw[<- pow_two,<- hb]
  by_cases c2:n % 2=1
  .rw[c2,Nat.one_mul] at ek
   obtain⟨z,z1,z2⟩:=Zhz hr hx (by omega) (by omega)
   obtain⟨r',x',v',w',j',k',q1,q2,q3,q4,q5⟩:=ih (n / 2) (by omega) (by omega) (by omega) z2 y2 (by omega)
   refine⟨r',x',v',w',j',k',Cq.Zm (Cq.wp.yes lt (Cq.wp.yes (by rw[em,c2]; rfl) ⟨z,z1,y,y1,?_⟩)),q2,q3,?_,by omega⟩
   .show (Zap (_,y,z)).Ret _
    rw[e2]; exact q1
   rw[q4,ew 1 (by omega)]; grind
  have c3:n % 2=0:=by omega
  rw[c3,Nat.zero_mul,Nat.zero_add] at ek
  obtain⟨r',x',v',w',j',k',q1,q2,q3,q4,q5⟩:=ih (n / 2) (by omega) (by omega) (by omega) hr y2 (by omega)
  refine⟨r',x',v',w',j',k',Cq.Zm (Cq.wp.yes lt (Cq.wp.no (by rw[em,c3]; decide) ⟨y,y1,?_⟩)),q2,q3,?_,by omega⟩
  .show (Zap (_,y,r)).Ret _
   rw[e2]; exact q1
  rw[q4,ew 0 (by omega)]; grind
theorem Zlv{n:Int}(h:n.natAbs<4294967296):∃ r,(Za9 n).Ret r/\RVq r (n:Rat) 1:=by
 obtain⟨a,a1,a2⟩:=Zmq (n:=n) (by omega)
 obtain⟨b,b1,b2⟩:=Zmq (n:=1) (by decide)
 exact⟨_,⟨a,a1,_,⟨b,b1,rfl⟩,rfl⟩,n,1,a2,b2,by decide,by rw[Rat.intCast_one]; grind,Bd.one h,Bd.one (by decide)⟩
theorem Zo4{x:Zc}{w:Rat}{k n:Nat}(hx:RVq x w k)(h1:1<=n)(h2:n<=100000)(hb:1+n*k<=20000):∃ r,(ZbH x (n:Int)).Ret r/\RVq r (w ^ n) (1+n*k):=by
 obtain⟨o,o1,o2⟩:=Zlv (n:=1) (by decide)
 obtain⟨r',x',v',w',j',k',q1,q2,q3,q4,q5⟩:=Zm0 n n (by omega) h1 h2 o2 hx hb
 obtain⟨z,z1,z2⟩:=Zhz q2 q3 (by omega) (by omega)
 refine⟨z,⟨o,o1,Cq.nextR (r:=(x',r')) q1 ⟨z,z1,rfl⟩⟩,?_⟩
 rw[q4,Rat.intCast_one,Rat.one_mul] at z2
 exact z2.up q5
end Go.EL

namespace Go.EL
open Go.IntKind (i8 i16 i32 i64 u8 u16 u32 u64)
open Go Go.RowKit
def prodQ(X:Nat->Rat)(m:Fin 8->Int):Nat->Rat
 | 0=>1
 | k+1=>prodQ X m k*(if h:k<8 then X k ^ (m ⟨k,h⟩).toNat else 1)
def sumQ:List Rat->Rat
 | []=>0
 | x::l=>x+sumQ l
def evQ(X:Nat->Rat)(p:List Za):Rat:=sumQ (p.map fun t=>(numC t.c:Rat)*prodQ X t.m 8)
theorem Zlr(a:Rat){α:Type}(f g:α->Rat):∀ l:List α,(∀ x ∈ l,f x=a*g x)->sumQ (l.map f)=a*sumQ (l.map g)
 | [],_=>by simp only[List.map_nil,sumQ]; grind
 | x::l,h=>by
  simp only[List.map_cons,sumQ]
  rw[h x List.mem_cons_self,Zlr a f g l (fun y hy=>h y (List.mem_cons_of_mem _ hy))]
  grind
theorem ZnS{p:List Za}{t:Za}(ht:t ∈ p):numC t.c=(sgnP p*(gcdTo p:Int))*numC (quoC (sgnP p) (gcdTo p) t.c):=by
 have hd:(gcdTo p:Int) ∣ numC t.c:=Int.dvd_natAbs.1 (Int.natCast_dvd_natCast.2 (ZdN ht))
 have e:numC (quoC (sgnP p) (gcdTo p) t.c)=sgnP p*(numC t.c / (gcdTo p:Int)):=Zat _
 rw[e]
 have e2:(gcdTo p:Int)*(numC t.c / (gcdTo p:Int))=numC t.c:=Int.mul_ediv_cancel' hd
 rcases ZhA p with h|h <;> rw[h] <;> grind
theorem ZpF(X:Nat->Rat)(p:List Za):evQ X p=((sgnP p*(gcdTo p:Int):Int):Rat)*evQ X (primP p):=by
 unfold evQ primP
 rw[List.map_map]
 refine Zlr _ _ _ p fun t ht=>?_
 show (numC t.c:Rat)*prodQ X t.m 8=_*((numC (quoC (sgnP p) (gcdTo p) t.c):Rat)*prodQ X t.m 8)
 rw[<- Rat.mul_assoc,<- Rat.intCast_mul,<- ZnS ht]
theorem Zfp(X:Nat->Rat){p:List Za}(h:PolOk p):evQ X p=0↔evQ X (primP p)=0:=by
 by_cases hn:p=[]
 .subst hn; exact Iff.rfl
 have g:=ZdO h hn
 have s:sgnP p*(gcdTo p:Int)≠0:=by
  rcases ZhA p with h|h <;> rw[h] <;> omega
 have s2:((sgnP p*(gcdTo p:Int):Int):Rat)≠0:=fun e=>s (Rat.intCast_eq_zero_iff.1 e)
 rw[ZpF X p]
 constructor
 .intro e; grind
 intro e; rw[e,Rat.mul_zero]
theorem ZfW{m:M}(hm:Ok m):∀ k,degTo m k<=0->∀ i:Fin 8,i.val<k->m i=0
 | 0,_,i,h=>absurd h (Nat.not_lt_zero _)
 | k+1,hk,i,h=>by
  have b:=ZfU hm k
  simp only[degTo] at hk
  by_cases c:k<8
  .rw[dif_pos c] at hk
   have d:=hm ⟨k,c⟩
   by_cases e:i.val=k
   .have:i=⟨k,c⟩:=Fin.ext e
    rw[this]; omega
   exact ZfW hm k (by omega) i (by omega)
  exact ZfW hm k (by rw[dif_neg c] at hk; omega) i (by omega)
theorem ZkT(X:Nat->Rat){p:List Za}(h:PolOk p)(hn:p≠[])(hd:degP p=0):evQ X p≠0:=by
 have hz:∀ t ∈ p,t.m=fun _=>0:=fun t ht=>by
  have h1:=(Zdi (p:=p) (d:=0) (by decide)).1 (by omega) t ht
  exact funext fun i=>ZfW (h.trm t ht).m 8 h1 i i.isLt
 match p,hn with
 | t::l,_=>
  have hl:l=[]:=by
   match l,h with
   | [],_=>rfl
   | y::l,h=>
    have:=(List.pairwise_cons.1 h.ord).1 y List.mem_cons_self
    rw[hz t List.mem_cons_self,hz y (List.mem_cons_of_mem _ List.mem_cons_self),ZdM] at this
    exact absurd this (by decide)
  subst hl
  obtain⟨c,e,c0,_⟩:=(h.trm t List.mem_cons_self).c
  have e1:∀ k,prodQ X t.m k=1:=by
   intro k
   induction k with
   | zero=>rfl
   | succ k ih=>
    simp only[prodQ]
    rw[ih,Rat.one_mul]
    by_cases q:k<8
    .rw[dif_pos q,hz t List.mem_cons_self]; exact Rat.pow_zero _
    rw[dif_neg q]
  show (numC t.c:Rat)*prodQ X t.m 8+0≠0
  rw[e1,e,Zat]
  intro q
  exact c0 (Rat.intCast_eq_zero_iff.1 (by grind))
def SolQ(X:Nat->Rat)(eqs neqs:List Pol):Prop:=(∀ p ∈ eqs,evQ X p=0)/\∀ p ∈ neqs,evQ X p≠0
theorem Zqc(X:Nat->Rat):evQ X oneP≠0:=by
 refine ZkT X Zhg (by decide) ?_
 decide +kernel
theorem Zhl{p:Pol}:primP p=[]↔p=[]:=by unfold primP; exact List.map_eq_nil_iff
theorem Zpf(X:Nat->Rat){eqs neqs:List Pol}(h1:∀ p ∈ eqs,PolOk p)(h2:∀ p ∈ neqs,PolOk p):SolQ X eqs neqs↔SolQ X (eqsN eqs neqs) (kept neqs true):=by
 have z:evQ X []=0:=rfl
 constructor
 .rintro⟨a,b⟩
  refine⟨fun q hq=>?_,fun q hq=>?_⟩
  .rcases List.mem_append.1 hq with hq|hq
   .obtain⟨p,hp,rfl⟩:=List.mem_map.1 (List.mem_filter.1 hq).1
    exact (Zfp X (h1 p hp)).1 (a p hp)
   obtain⟨p,hp,rfl⟩:=List.mem_map.1 hq
   obtain⟨hp,he⟩:=List.mem_filter.1 hp
   rw[List.isEmpty_iff] at he
   subst he
   exact absurd z (b _ hp)
  obtain⟨p,hp,rfl⟩:=List.mem_map.1 (List.mem_filter.1 hq).1
  exact fun e=>b p hp ((Zfp X (h2 p hp)).2 e)
 rintro⟨a,b⟩
 refine⟨fun p hp=>?_,fun p hp=>?_⟩
 .by_cases e:p=[]
  .rw[e]; exact z
  refine (Zfp X (h1 p hp)).2 (a _ (List.mem_append.2 (.inl (List.mem_filter.2 ⟨List.mem_map.2 ⟨p,hp,rfl⟩,?_⟩))))
  unfold keepP
  rw[Bool.and_eq_true,Bool.not_eq_true',List.isEmpty_eq_false_iff]
  exact⟨fun k=>e (Zhl.1 k),by simp⟩
 by_cases e:p=[]
 .have:=a oneP (List.mem_append.2 (.inr (List.mem_map.2 ⟨p,List.mem_filter.2 ⟨hp,by rw[List.isEmpty_iff]; exact e⟩,rfl⟩)))
  exact absurd this (Zqc X)
 by_cases d:degP (primP p)=0
 .exact fun k=>ZkT X (Zej (h2 p hp)) (fun k=>e (Zhl.1 k)) d ((Zfp X (h2 p hp)).1 k)
 refine fun k=>b (primP p) (List.mem_filter.2 ⟨List.mem_map.2 ⟨p,hp,rfl⟩,?_⟩) ((Zfp X (h2 p hp)).1 k)
 unfold keepP
 rw[Bool.and_eq_true,Bool.not_eq_true',List.isEmpty_eq_false_iff]
 exact⟨fun k=>e (Zhl.1 k),by simp[d]⟩
theorem ZoW(X:Nat->Rat){n:Int}{eqs neqs:List Pol}(h1:∀ p ∈ eqs,PolOk p)(h2:∀ p ∈ neqs,PolOk p)(ok:(normF n eqs neqs).2=0):SolQ X eqs neqs↔SolQ X (normF n eqs neqs).1.eqs (normF n eqs neqs).1.neqs:=by
 have g1:∀ p ∈ eqsN eqs neqs,goodP p=true:=fun p hp=>by
  rcases List.mem_append.1 hp with hp|hp
  .exact (ZeY h1 p hp).good
  obtain⟨q,_,rfl⟩:=List.mem_map.1 hp
  exact Zhg.good
 have g2:∀ p ∈ kept neqs true,goodP p=true:=fun p hp=>(ZeY h2 p hp).good
 obtain⟨_,s1⟩:=ZeC g1
 obtain⟨_,s2⟩:=ZeC g2
 rw[Zpf X h1 h2]
 unfold normF at ok ⊢
 split at ok
 .rename_i c1
  rw[if_pos c1]
  split at ok
  .rename_i c2
   rw[if_pos c2]
   split at ok
   .cases ok
   rename_i c3
   rw[if_neg c3]
   split at ok
   .cases ok
   rename_i c4
   rw[if_neg c4]
   exact⟨fun ⟨a,b⟩=>⟨fun p hp=>a p ((s1 p).1 hp),fun p hp=>b p ((s2 p).1 hp)⟩,fun ⟨a,b⟩=>⟨fun p hp=>a p ((s1 p).2 hp),fun p hp=>b p ((s2 p).2 hp)⟩⟩
  cases ok
 cases ok
end Go.EL

namespace Go.EL
open Go.IntKind (i8 i16 i32 i64 u8 u16 u32 u64)
open Go Go.EL Go.RowKit
theorem Zh7:∀ a b:List Rat,sumQ (a++b)=sumQ a+sumQ b
 | [],b=>by simp only[List.nil_append,sumQ]; grind
 | x::a,b=>by simp only[List.cons_append,sumQ]; rw[Zh7 a b]; grind
theorem getQ{a:Fin 8->Int}{k:Nat}(h:k<8):getF a (k:Int)=a ⟨k,h⟩:=by
 unfold getF
 rw[dif_pos (show (k:Int).toNat<8 by omega)]
 rfl
theorem Zp5{x:List Zc}{X:Nat->Rat}{t:Za}{c:Rat}{kc kx D:Nat}(hX:∀ i,i<8->∃ r,x[i]? = some r/\RVq r (X i) kx)(hc:RVq t.c c kc)(hM:∀ i,t.m i<=(D:Int))(hD:D<=1000)(hb:kc+8*(1+D*kx)<=20000):∃ r,(ZcQ x t (0,t.c)).Ret r/\RVq r (c*prodQ X t.m 8) (kc+8*(1+D*kx)):=by
 refine Cq.ZQ 8 (fun k s=>s.1=(k:Int)/\RVq s.2 (c*prodQ X t.m k) (kc+k*(1+D*kx))) (fun k s hk hs=>?_) (fun s hs=>?_) ⟨rfl,by rw[show c*prodQ X t.m 0=c by simp only[prodQ]; grind]; exact hc.up (by omega)⟩
 .obtain⟨i,c2⟩:=s
  obtain⟨rfl,hv⟩:=hs
  have wi:i64.wrap ((k:Int)+1)=((k+1:Nat):Int):=by rw[wrap64 (by omega)]; omega
  have hle:(k+1)*(1+D*kx)<=8*(1+D*kx):=Nat.mul_le_mul_right _ (by omega)
  have hex:(k+1)*(1+D*kx)=k*(1+D*kx)+(1+D*kx):=by rw[Nat.add_mul,Nat.one_mul]
  by_cases h0:0<t.m ⟨k,hk⟩
  .obtain⟨n,hn⟩:∃ n:Nat,t.m ⟨k,hk⟩=(n:Int):=⟨(t.m ⟨k,hk⟩).toNat,by omega⟩
   have hd:=hM ⟨k,hk⟩
   have hnk:n*kx<=D*kx:=Nat.mul_le_mul_right _ (by omega)
   obtain⟨r,r1,r2⟩:=hX k hk
   obtain⟨y,y1,y2⟩:=Zo4 r2 (n:=n) (by omega) (by omega) (by omega)
   obtain⟨z,z1,z2⟩:=Zhz hv y2 (by omega) (by omega)
   refine⟨((k+1:Nat),z),Cq.wp.yes (show (k:Int)<8 by omega) ⟨⟨by omega,by omega⟩,?_⟩,rfl,?_⟩
   .rw[getQ hk]
    refine Cq.wp.yes h0 ⟨r,⟨by omega,by rw[Int.toNat_natCast]; exact r1⟩,y,by rw[hn]; exact y1,z,z1,?_⟩
    show _=_
    rw[wi]
   have e:c*prodQ X t.m (k+1)=c*prodQ X t.m k*X k ^ n:=by
    simp only[prodQ]
    rw[dif_pos hk,hn,Int.toNat_natCast]; grind
   rw[e]
   exact z2.up (by omega)
  refine⟨((k+1:Nat),c2),Cq.wp.yes (show (k:Int)<8 by omega) ⟨⟨by omega,by omega⟩,?_⟩,rfl,?_⟩
  .rw[getQ hk]
   refine Cq.wp.no h0 ?_
   show _=_
   rw[wi]
  have e:c*prodQ X t.m (k+1)=c*prodQ X t.m k:=by
   simp only[prodQ]
   rw[dif_pos hk,show (t.m ⟨k,hk⟩).toNat=0 by omega,Rat.pow_zero]; grind
  rw[e]
  exact hv.up (by omega)
 obtain⟨i,c2⟩:=s
 obtain⟨rfl,hv⟩:=hs
 exact⟨c2,Cq.wp.no (show ¬ ((8:Nat):Int)<8 by decide) rfl,hv⟩
theorem ZpG{p:List Za}{x:List Zc}{X:Nat->Rat}{C:Za->Rat}{kc kx D:Nat}(hX:∀ i,i<8->∃ r,x[i]? = some r/\RVq r (X i) kx)(hC:∀ t ∈ p,RVq t.c (C t) kc)(hM:∀ t ∈ p,∀ i,t.m i<=(D:Int))(hD:D<=1000)(hp:p.length<=20000)(hb:1+p.length*(kc+8*(1+D*kx)+1)<=20000)(hk:kc+8*(1+D*kx)<=20000):∃ r,(ZZ p x).Ret r/\RVq r (sumQ (p.map fun t=>C t*prodQ X t.m 8)) (1+p.length*(kc+8*(1+D*kx)+1)):=by
 obtain⟨o,o1,o2⟩:=Zlv (n:=0) (by decide)
 generalize hK:kc+8*(1+D*kx)=K at *
 have key:∃ r,(ZcP p x (0,o)).Ret r/\RVq r (sumQ (p.map fun t=>C t*prodQ X t.m 8)) (1+p.length*(K+1)):=by
  refine Cq.ZQ p.length (fun k s=>s.1=(k:Int)/\RVq s.2 (sumQ ((p.take k).map fun t=>C t*prodQ X t.m 8)) (1+k*(K+1))) (fun k s hkl hs=>?_) (fun s hs=>?_) ⟨rfl,by rw[Nat.zero_mul]; rw[Rat.intCast_zero] at o2; exact o2⟩
  .obtain⟨i,s2⟩:=s
   obtain⟨rfl,hv⟩:=hs
   have wi:i64.wrap ((k:Int)+1)=((k+1:Nat):Int):=by rw[wrap64 (by omega)]; omega
   have hle:(k+1)*(K+1)<=p.length*(K+1):=Nat.mul_le_mul_right _ (by omega)
   have hex:(k+1)*(K+1)=k*(K+1)+(K+1):=by rw[Nat.add_mul,Nat.one_mul]
   have ht:=List.getElem_mem hkl
   obtain⟨y,y1,y2⟩:=Zp5 hX (hC _ ht) (hM _ ht) hD (by omega)
   rw[hK] at y2
   obtain⟨z,z1,z2⟩:=ZpZ hv y2 (by omega) (by omega)
   refine⟨((k+1:Nat),z),Cq.wp.yes (show (k:Int)<(p.length:Int) by omega) ⟨p[k],⟨by omega,by rw[Int.toNat_natCast]; exact List.getElem?_eq_getElem hkl⟩,Cq.nextR y1 ⟨z,z1,?_⟩⟩,rfl,?_⟩
   .show _=_
    rw[wi]
   rw[<- List.take_append_getElem hkl,List.map_append,Zh7]
   refine RVq.up ?_ (show 1+k*(K+1)+K+1<=_ by omega)
   have e:sumQ (List.map (fun t=>C t*prodQ X t.m 8) [p[k]])=C p[k]*prodQ X p[k].m 8:=by simp only[List.map_cons,List.map_nil,sumQ]; grind
   rw[e]; exact z2
  obtain⟨i,s2⟩:=s
  obtain⟨rfl,hv⟩:=hs
  rw[List.take_length] at hv
  exact⟨s2,Cq.wp.no (show ¬ (p.length:Int)<(p.length:Int) by omega) rfl,hv⟩
 obtain⟨r,r1,r2⟩:=key
 exact⟨r,⟨o,o1,Cq.nextR r1 rfl⟩,r2⟩
end Go.EL

namespace Go.EL
open Go.IntKind (i8 i16 i32 i64 u8 u16 u32 u64)
open Go Go.EL Go.RowKit
theorem Zpn{c:Int}(h:-12<=c/\c<=12):In (ratI c).num c/\In (ratI c).den 1:=by
 refine⟨⟨rfl,?_⟩,⟨rfl,⟨Wd.cons (by decide) Wd.nil,?_,rfl⟩⟩⟩
 .show Mg (if c=0 then [] else [(c.natAbs:Int)]) _
  by_cases e:c=0
  .rw[if_pos e,e]; exact⟨Wd.nil,by unfold Cn; intro h; exact absurd h (Nat.lt_irrefl 0),rfl⟩
  rw[if_neg e]
  exact⟨Wd.cons (by omega) Wd.nil,by unfold Cn; intro h; show (c.natAbs:Int)≠0; omega,by simp[nv]⟩
 unfold Cn; intro h; show (1:Int)≠0; decide
theorem ZpA{t:Za}(h:TermOk t):RVq t.c (numC t.c:Rat) 1:=by
 obtain⟨c,e,c0,c1,c2⟩:=h.c
 obtain⟨a,b⟩:=Zpn ⟨c1,c2⟩
 rw[e,Zat]
 exact⟨c,1,a,b,by decide,by rw[Rat.intCast_one]; grind,Bd.one (by omega),Bd.one (by decide)⟩
def Few(p:List Za):Prop:=p.length<=60/\∀ t ∈ p,∀ i,t.m i<=3
theorem Znq{p:List Za}{x:List Zc}{X:Nat->Rat}(hX:∀ i,i<8->∃ r,x[i]? = some r/\RVq r (X i) 9)(hp:PolOk p)(hf:Few p):∃ r,(ZZ p x).Ret r/\∃ k,RVq r (evQ X p) k:=by
 have hl:p.length*(1+8*(1+3*9)+1)<=60*(1+8*(1+3*9)+1):=Nat.mul_le_mul_right _ hf.1
 obtain⟨r,r1,r2⟩:=ZpG (C:=fun t=>(numC t.c:Rat)) (kc:=1) (kx:=9) (D:=3) hX (fun t ht=>ZpA (hp.trm t ht)) hf.2 (by decide) (by have:=hf.1; omega) (by omega) (by decide)
 exact⟨r,r1,_,r2⟩
theorem Zjd{eqs neqs:List (List Za)}{x:List Zc}{X:Nat->Rat}(hX:∀ i,i<8->∃ r,x[i]? = some r/\RVq r (X i) 9)(h1:∀ p ∈ eqs,PolOk p/\Few p)(h2:∀ p ∈ neqs,PolOk p/\Few p)(l1:eqs.length<=1000)(l2:neqs.length<=1000):(Zbc eqs neqs x).Ret ((eqs.all fun p=>decide (evQ X p=0)) && neqs.all fun p=>decide (evQ X p≠0)):=by
 have a:=ZkJ eqs l1 (fun p=>decide (evQ X p=0)) (step:=fun i1=>if i1<(eqs.length:Int) then (Cq.at' eqs i1 fun x1=>Cq.bind (ZZ x1 x) fun yv1=>Cq.bind (ZbG yv1) fun yv2=>if ¬ yv2=0 then (Cq.ret (.inr (.inl false))) else (Cq.ret (.inl (i64.wrap (i1+1))))) else (Cq.ret (.inr (.inr ())))) (fun i hi=>by
  obtain⟨hp,hf⟩:=h1 _ (List.getElem_mem hi)
  obtain⟨r,r1,k,r2⟩:=Znq hX hp hf
  obtain⟨s,s1,s2⟩:=Zmk r2
  refine Cq.wp.yes (by omega) ⟨_,⟨by omega,by rw[Int.toNat_natCast]; exact List.getElem?_eq_getElem hi⟩,r,r1,s,s1,?_⟩
  by_cases c:evQ X eqs[i]=0
  .rw[if_pos (decide_eq_true c)]; exact Cq.wp.no (fun q=>q (s2.2 c)) rfl
  rw[if_neg (by rw[decide_eq_false c]; decide)]; exact Cq.wp.yes (fun q=>c (s2.1 q)) rfl) (Cq.wp.no (Int.lt_irrefl _) rfl)
 have b:=ZkJ neqs l2 (fun p=>decide (evQ X p≠0)) (step:=fun i1=>if i1<(neqs.length:Int) then (Cq.at' neqs i1 fun x1=>Cq.bind (ZZ x1 x) fun yv1=>Cq.bind (ZbG yv1) fun yv2=>if yv2=0 then (Cq.ret (.inr (.inl false))) else (Cq.ret (.inl (i64.wrap (i1+1))))) else (Cq.ret (.inr (.inr ())))) (fun i hi=>by
  obtain⟨hp,hf⟩:=h2 _ (List.getElem_mem hi)
  obtain⟨r,r1,k,r2⟩:=Znq hX hp hf
  obtain⟨s,s1,s2⟩:=Zmk r2
  refine Cq.wp.yes (by omega) ⟨_,⟨by omega,by rw[Int.toNat_natCast]; exact List.getElem?_eq_getElem hi⟩,r,r1,s,s1,?_⟩
  by_cases c:evQ X neqs[i]=0
  .rw[if_neg (by rw[decide_eq_false (fun k=>k c)]; decide)]; exact Cq.wp.yes (s2.2 c) rfl
  rw[if_pos (decide_eq_true c)]; exact Cq.wp.no (fun q=>c (s2.1 q)) rfl) (Cq.wp.no (Int.lt_irrefl _) rfl)
 show (Cq.next (ZcY eqs x 0) _).wp _
 refine Cq.mono (ZcY eqs x 0) (fun o e=>?_) a
 subst e
 by_cases c:(eqs.all fun p=>decide (evQ X p=0))=true
 .rw[if_pos c,c,Bool.true_and]
  exact ZoV b rfl rfl
 rw[if_neg c,Bool.eq_false_iff.2 c,Bool.false_and]
 rfl
theorem Zlo(X:Nat->Rat)(eqs neqs:List (List Za)):((eqs.all fun p=>decide (evQ X p=0)) && neqs.all fun p=>decide (evQ X p≠0))=true↔SolQ X eqs neqs:=by
 rw[Bool.and_eq_true,List.all_eq_true,List.all_eq_true]
 exact⟨fun ⟨a,b⟩=>⟨fun p hp=>of_decide_eq_true (a p hp),fun p hp=>of_decide_eq_true (b p hp)⟩,fun ⟨a,b⟩=>⟨fun p hp=>decide_eq_true (a p hp),fun p hp=>decide_eq_true (b p hp)⟩⟩
theorem ZoD{p:List Za}(h:Few p):Few (primP p):=by
 unfold primP
 refine⟨by rw[List.length_map]; exact h.1,fun t ht i=>?_⟩
 obtain⟨u,hu,rfl⟩:=List.mem_map.1 ht
 exact h.2 u hu i
theorem ZpJ:Few oneP:=⟨by decide,fun t ht i=>by rw[oneP,List.mem_singleton] at ht; subst ht; show (0:Int)<=3; decide⟩
theorem ZkY{l:List Pol}{b:Bool}(h:∀ p ∈ l,PolOk p/\Few p):∀ q ∈ kept l b,PolOk q/\Few q:=fun q hq=>by
 obtain⟨p,hp,rfl⟩:=List.mem_map.1 (List.mem_filter.1 hq).1
 exact⟨Zej (h p hp).1,ZoD (h p hp).2⟩
theorem ZoC{n:Int}{eqs neqs:List Pol}(h1:∀ p ∈ eqs,PolOk p/\Few p)(h2:∀ p ∈ neqs,PolOk p/\Few p)(ok:(normF n eqs neqs).2=0):(∀ p ∈ (normF n eqs neqs).1.eqs,PolOk p/\Few p)/\(∀ p ∈ (normF n eqs neqs).1.neqs,PolOk p/\Few p)/\(normF n eqs neqs).1.eqs.length<=12/\(normF n eqs neqs).1.neqs.length<=12:=by
 have f1:∀ p ∈ eqsN eqs neqs,PolOk p/\Few p:=fun p hp=>by
  rcases List.mem_append.1 hp with hp|hp
  .exact ZkY h1 p hp
  obtain⟨q,_,rfl⟩:=List.mem_map.1 hp
  exact⟨Zhg,ZpJ⟩
 have f2:∀ p ∈ kept neqs true,PolOk p/\Few p:=ZkY h2
 obtain⟨_,s1⟩:=ZeC (fun p hp=>(f1 p hp).1.good)
 obtain⟨_,s2⟩:=ZeC (fun p hp=>(f2 p hp).1.good)
 unfold normF at ok ⊢
 split at ok
 .rename_i c1
  rw[if_pos c1]
  split at ok
  .rename_i c2
   rw[if_pos c2]
   split at ok
   .cases ok
   rename_i c3
   rw[if_neg c3]
   split at ok
   .cases ok
   rename_i c4
   rw[if_neg c4]
   exact⟨fun p hp=>f1 p ((s1 p).1 hp),fun p hp=>f2 p ((s2 p).1 hp),Nat.le_of_not_lt c3,Nat.le_of_not_lt c4⟩
  cases ok
 cases ok
theorem ZlX{n:Int}{eqs neqs:List Pol}{x:List Zc}{X:Nat->Rat}(hX:∀ i,i<8->∃ r,x[i]? = some r/\RVq r (X i) 9)(h1:∀ p ∈ eqs,PolOk p/\Few p)(h2:∀ p ∈ neqs,PolOk p/\Few p)(l1:eqs.length<=1000)(l2:neqs.length<=1000)(ok:(normF n eqs neqs).2=0):∃ b,(Zbc eqs neqs x).Ret b/\(Zbc (normF n eqs neqs).1.eqs (normF n eqs neqs).1.neqs x).Ret b:=by
 obtain⟨a1,a2,a3,a4⟩:=ZoC h1 h2 ok
 refine⟨_,Zjd hX h1 h2 l1 l2,?_⟩
 have e:((eqs.all fun p=>decide (evQ X p=0)) && neqs.all fun p=>decide (evQ X p≠0))=(((normF n eqs neqs).1.eqs.all fun p=>decide (evQ X p=0)) && (normF n eqs neqs).1.neqs.all fun p=>decide (evQ X p≠0)):=
  Bool.eq_iff_iff.2 ((Zlo X _ _).trans ((ZoW X (fun p hp=>(h1 p hp).1) (fun p hp=>(h2 p hp).1) ok).trans (Zlo X _ _).symm))
 rw[e]
 exact Zjd hX a1 a2 (by omega) (by omega)
theorem Zng{n:Int}(h:n.natAbs<4294967296):∃ r,(Zev n).Ret r/\RVq r (n:Rat) 1:=by
 obtain⟨a,a1,a2⟩:=Zen (n:=n) (by omega)
 obtain⟨b,b1,b2⟩:=Zen (n:=1) (by decide)
 exact⟨_,⟨a,a1,b,b1,rfl⟩,n,1,a2,b2,by decide,by rw[Rat.intCast_one]; grind,Bd.one h,Bd.one (by decide)⟩
theorem RVq.Zqd{x:List Zc}{k:Nat}(h:∀ r ∈ x,∃ v,RVq r v k):∃ X:Nat->Rat,∀ i,i<x.length->∃ r,x[i]? = some r/\RVq r (X i) k:=by
 refine⟨fun i=>if q:i<x.length then (h x[i] (List.getElem_mem q)).choose else 0,fun i hi=>⟨x[i],List.getElem?_eq_getElem hi,?_⟩⟩
 simp only[dif_pos hi]
 exact (h x[i] (List.getElem_mem hi)).choose_spec
end Go.EL

namespace Go.EL
open Go.IntKind (i8 i16 i32 i64 u8 u16 u32 u64)
open Go Go.RowKit
structure Writ (k:Zg):Prop where
 n:0<=k.n/\k.n<=1000
 eqs:∀ p ∈ k.eqs,PolOk p
 neqs:∀ p ∈ k.neqs,PolOk p
 len:k.eqs.length<=12/\k.neqs.length<=12
theorem Writ.zero:Writ zeroK:=⟨by decide,fun p hp=>absurd hp List.not_mem_nil,fun p hp=>absurd hp List.not_mem_nil,by decide⟩
theorem CoreOk.writ{k:Zg}(h:CoreOk k):Writ k:=⟨by have:=h.n; omega,fun p hp=>(h.eqs.pol p hp).1,fun p hp=>(h.neqs.pol p hp).1,h.eqs.len,h.neqs.len⟩
theorem ZmU{n:Int}{eqs neqs:List Pol}(he:∀ p ∈ eqs,PolOk p)(hi:∀ p ∈ neqs,PolOk p):Writ (normF n eqs neqs).1/\((normF n eqs neqs).2=0->CoreOk (normF n eqs neqs).1):=by
 unfold normF
 by_cases hn:1<=n/\n<=4
 .rw[if_pos hn]
  by_cases ha:(eqs++neqs).all (fun p=>fitB p n)=true
  .rw[if_pos ha]
   by_cases h1:12<(srtP (eqsN eqs neqs)).length
   .rw[if_pos h1]; exact⟨Writ.zero,fun h=>absurd h (by decide)⟩
   rw[if_neg h1]
   by_cases h2:12<(srtP (kept neqs true)).length
   .rw[if_pos h2]; exact⟨Writ.zero,fun h=>absurd h (by decide)⟩
   rw[if_neg h2]
   obtain⟨m,rfl,m1,m4⟩:=Zk9 hn
   rw[List.all_append,Bool.and_eq_true] at ha
   have hc:=Zl7 ⟨m1,m4⟩ (fun p hp=>⟨he p hp,List.all_eq_true.1 ha.1 p hp⟩) (fun p hp=>⟨hi p hp,List.all_eq_true.1 ha.2 p hp⟩) (by omega) (by omega)
   exact⟨hc.writ,fun _=>hc⟩
  rw[if_neg ha]; exact⟨Writ.zero,fun h=>absurd h (by decide)⟩
 rw[if_neg hn]; exact⟨Writ.zero,fun h=>absurd h (by decide)⟩
theorem ZjI{l:List Zf}(hl:l.length<=1000):(ZeR l).Ret (l.map (·.p)):=by
 refine Cq.Zq l.length (fun k s=>s=((l.take k).map (·.p),(k:Int))) (fun k s hk hs=>?_) (fun s hs=>?_) rfl
 .subst hs
  refine Cq.wp.yes (by omega) ⟨_,idxN hk,?_,?_⟩
  .simp only[List.length_append,List.length_map,List.length_take,List.length_singleton,small]; omega
  show _=_
  rw[wrapN (by omega),List.take_succ_eq_append_getElem hk,List.map_append]
  rfl
 subst hs
 refine Cq.wp.no (by omega) ?_
 rw[List.take_of_length_le (Nat.le_refl _)]
 exact rfl
theorem Zj0{l:List Zf}(hl:l.length<=1000):(ZaZ l).Ret (l.map (·.p)):=by
 refine⟨⟨by omega,by omega⟩,?_⟩
 refine Cq.Zq l.length (fun k s=>s=((l.take k).map (·.p)++List.replicate (l.length-k) [],(k:Int))) (fun k s hk hs=>?_) (fun s hs=>?_) (by show _=_; simp)
 .subst hs
  have hlen:((l.take k).map (·.p)++List.replicate (l.length-k) ([]:Pol)).length=l.length:=by simp; omega
  refine Cq.wp.yes (by omega) ⟨_,idxN hk,_,idxN (by rw[hlen]; exact hk),?_⟩
  show _=_
  rw[wrapN (by omega),Int.toNat_natCast,List.take_succ_eq_append_getElem hk,List.map_append,List.map_singleton]
  congr 1
  rw[List.set_append,if_neg (by rw[List.length_map,List.length_take]; omega)]
  have e:l.length-k=(l.length-(k+1))+1:=by omega
  have hk2:k-((l.take k).map (·.p)).length=0:=by simp; omega
  rw[hk2,e,List.replicate_succ,List.set_cons_zero,List.append_assoc]
  rfl
 subst hs
 refine Cq.wp.no (by omega) ?_
 show _=_
 rw[List.take_of_length_le (Nat.le_refl _)]
 simp
def varN(s:Zn):Int:=if 1<(s.vars.length:Int) then (s.vars.length:Int) else 1
def coreF(s:Zn):Zg×Int:=normF (varN s) (s.eqs.map (·.p)) (s.neqs.map (·.p))
theorem Good.polys{s:Zn}(h:Good s):(∀ p ∈ s.eqs.map (·.p),PolOk p)/\∀ p ∈ s.neqs.map (·.p),PolOk p:=
 ⟨fun p hp=>by obtain⟨q,hq,rfl⟩:=List.mem_map.1 hp; exact (h.eqs.pol q hq).1,fun p hp=>by obtain⟨q,hq,rfl⟩:=List.mem_map.1 hp; exact (h.neqs.pol q hq).1⟩
theorem Zon{s:Zn}(h:Good s):(ZdI s).Ret (coreF s):=by
 have l1:=h.eqs.len
 have l2:=h.neqs.len
 obtain⟨p1,p2⟩:=h.polys
 exact⟨true,Zkf h,Cq.wp.no (by decide) ⟨_,Zj0 (by omega),_,Zj0 (by omega),_,ZhS (by rw[List.length_map]; omega) (by rw[List.length_map]; omega) p1 p2,rfl⟩⟩
theorem ZnA{p:Pol}{n m:Nat}(hn:n<=m)(hm:m<=8)(h:fitB p (n:Int)=true):fitB p (m:Int)=true:=by
 obtain⟨h1,h2⟩:=(Zdk (by omega)).1 h
 exact (Zdk hm).2 ⟨fun t ht i hi=>h1 t ht i (by omega),h2⟩
theorem Zox{s:Zn}(h:Good s)(hl:s.eqs.length+s.neqs.length<=12):coreF s=(⟨varN s,srtP (eqsN (s.eqs.map (·.p)) (s.neqs.map (·.p))),srtP (kept (s.neqs.map (·.p)) true)⟩,0)/\CoreOk (coreF s).1:=by
 have hv:=h.vars
 obtain⟨m,hm,m1,m4,mv⟩:∃ m:Nat,varN s=(m:Int)/\1<=m/\m<=4/\s.vars.length<=m:=by
  unfold varN
  by_cases h1:1<(s.vars.length:Int)
  .rw[if_pos h1]; exact⟨_,rfl,by omega,by omega,Nat.le_refl _⟩
  rw[if_neg h1]; exact⟨1,rfl,by omega,by omega,by omega⟩
 have ha:(s.eqs.map (·.p)++s.neqs.map (·.p)).all (fun p=>fitB p (m:Int))=true:=List.all_eq_true.2 fun p hp=>by
  rcases List.mem_append.1 hp with hp|hp
  .obtain⟨q,hq,rfl⟩:=List.mem_map.1 hp
   exact ZnA mv (by omega) (h.eqs.pol q hq).2
  obtain⟨q,hq,rfl⟩:=List.mem_map.1 hp
  exact ZnA mv (by omega) (h.neqs.pol q hq).2
 have q1:=ZhB (eqsN (s.eqs.map (·.p)) (s.neqs.map (·.p)))
 have q2:=ZkS (s.eqs.map (·.p)) (s.neqs.map (·.p))
 have q3:=ZhB (kept (s.neqs.map (·.p)) true)
 have q4:=ZbU (s.neqs.map (·.p)) true
 rw[List.length_map,List.length_map] at q2
 rw[List.length_map] at q4
 have e:coreF s=(⟨varN s,srtP (eqsN (s.eqs.map (·.p)) (s.neqs.map (·.p))),srtP (kept (s.neqs.map (·.p)) true)⟩,0):=by
  unfold coreF normF
  rw[hm,if_pos ⟨by omega,by omega⟩,if_pos ha,if_neg (by omega),if_neg (by omega)]
 obtain⟨p1,p2⟩:=h.polys
 exact⟨e,(ZmU p1 p2).2 (by show (coreF s).2=0; rw[e])⟩
end Go.EL

namespace Go.EL
open Go.IntKind (i8 i16 i32 i64 u8 u16 u32 u64)
open Go Go.EL Go.RowKit
theorem ZoR{y:Zv}(h:RawOk y){n:Nat}(hn:n<=4):Few (madeP y n 2 3):=by
 have hm:=Zk3 h hn (d:=2) (by decide) 3
 refine⟨by have:=hm.len; omega,fun t ht i=>?_⟩
 obtain⟨m0,_,m2⟩:=hm.mon t ht
 have m3:degTo t.m 8<=2:=m2
 have:=(ZfV m0 8 (Nat.le_refl 8)).2 i i.isLt
 omega
theorem ZiV{x:Zo}(h:Raw32Ok x){n:Nat}(hn:n<=4):∀ k,(∀ q ∈ (made32 x n k).1,Few q.p)/\∀ q ∈ (made32 x n k).2.1,Few q.p
 | 0=>⟨fun q hq=>absurd hq List.not_mem_nil,fun q hq=>absurd hq List.not_mem_nil⟩
 | k+1=>by
  obtain⟨i1,i2⟩:=ZiV h hn k
  have hp:=ZoR (Zlj h k) hn
  rw[Zh0]
  by_cases c:k % 3=2
  .rw[if_pos c]
   refine⟨i1,fun q hq=>?_⟩
   rcases List.mem_append.1 hq with hq|hq
   .exact i2 q hq
   rw[List.mem_singleton] at hq; subst hq; exact hp
  rw[if_neg c]
  refine⟨fun q hq=>?_,i2⟩
  rcases List.mem_append.1 hq with hq|hq
  .exact i1 q hq
  rw[List.mem_singleton] at hq; subst hq; exact hp
def Raw02Ok(z:ZD):Prop:=(-128<=z.n/\z.n<=127)/\(-128<=z.d/\z.d<=127)/\(0<=z.k/\z.k<=255)
theorem ZnY{y:List ZD}(hl:y.length=3)(hy:∀ z ∈ y,Raw02Ok z):∃ x,(ZaL y (0,List.replicate 8 (Zc.mk (Zb.mk false []) (Zb.mk false [])))).Ret x/\∃ X:Nat->Rat,∀ i,i<8->∃ r,x[i]? = some r/\RVq r (X i) 9:=by
 obtain⟨o,o1,o2⟩:=Zng (n:=0) (by decide)
 have key:∃ x,(ZaL y (0,List.replicate 8 (Zc.mk (Zb.mk false []) (Zb.mk false [])))).Ret x/\(x.length=8/\∀ i,i<8->∃ r v,x[i]? = some r/\RVq r v 9):=by
  refine Cq.ZQ 8 (fun k s=>s.1=(k:Int)/\s.2.length=8/\∀ i,i<k->∃ r v,s.2[i]? = some r/\RVq r v 9) (fun k s hk hs=>?_) (fun s hs=>?_) ⟨rfl,List.length_replicate,fun i hi=>absurd hi (Nat.not_lt_zero _)⟩
  .obtain⟨i,l⟩:=s
   obtain⟨rfl,h8,h⟩:=hs
   dsimp only at h8 h
   by_cases c:k<3
   .have hz:=hy y[k] (List.getElem_mem (by omega))
    obtain⟨m,v,m1,m2⟩:=ZnO hz.1 hz.2.1 hz.2.2
    refine⟨(((k+1:Nat):Int),(l.set k o).set k m),Cq.wp.yes (show (k:Int)<8 by omega) ⟨o,o1,_,idxN (by omega),Cq.wp.yes (show (k:Int)<3 by omega) ⟨_,idxN (by omega),m,m1,_,idxN (by rw[List.length_set]; omega),?_⟩⟩,rfl,by rw[List.length_set,List.length_set]; exact h8,fun i hi=>?_⟩
    .show _=_
     rw[wrapN (by omega),Int.toNat_natCast]
    by_cases e:i=k
    .subst e
     exact⟨m,v,List.getElem?_set_self (by rw[List.length_set]; omega),m2⟩
    obtain⟨r,w,r1,r2⟩:=h i (by omega)
    exact⟨r,w,by rw[List.getElem?_set_ne (fun q=>e q.symm),List.getElem?_set_ne (fun q=>e q.symm)]; exact r1,r2⟩
   refine⟨(((k+1:Nat):Int),l.set k o),Cq.wp.yes (show (k:Int)<8 by omega) ⟨o,o1,_,idxN (by omega),Cq.wp.no (show ¬ (k:Int)<3 by omega) ?_⟩,rfl,by rw[List.length_set]; exact h8,fun i hi=>?_⟩
   .show _=_
    rw[wrapN (by omega),Int.toNat_natCast]
   by_cases e:i=k
   .subst e
    exact⟨o,_,List.getElem?_set_self (by omega),o2.up (by decide)⟩
   obtain⟨r,w,r1,r2⟩:=h i (by omega)
   exact⟨r,w,by rw[List.getElem?_set_ne (fun q=>e q.symm)]; exact r1,r2⟩
  obtain⟨i,l⟩:=s
  obtain⟨rfl,h8,h⟩:=hs
  exact⟨l,Cq.wp.no (show ¬ ((8:Nat):Int)<8 by decide) rfl,h8,h⟩
 obtain⟨x,x1,x2,x3⟩:=key
 obtain⟨X,hX⟩:=RVq.Zqd (x:=x) (k:=9) (fun r hr=>by
  obtain⟨i,hi,rfl⟩:=List.getElem_of_mem hr
  obtain⟨q,v,q1,q2⟩:=x3 i (by omega)
  rw[List.getElem?_eq_getElem hi] at q1
  cases q1
  exact⟨v,q2⟩)
 exact⟨x,x1,X,fun i hi=>hX i (by omega)⟩
theorem Zgp{x:Zo}{y:List ZD}(hx:Raw32Ok x)(hy:y.length=3/\∀ z ∈ y,Raw02Ok z):(ZcO x y).Ret true:=by
 obtain⟨hg,hl⟩:=ZmS hx
 obtain⟨e,hk⟩:=Zox hg (by omega)
 have h0:(coreF (madeS32 x)).2=0:=by rw[e]
 obtain⟨p,p1,X,hX⟩:=ZnY hy.1 hy.2
 obtain⟨q1,q2⟩:=hg.polys
 obtain⟨f1,f2⟩:=ZiV hx (n:=nOf x) (by have:=Zhc x; omega) (min x.l.length 6)
 obtain⟨b,b1,b2⟩:=ZlX (n:=varN (madeS32 x)) hX (fun p hp=>⟨q1 p hp,by obtain⟨q,hq,rfl⟩:=List.mem_map.1 hp; exact f1 q hq⟩) (fun p hp=>⟨q2 p hp,by obtain⟨q,hq,rfl⟩:=List.mem_map.1 hp; exact f2 q hq⟩) (by rw[List.length_map]; omega) (by rw[List.length_map]; omega) h0
 exact⟨true,Zju,Cq.wp.no (by decide) ⟨_,Zmp hx,Cq.nextR p1 ⟨_,Zon hg,Cq.wp.yes h0 ⟨_,ZjI (by omega),_,ZjI (by omega),b,b1,b,b2,Cq.wp.yes rfl rfl⟩⟩⟩⟩
end Go.EL

namespace Go.Proofs.YtgllmhmhldlemaaGreat
open Go.IntKind (i8 i16 i32 i64 u8 u16 u32 u64)
open Go.Proofs.Tryz
open Go Go.EL Go.RowKit Go.Proofs
def ok66(x:Zv):Prop:=(∀ y ∈ x.t,∀ i,(Lit.int .i8 (y i)).wf=true)
def ok25(x:Zo):Prop:=((Lit.int .u8 x.n).wf=true)/\(∀ y ∈ x.l,ok66 y)/\(∀ y ∈ x.gap,(Lit.int .u8 y).wf=true)
def ok28(x:ZD):Prop:=((Lit.int .i8 x.n).wf=true)/\((Lit.int .i8 x.d).wf=true)/\((Lit.int .u8 x.k).wf=true)
theorem opens66(W:World):Opens prog W 66 ZaQ (ok66):=by
 have h:=Opens.struct (W:=W) underlying66 (by kernel_rfl) (OpensF.last rfl (by kernel_rfl) (Opens.sl underlying64 (by kernel_rfl) (by decide) (Opens.vec underlying99 underlying26 (by kernel_rfl) (by kernel_rfl)))) (fun (x:Zv)=>x.t) (fun y=>⟨y⟩) (fun _=>rfl)
 exact h
theorem opens25(W:World):Opens prog W 25 Zhn (ok25):=by
 have h:=Opens.struct (W:=W) underlying25 (by kernel_rfl) (OpensF.cons rfl (by kernel_rfl) (Opens.int underlying5) (OpensF.cons rfl (by kernel_rfl) (Opens.sl underlying22 (by kernel_rfl) (by decide) (opens66 W)) (OpensF.last rfl (by kernel_rfl) (Opens.sl underlying23 (by kernel_rfl) (by decide) (Opens.int underlying5))))) (fun (x:Zo)=>(x.n,x.l,x.gap)) (fun y=>⟨y.1,y.2.1,y.2.2⟩) (fun _=>rfl)
 exact h
theorem opens28(W:World):Opens prog W 28 Zdc (ok28):=by
 have h:=Opens.struct (W:=W) underlying28 (by kernel_rfl) (OpensF.cons rfl (by kernel_rfl) (Opens.int underlying26) (OpensF.cons rfl (by kernel_rfl) (Opens.int underlying26) (OpensF.last rfl (by kernel_rfl) (Opens.int underlying5)))) (fun (x:ZD)=>(x.n,x.d,x.k)) (fun y=>⟨y.1,y.2.1,y.2.2⟩) (fun _=>rfl)
 exact h
theorem Zqo{x:Zv}(h:ok66 x):RawOk x:=fun v hv j=>wf_i8 (h v hv j)
theorem Zpb{x:Zo}(h:ok25 x):Raw32Ok x:=⟨wf_u8 h.1,fun y hy=>Zqo (h.2.1 y hy),fun g hg=>wf_u8 (h.2.2 g hg)⟩
theorem Zpa{x:ZD}(h:ok28 x):Raw02Ok x:=⟨wf_i8 h.1,wf_i8 h.2.1,wf_u8 h.2.2⟩
set_option maxRecDepth 100000 in
theorem ZmX{W:World}{base:Nat}{v:Value}{H:Type}{enc:TypeId×Value->H}{b:Nat}{d:DataW H}{ps:List MemPlace}(hok:Value.okWide prog W .any base 25 v)(h:DataW.Trod enc prog W b (fun _=>true) true 25 v d ps):∃ (x:Zo) (p:Option Addr) (c:Nat) (q:Option Addr) (e:Nat),v = .agg ([.int .u8 x.n,.slice p x.l.length c,.slice q x.gap.length e]).toArray/\SlR ZaQ (allMem W) (.slice p x.l.length c) x.l/\SlR (Rp.int .u8) (allMem W) (.slice q x.gap.length e) x.gap/\Raw32Ok x:=by
 obtain⟨cs,x,rfl,h2,h3⟩:=ZlU underlying25 (opens25 W) hok h
 obtain⟨p,c,q,e,k1,k2,k3⟩:=ZkM (K:=fun j u=>cs[j]? = some u) (Zos h2)
 exact⟨x,p,c,q,e,by rw[Zov h2 (by rfl) k1],k2,k3,Zpb h3⟩
set_option maxRecDepth 100000 in
theorem ZoZ{W:World}{base:Nat}{v:Value}{H:Type}{enc:TypeId×Value->H}{b:Nat}{d:DataW H}{ps:List MemPlace}(hok:Value.okWide prog W .any base 29 v)(h:DataW.Trod enc prog W b (fun _=>true) true 29 v d ps):∃ (cs:List Value) (l:List ZD),v = .agg (cs).toArray/\ArRd Zdc 3 (allMem W) cs () l/\l.length=3/\∀ y ∈ l,Raw02Ok y:=by
 obtain⟨cs,l,rfl,h2,h3,h4⟩:=ZmW underlying29 (Opens.arr underlying29 (by kernel_rfl) (by kernel_rfl) (opens28 W)) hok h
 exact⟨cs,l,rfl,h2,h3,fun y hy=>Zpa (h4 y hy)⟩
end Go.Proofs.YtgllmhmhldlemaaGreat

namespace Go.Proofs
open Go.IntKind (i8 i16 i32 i64 u8 u16 u32 u64)
open Go.Shelf
def Tryz.Zn6:Go.Shelf.Ren:=⟨fun|14=>158|20=>168|21=>169|22=>170|23=>171|24=>172|25=>173|26=>174|27=>175|46=>178|47=>164|48=>165|49=>179|50=>180|15=>135|57=>182|28=>148|29=>157|n=>n,fun|24=>91|22=>53|3=>3|25=>152|4=>4|0=>0|46=>189|45=>188|50=>193|66=>200|39=>168|55=>102|70=>204|76=>212|77=>213|53=>139|5=>5|9=>9|n=>n,fun|n=>n⟩
theorem Tryz.sortL:Go.Proofs.SlLaysF0.n14 Tryz.prog Tryz.Zn6:={
 mixed:=by kernel_rfl
 f14:=⟨Tryz.f158.name,by decide,Tryz.func158.trans (congrArg some (by kernel_rfl))⟩
 f15:=Tryz.func135.trans (congrArg some (by kernel_rfl))
 f20:=⟨Tryz.f168.name,by decide,Tryz.func168.trans (congrArg some (by kernel_rfl))⟩
 f21:=⟨Tryz.f169.name,by decide,Tryz.func169.trans (congrArg some (by kernel_rfl))⟩
 f22:=⟨Tryz.f170.name,by decide,Tryz.func170.trans (congrArg some (by kernel_rfl))⟩
 f23:=⟨Tryz.f171.name,by decide,Tryz.func171.trans (congrArg some (by kernel_rfl))⟩
 f24:=⟨Tryz.f172.name,by decide,Tryz.func172.trans (congrArg some (by kernel_rfl))⟩
 f25:=⟨Tryz.f173.name,by decide,Tryz.func173.trans (congrArg some (by kernel_rfl))⟩
 f26:=⟨Tryz.f174.name,by decide,Tryz.func174.trans (congrArg some (by kernel_rfl))⟩
 f27:=⟨Tryz.f175.name,by decide,Tryz.func175.trans (congrArg some (by kernel_rfl))⟩
 f28:=Tryz.func148.trans (congrArg some (by kernel_rfl))
 f29:=Tryz.func157.trans (congrArg some (by kernel_rfl))
 f46:=⟨Tryz.f178.name,by decide,Tryz.func178.trans (congrArg some (by kernel_rfl))⟩
 f47:=Tryz.func164.trans (congrArg some (by kernel_rfl))
 f48:=Tryz.func165.trans (congrArg some (by kernel_rfl))
 f49:=⟨Tryz.f179.name,by decide,Tryz.func179.trans (congrArg some (by kernel_rfl))⟩
 f50:=⟨Tryz.f180.name,by decide,Tryz.func180.trans (congrArg some (by kernel_rfl))⟩
 f57:=⟨Tryz.f182.name,by decide,Tryz.func182.trans (congrArg some (by kernel_rfl))⟩
 t0:=Tryz.underlying0
 a0:=Tryz.isAgg0
 z0:=Tryz.sizeOf0
 v0:=Tryz.zeroValue0
 t3:=Tryz.underlying3
 a3:=Tryz.isAgg3
 z3:=Tryz.sizeOf3
 v3:=Tryz.zeroValue3
 t4:=Tryz.underlying4
 a4:=Tryz.isAgg4
 z4:=Tryz.sizeOf4
 v4:=Tryz.zeroValue4
 t5:=Tryz.underlying5
 a5:=Tryz.isAgg5
 z5:=Tryz.sizeOf5
 v5:=Tryz.zeroValue5
 t9:=Tryz.underlying9
 a9:=Tryz.isAgg9
 z9:=Tryz.sizeOf9
 v9:=Tryz.zeroValue9
 t22:=Tryz.underlying53
 a22:=Tryz.isAgg53
 z22:=Tryz.sizeOf53
 v22:=Tryz.zeroValue53
 t25:=Tryz.underlying152
 a25:=Tryz.isAgg152
 z25:=Tryz.sizeOf152
 v25:=Tryz.zeroValue152
 t39:=Tryz.underlying168
 a39:=Tryz.isAgg168
 z39:=Tryz.sizeOf168
 v39:=Tryz.zeroValue168
 t45:=Tryz.underlying188
 a45:=Tryz.isAgg188
 z45:=Tryz.sizeOf188
 v45:=Tryz.zeroValue188
 t46:=Tryz.underlying189
 a46:=Tryz.isAgg189
 z46:=Tryz.sizeOf189
 v46:=Tryz.zeroValue189
 t50:=Tryz.underlying193
 a50:=Tryz.isAgg193
 z50:=Tryz.sizeOf193
 v50:=Tryz.zeroValue193
 t53:=Tryz.underlying139
 a53:=Tryz.isAgg139
 z53:=Tryz.sizeOf139
 v53:=Tryz.zeroValue139
 t55:=Tryz.underlying102
 a55:=Tryz.isAgg102
 z55:=Tryz.sizeOf102
 v55:=Tryz.zeroValue102
 t66:=Tryz.underlying200
 a66:=Tryz.isAgg200
 z66:=Tryz.sizeOf200
 v66:=Tryz.zeroValue200
 t70:=Tryz.underlying204
 a70:=Tryz.isAgg204
 z70:=Tryz.sizeOf204
 v70:=Tryz.zeroValue204
 t76:=Tryz.underlying212
 a76:=Tryz.isAgg212
 z76:=Tryz.sizeOf212
 v76:=Tryz.zeroValue212
 t77:=Tryz.underlying213
 a77:=Tryz.isAgg213
 z77:=Tryz.sizeOf213
 v77:=Tryz.zeroValue213 }
def Tryz.Zn7:Go.Shelf.Ren:=⟨fun|14=>134|20=>149|21=>150|22=>151|23=>152|24=>153|25=>154|26=>155|27=>156|46=>163|47=>164|48=>165|49=>166|50=>167|15=>135|57=>177|28=>148|29=>157|n=>n,fun|24=>54|22=>44|3=>3|25=>124|4=>4|0=>0|46=>189|45=>188|50=>193|66=>200|39=>168|55=>102|70=>204|76=>212|77=>213|53=>139|5=>5|9=>9|n=>n,fun|n=>n⟩
theorem Tryz.sortQ:Go.Proofs.SlLaysF.n14 Tryz.prog Tryz.Zn7:={
 mixed:=by kernel_rfl
 f14:=⟨Tryz.f134.name,by decide,Tryz.func134.trans (congrArg some (by kernel_rfl))⟩
 f15:=Tryz.func135.trans (congrArg some (by kernel_rfl))
 f20:=⟨Tryz.f149.name,by decide,Tryz.func149.trans (congrArg some (by kernel_rfl))⟩
 f21:=⟨Tryz.f150.name,by decide,Tryz.func150.trans (congrArg some (by kernel_rfl))⟩
 f22:=⟨Tryz.f151.name,by decide,Tryz.func151.trans (congrArg some (by kernel_rfl))⟩
 f23:=⟨Tryz.f152.name,by decide,Tryz.func152.trans (congrArg some (by kernel_rfl))⟩
 f24:=⟨Tryz.f153.name,by decide,Tryz.func153.trans (congrArg some (by kernel_rfl))⟩
 f25:=⟨Tryz.f154.name,by decide,Tryz.func154.trans (congrArg some (by kernel_rfl))⟩
 f26:=⟨Tryz.f155.name,by decide,Tryz.func155.trans (congrArg some (by kernel_rfl))⟩
 f27:=⟨Tryz.f156.name,by decide,Tryz.func156.trans (congrArg some (by kernel_rfl))⟩
 f28:=Tryz.func148.trans (congrArg some (by kernel_rfl))
 f29:=Tryz.func157.trans (congrArg some (by kernel_rfl))
 f46:=⟨Tryz.f163.name,by decide,Tryz.func163.trans (congrArg some (by kernel_rfl))⟩
 f47:=Tryz.func164.trans (congrArg some (by kernel_rfl))
 f48:=Tryz.func165.trans (congrArg some (by kernel_rfl))
 f49:=⟨Tryz.f166.name,by decide,Tryz.func166.trans (congrArg some (by kernel_rfl))⟩
 f50:=⟨Tryz.f167.name,by decide,Tryz.func167.trans (congrArg some (by kernel_rfl))⟩
 f57:=⟨Tryz.f177.name,by decide,Tryz.func177.trans (congrArg some (by kernel_rfl))⟩
 t0:=Tryz.underlying0
 a0:=Tryz.isAgg0
 z0:=Tryz.sizeOf0
 v0:=Tryz.zeroValue0
 t3:=Tryz.underlying3
 a3:=Tryz.isAgg3
 z3:=Tryz.sizeOf3
 v3:=Tryz.zeroValue3
 t4:=Tryz.underlying4
 a4:=Tryz.isAgg4
 z4:=Tryz.sizeOf4
 v4:=Tryz.zeroValue4
 t5:=Tryz.underlying5
 a5:=Tryz.isAgg5
 z5:=Tryz.sizeOf5
 v5:=Tryz.zeroValue5
 t9:=Tryz.underlying9
 a9:=Tryz.isAgg9
 z9:=Tryz.sizeOf9
 v9:=Tryz.zeroValue9
 t22:=Tryz.underlying44
 a22:=Tryz.isAgg44
 z22:=Tryz.sizeOf44
 v22:=Tryz.zeroValue44
 a24:=Tryz.isAgg54
 z24:=Tryz.sizeOf54
 t25:=Tryz.underlying124
 a25:=Tryz.isAgg124
 z25:=Tryz.sizeOf124
 v25:=Tryz.zeroValue124
 t39:=Tryz.underlying168
 a39:=Tryz.isAgg168
 z39:=Tryz.sizeOf168
 v39:=Tryz.zeroValue168
 t45:=Tryz.underlying188
 a45:=Tryz.isAgg188
 z45:=Tryz.sizeOf188
 v45:=Tryz.zeroValue188
 t46:=Tryz.underlying189
 a46:=Tryz.isAgg189
 z46:=Tryz.sizeOf189
 v46:=Tryz.zeroValue189
 t50:=Tryz.underlying193
 a50:=Tryz.isAgg193
 z50:=Tryz.sizeOf193
 v50:=Tryz.zeroValue193
 t53:=Tryz.underlying139
 a53:=Tryz.isAgg139
 z53:=Tryz.sizeOf139
 v53:=Tryz.zeroValue139
 t55:=Tryz.underlying102
 a55:=Tryz.isAgg102
 z55:=Tryz.sizeOf102
 v55:=Tryz.zeroValue102
 t66:=Tryz.underlying200
 a66:=Tryz.isAgg200
 z66:=Tryz.sizeOf200
 v66:=Tryz.zeroValue200
 t70:=Tryz.underlying204
 a70:=Tryz.isAgg204
 z70:=Tryz.sizeOf204
 v70:=Tryz.zeroValue204
 t76:=Tryz.underlying212
 a76:=Tryz.isAgg212
 z76:=Tryz.sizeOf212
 v76:=Tryz.zeroValue212
 t77:=Tryz.underlying213
 a77:=Tryz.isAgg213
 z77:=Tryz.sizeOf213
 v77:=Tryz.zeroValue213 }
end Go.Proofs

namespace Go.Proofs.YtgllmhmhldlemaaGreat
open Go.IntKind (i8 i16 i32 i64 u8 u16 u32 u64)
open Go.Proofs.Tryz
open Go Go.EL Go.RowKit Go.Proofs
abbrev i'(x:Int):Value:=.int .i64 x
abbrev sl{α:Type}(r:Rp α)(G:Mem)(p:Option Addr)(c:Nat)(xs:List α):Prop:=SlR r G (.slice p xs.length c) xs
abbrev v25'(x:Zo)(lp:Option Addr)(lc:Nat)(gapp:Option Addr)(gapc:Nat):List Value:=[.int .u8 x.n,.slice lp x.l.length lc,.slice gapp x.gap.length gapc]
abbrev v28'(x:ZD):List Value:=[.int .i8 x.n,.int .i8 x.d,.int .u8 x.k]
abbrev v38'(x:Zb)(magp:Option Addr)(magc:Nat):List Value:=[.bool x.neg,.slice magp x.mag.length magc]
abbrev w38'(x:Zb):Mem->Value->Prop:=fun G v=>∃ q0 q1,v = .agg ((v38' x q0 q1)).toArray/\sl (Rp.int .u32) G q0 q1 x.mag
abbrev v40'(x:Zc)(nummagp:Option Addr)(nummagc:Nat)(denmagp:Option Addr)(denmagc:Nat):List Value:=[.bool x.num.neg,.slice nummagp x.num.mag.length nummagc,.bool x.den.neg,.slice denmagp x.den.mag.length denmagc]
abbrev w40'(x:Zc):Mem->Value->Prop:=fun G v=>∃ q0 q1 q2 q3,v = .agg ((v40' x q0 q1 q2 q3)).toArray/\sl (Rp.int .u32) G q0 q1 x.num.mag/\sl (Rp.int .u32) G q2 q3 x.den.mag
abbrev w40t'(x:Zc×Int):Mem->Value->Prop:=fun G v=>∃ q0 q1 q2 q3,v = .tuple #[.agg ((v40' x.1 q0 q1 q2 q3)).toArray,i' x.2]/\sl (Rp.int .u32) G q0 q1 x.1.num.mag/\sl (Rp.int .u32) G q2 q3 x.1.den.mag
abbrev v68'(x:Zf)(pp:Option Addr)(pc:Nat):List Value:=[.int .i64 x.id,.slice pp x.p.length pc]
abbrev v34'(x:Zn)(varsp:Option Addr)(varsc:Nat)(eqsp:Option Addr)(eqsc:Nat)(neqsp:Option Addr)(neqsc:Nat):List Value:=[.slice varsp x.vars.length varsc,.slice eqsp x.eqs.length eqsc,.slice neqsp x.neqs.length neqsc,.int .i64 x.next]
abbrev w34'(x:Zn):Mem->Value->Prop:=fun G v=>∃ q0 q1 q2 q3 q4 q5,v = .agg ((v34' x q0 q1 q2 q3 q4 q5)).toArray/\sl Rp.str G q0 q1 x.vars/\sl Zay G q2 q3 x.eqs/\sl Zay G q4 q5 x.neqs
abbrev v46'(x:Zg)(eqsp:Option Addr)(eqsc:Nat)(neqsp:Option Addr)(neqsc:Nat):List Value:=[.int .i64 x.n,.slice eqsp x.eqs.length eqsc,.slice neqsp x.neqs.length neqsc]
abbrev w46'(x:Zg):Mem->Value->Prop:=fun G v=>∃ q0 q1 q2 q3,v = .agg ((v46' x q0 q1 q2 q3)).toArray/\sl (Rp.sl Zk) G q0 q1 x.eqs/\sl (Rp.sl Zk) G q2 q3 x.neqs
abbrev w46t'(x:Zg×Int):Mem->Value->Prop:=fun G v=>∃ q0 q1 q2 q3,v = .tuple #[.agg ((v46' x.1 q0 q1 q2 q3)).toArray,i' x.2]/\sl (Rp.sl Zk) G q0 q1 x.1.eqs/\sl (Rp.sl Zk) G q2 q3 x.1.neqs
abbrev wl'{α:Type}(R:Rp α)(x:List α):Mem->Value->Prop:=fun G v=>∃ q0 q1,v = .slice q0 x.length q1/\sl @R G q0 q1 x
abbrev wlt'{α:Type}(R:Rp α)(x:List α×Int):Mem->Value->Prop:=fun G v=>∃ q0 q1,v = .tuple #[.slice q0 x.1.length q1,i' x.2]/\sl @R G q0 q1 x.1
abbrev ff:=false
abbrev tt:=true
abbrev vi8(f:Fin 8->Int):List Value:=vecG (Value.int .i64) 8 f
abbrev sv0{α:Type}(p:Option Addr)(l:List α)(c:Nat):Value:=.slice p l.length c
theorem k0'{P:Program}{N:Nat}{fn:Func}{w0:Bs}{G0 G:Mem}{L:Lo}{fr:Fr}{r1:ResultVar}{α:Type}{f:α->Value}{x r:α}(e:x=r)(hr:fn.results = #[r1])(h1:RV P fr L r1 (f x)):WE N (bodyPost P fn (RetL w0 G0 fun _ _ v=>v=f r)) .ret fr (St w0 G0 G L):=e ▸ WE.ret1 hr h1 rfl
abbrev bk0(b:Nat)(c:List Value)(t:TypeId):Option Ow:=some ⟨b,.cells c.toArray t (0,0),0⟩
abbrev pt0(b:Nat):Value:=.pointer (some ⟨b,0,none⟩)
abbrev y31'(G:Mem)(p:Option Addr)(c:Nat)(q:Option Addr)(d:Nat)(r:Option Addr)(e:Nat)(x:Zn):Prop:=sl Rp.str G p c x.vars/\sl Zay G q d x.eqs/\sl Zay G r e x.neqs
theorem f1{f:Fr}{a0:Nat}{b0:Value}(h0:f.get a0=some b0):Fr.sub [(a0,b0)] f:=Fr.Zd h0 (Fr.Zt f)
theorem f2{f:Fr}{a0:Nat}{b0:Value}{a1:Nat}{b1:Value}(h0:f.get a0=some b0)(h1:f.get a1=some b1):Fr.sub [(a0,b0),(a1,b1)] f:=Fr.Zd h0 (Fr.Zd h1 (Fr.Zt f))
theorem f3{f:Fr}{a0:Nat}{b0:Value}{a1:Nat}{b1:Value}{a2:Nat}{b2:Value}(h0:f.get a0=some b0)(h1:f.get a1=some b1)(h2:f.get a2=some b2):Fr.sub [(a0,b0),(a1,b1),(a2,b2)] f:=Fr.Zd h0 (Fr.Zd h1 (Fr.Zd h2 (Fr.Zt f)))
theorem f4{f:Fr}{a0:Nat}{b0:Value}{a1:Nat}{b1:Value}{a2:Nat}{b2:Value}{a3:Nat}{b3:Value}(h0:f.get a0=some b0)(h1:f.get a1=some b1)(h2:f.get a2=some b2)(h3:f.get a3=some b3):Fr.sub [(a0,b0),(a1,b1),(a2,b2),(a3,b3)] f:=Fr.Zd h0 (Fr.Zd h1 (Fr.Zd h2 (Fr.Zd h3 (Fr.Zt f))))
theorem f5{f:Fr}{a0:Nat}{b0:Value}{a1:Nat}{b1:Value}{a2:Nat}{b2:Value}{a3:Nat}{b3:Value}{a4:Nat}{b4:Value}(h0:f.get a0=some b0)(h1:f.get a1=some b1)(h2:f.get a2=some b2)(h3:f.get a3=some b3)(h4:f.get a4=some b4):Fr.sub [(a0,b0),(a1,b1),(a2,b2),(a3,b3),(a4,b4)] f:=Fr.Zd h0 (Fr.Zd h1 (Fr.Zd h2 (Fr.Zd h3 (Fr.Zd h4 (Fr.Zt f)))))
theorem f6{f:Fr}{a0:Nat}{b0:Value}{a1:Nat}{b1:Value}{a2:Nat}{b2:Value}{a3:Nat}{b3:Value}{a4:Nat}{b4:Value}{a5:Nat}{b5:Value}(h0:f.get a0=some b0)(h1:f.get a1=some b1)(h2:f.get a2=some b2)(h3:f.get a3=some b3)(h4:f.get a4=some b4)(h5:f.get a5=some b5):Fr.sub [(a0,b0),(a1,b1),(a2,b2),(a3,b3),(a4,b4),(a5,b5)] f:=Fr.Zd h0 (Fr.Zd h1 (Fr.Zd h2 (Fr.Zd h3 (Fr.Zd h4 (Fr.Zd h5 (Fr.Zt f))))))
theorem f7{f:Fr}{a0:Nat}{b0:Value}{a1:Nat}{b1:Value}{a2:Nat}{b2:Value}{a3:Nat}{b3:Value}{a4:Nat}{b4:Value}{a5:Nat}{b5:Value}{a6:Nat}{b6:Value}(h0:f.get a0=some b0)(h1:f.get a1=some b1)(h2:f.get a2=some b2)(h3:f.get a3=some b3)(h4:f.get a4=some b4)(h5:f.get a5=some b5)(h6:f.get a6=some b6):Fr.sub [(a0,b0),(a1,b1),(a2,b2),(a3,b3),(a4,b4),(a5,b5),(a6,b6)] f:=Fr.Zd h0 (Fr.Zd h1 (Fr.Zd h2 (Fr.Zd h3 (Fr.Zd h4 (Fr.Zd h5 (Fr.Zd h6 (Fr.Zt f)))))))
theorem f8{f:Fr}{a0:Nat}{b0:Value}{a1:Nat}{b1:Value}{a2:Nat}{b2:Value}{a3:Nat}{b3:Value}{a4:Nat}{b4:Value}{a5:Nat}{b5:Value}{a6:Nat}{b6:Value}{a7:Nat}{b7:Value}(h0:f.get a0=some b0)(h1:f.get a1=some b1)(h2:f.get a2=some b2)(h3:f.get a3=some b3)(h4:f.get a4=some b4)(h5:f.get a5=some b5)(h6:f.get a6=some b6)(h7:f.get a7=some b7):Fr.sub [(a0,b0),(a1,b1),(a2,b2),(a3,b3),(a4,b4),(a5,b5),(a6,b6),(a7,b7)] f:=Fr.Zd h0 (Fr.Zd h1 (Fr.Zd h2 (Fr.Zd h3 (Fr.Zd h4 (Fr.Zd h5 (Fr.Zd h6 (Fr.Zd h7 (Fr.Zt f))))))))
theorem f9{f:Fr}{a0:Nat}{b0:Value}{a1:Nat}{b1:Value}{a2:Nat}{b2:Value}{a3:Nat}{b3:Value}{a4:Nat}{b4:Value}{a5:Nat}{b5:Value}{a6:Nat}{b6:Value}{a7:Nat}{b7:Value}{a8:Nat}{b8:Value}(h0:f.get a0=some b0)(h1:f.get a1=some b1)(h2:f.get a2=some b2)(h3:f.get a3=some b3)(h4:f.get a4=some b4)(h5:f.get a5=some b5)(h6:f.get a6=some b6)(h7:f.get a7=some b7)(h8:f.get a8=some b8):Fr.sub [(a0,b0),(a1,b1),(a2,b2),(a3,b3),(a4,b4),(a5,b5),(a6,b6),(a7,b7),(a8,b8)] f:=Fr.Zd h0 (Fr.Zd h1 (Fr.Zd h2 (Fr.Zd h3 (Fr.Zd h4 (Fr.Zd h5 (Fr.Zd h6 (Fr.Zd h7 (Fr.Zd h8 (Fr.Zt f)))))))))
theorem f10{f:Fr}{a0:Nat}{b0:Value}{a1:Nat}{b1:Value}{a2:Nat}{b2:Value}{a3:Nat}{b3:Value}{a4:Nat}{b4:Value}{a5:Nat}{b5:Value}{a6:Nat}{b6:Value}{a7:Nat}{b7:Value}{a8:Nat}{b8:Value}{a9:Nat}{b9:Value}(h0:f.get a0=some b0)(h1:f.get a1=some b1)(h2:f.get a2=some b2)(h3:f.get a3=some b3)(h4:f.get a4=some b4)(h5:f.get a5=some b5)(h6:f.get a6=some b6)(h7:f.get a7=some b7)(h8:f.get a8=some b8)(h9:f.get a9=some b9):Fr.sub [(a0,b0),(a1,b1),(a2,b2),(a3,b3),(a4,b4),(a5,b5),(a6,b6),(a7,b7),(a8,b8),(a9,b9)] f:=Fr.Zd h0 (Fr.Zd h1 (Fr.Zd h2 (Fr.Zd h3 (Fr.Zd h4 (Fr.Zd h5 (Fr.Zd h6 (Fr.Zd h7 (Fr.Zd h8 (Fr.Zd h9 (Fr.Zt f))))))))))
theorem f11{f:Fr}{a0:Nat}{b0:Value}{a1:Nat}{b1:Value}{a2:Nat}{b2:Value}{a3:Nat}{b3:Value}{a4:Nat}{b4:Value}{a5:Nat}{b5:Value}{a6:Nat}{b6:Value}{a7:Nat}{b7:Value}{a8:Nat}{b8:Value}{a9:Nat}{b9:Value}{a10:Nat}{b10:Value}(h0:f.get a0=some b0)(h1:f.get a1=some b1)(h2:f.get a2=some b2)(h3:f.get a3=some b3)(h4:f.get a4=some b4)(h5:f.get a5=some b5)(h6:f.get a6=some b6)(h7:f.get a7=some b7)(h8:f.get a8=some b8)(h9:f.get a9=some b9)(h10:f.get a10=some b10):Fr.sub [(a0,b0),(a1,b1),(a2,b2),(a3,b3),(a4,b4),(a5,b5),(a6,b6),(a7,b7),(a8,b8),(a9,b9),(a10,b10)] f:=Fr.Zd h0 (Fr.Zd h1 (Fr.Zd h2 (Fr.Zd h3 (Fr.Zd h4 (Fr.Zd h5 (Fr.Zd h6 (Fr.Zd h7 (Fr.Zd h8 (Fr.Zd h9 (Fr.Zd h10 (Fr.Zt f)))))))))))
theorem f12{f:Fr}{a0:Nat}{b0:Value}{a1:Nat}{b1:Value}{a2:Nat}{b2:Value}{a3:Nat}{b3:Value}{a4:Nat}{b4:Value}{a5:Nat}{b5:Value}{a6:Nat}{b6:Value}{a7:Nat}{b7:Value}{a8:Nat}{b8:Value}{a9:Nat}{b9:Value}{a10:Nat}{b10:Value}{a11:Nat}{b11:Value}(h0:f.get a0=some b0)(h1:f.get a1=some b1)(h2:f.get a2=some b2)(h3:f.get a3=some b3)(h4:f.get a4=some b4)(h5:f.get a5=some b5)(h6:f.get a6=some b6)(h7:f.get a7=some b7)(h8:f.get a8=some b8)(h9:f.get a9=some b9)(h10:f.get a10=some b10)(h11:f.get a11=some b11):Fr.sub [(a0,b0),(a1,b1),(a2,b2),(a3,b3),(a4,b4),(a5,b5),(a6,b6),(a7,b7),(a8,b8),(a9,b9),(a10,b10),(a11,b11)] f:=Fr.Zd h0 (Fr.Zd h1 (Fr.Zd h2 (Fr.Zd h3 (Fr.Zd h4 (Fr.Zd h5 (Fr.Zd h6 (Fr.Zd h7 (Fr.Zd h8 (Fr.Zd h9 (Fr.Zd h10 (Fr.Zd h11 (Fr.Zt f))))))))))))
theorem f13{f:Fr}{a0:Nat}{b0:Value}{a1:Nat}{b1:Value}{a2:Nat}{b2:Value}{a3:Nat}{b3:Value}{a4:Nat}{b4:Value}{a5:Nat}{b5:Value}{a6:Nat}{b6:Value}{a7:Nat}{b7:Value}{a8:Nat}{b8:Value}{a9:Nat}{b9:Value}{a10:Nat}{b10:Value}{a11:Nat}{b11:Value}{a12:Nat}{b12:Value}(h0:f.get a0=some b0)(h1:f.get a1=some b1)(h2:f.get a2=some b2)(h3:f.get a3=some b3)(h4:f.get a4=some b4)(h5:f.get a5=some b5)(h6:f.get a6=some b6)(h7:f.get a7=some b7)(h8:f.get a8=some b8)(h9:f.get a9=some b9)(h10:f.get a10=some b10)(h11:f.get a11=some b11)(h12:f.get a12=some b12):Fr.sub [(a0,b0),(a1,b1),(a2,b2),(a3,b3),(a4,b4),(a5,b5),(a6,b6),(a7,b7),(a8,b8),(a9,b9),(a10,b10),(a11,b11),(a12,b12)] f:=Fr.Zd h0 (Fr.Zd h1 (Fr.Zd h2 (Fr.Zd h3 (Fr.Zd h4 (Fr.Zd h5 (Fr.Zd h6 (Fr.Zd h7 (Fr.Zd h8 (Fr.Zd h9 (Fr.Zd h10 (Fr.Zd h11 (Fr.Zd h12 (Fr.Zt f)))))))))))))
theorem f14{f:Fr}{a0:Nat}{b0:Value}{a1:Nat}{b1:Value}{a2:Nat}{b2:Value}{a3:Nat}{b3:Value}{a4:Nat}{b4:Value}{a5:Nat}{b5:Value}{a6:Nat}{b6:Value}{a7:Nat}{b7:Value}{a8:Nat}{b8:Value}{a9:Nat}{b9:Value}{a10:Nat}{b10:Value}{a11:Nat}{b11:Value}{a12:Nat}{b12:Value}{a13:Nat}{b13:Value}(h0:f.get a0=some b0)(h1:f.get a1=some b1)(h2:f.get a2=some b2)(h3:f.get a3=some b3)(h4:f.get a4=some b4)(h5:f.get a5=some b5)(h6:f.get a6=some b6)(h7:f.get a7=some b7)(h8:f.get a8=some b8)(h9:f.get a9=some b9)(h10:f.get a10=some b10)(h11:f.get a11=some b11)(h12:f.get a12=some b12)(h13:f.get a13=some b13):Fr.sub [(a0,b0),(a1,b1),(a2,b2),(a3,b3),(a4,b4),(a5,b5),(a6,b6),(a7,b7),(a8,b8),(a9,b9),(a10,b10),(a11,b11),(a12,b12),(a13,b13)] f:=Fr.Zd h0 (Fr.Zd h1 (Fr.Zd h2 (Fr.Zd h3 (Fr.Zd h4 (Fr.Zd h5 (Fr.Zd h6 (Fr.Zd h7 (Fr.Zd h8 (Fr.Zd h9 (Fr.Zd h10 (Fr.Zd h11 (Fr.Zd h12 (Fr.Zd h13 (Fr.Zt f))))))))))))))
theorem f15{f:Fr}{a0:Nat}{b0:Value}{a1:Nat}{b1:Value}{a2:Nat}{b2:Value}{a3:Nat}{b3:Value}{a4:Nat}{b4:Value}{a5:Nat}{b5:Value}{a6:Nat}{b6:Value}{a7:Nat}{b7:Value}{a8:Nat}{b8:Value}{a9:Nat}{b9:Value}{a10:Nat}{b10:Value}{a11:Nat}{b11:Value}{a12:Nat}{b12:Value}{a13:Nat}{b13:Value}{a14:Nat}{b14:Value}(h0:f.get a0=some b0)(h1:f.get a1=some b1)(h2:f.get a2=some b2)(h3:f.get a3=some b3)(h4:f.get a4=some b4)(h5:f.get a5=some b5)(h6:f.get a6=some b6)(h7:f.get a7=some b7)(h8:f.get a8=some b8)(h9:f.get a9=some b9)(h10:f.get a10=some b10)(h11:f.get a11=some b11)(h12:f.get a12=some b12)(h13:f.get a13=some b13)(h14:f.get a14=some b14):Fr.sub [(a0,b0),(a1,b1),(a2,b2),(a3,b3),(a4,b4),(a5,b5),(a6,b6),(a7,b7),(a8,b8),(a9,b9),(a10,b10),(a11,b11),(a12,b12),(a13,b13),(a14,b14)] f:=Fr.Zd h0 (Fr.Zd h1 (Fr.Zd h2 (Fr.Zd h3 (Fr.Zd h4 (Fr.Zd h5 (Fr.Zd h6 (Fr.Zd h7 (Fr.Zd h8 (Fr.Zd h9 (Fr.Zd h10 (Fr.Zd h11 (Fr.Zd h12 (Fr.Zd h13 (Fr.Zd h14 (Fr.Zt f)))))))))))))))
theorem f16{f:Fr}{a0:Nat}{b0:Value}{a1:Nat}{b1:Value}{a2:Nat}{b2:Value}{a3:Nat}{b3:Value}{a4:Nat}{b4:Value}{a5:Nat}{b5:Value}{a6:Nat}{b6:Value}{a7:Nat}{b7:Value}{a8:Nat}{b8:Value}{a9:Nat}{b9:Value}{a10:Nat}{b10:Value}{a11:Nat}{b11:Value}{a12:Nat}{b12:Value}{a13:Nat}{b13:Value}{a14:Nat}{b14:Value}{a15:Nat}{b15:Value}(h0:f.get a0=some b0)(h1:f.get a1=some b1)(h2:f.get a2=some b2)(h3:f.get a3=some b3)(h4:f.get a4=some b4)(h5:f.get a5=some b5)(h6:f.get a6=some b6)(h7:f.get a7=some b7)(h8:f.get a8=some b8)(h9:f.get a9=some b9)(h10:f.get a10=some b10)(h11:f.get a11=some b11)(h12:f.get a12=some b12)(h13:f.get a13=some b13)(h14:f.get a14=some b14)(h15:f.get a15=some b15):Fr.sub [(a0,b0),(a1,b1),(a2,b2),(a3,b3),(a4,b4),(a5,b5),(a6,b6),(a7,b7),(a8,b8),(a9,b9),(a10,b10),(a11,b11),(a12,b12),(a13,b13),(a14,b14),(a15,b15)] f:=Fr.Zd h0 (Fr.Zd h1 (Fr.Zd h2 (Fr.Zd h3 (Fr.Zd h4 (Fr.Zd h5 (Fr.Zd h6 (Fr.Zd h7 (Fr.Zd h8 (Fr.Zd h9 (Fr.Zd h10 (Fr.Zd h11 (Fr.Zd h12 (Fr.Zd h13 (Fr.Zd h14 (Fr.Zd h15 (Fr.Zt f))))))))))))))))
theorem w1{w0:Bs}{G0 G:Mem}{L:Lo}{a0:Nat}{b0:Option Ow}(h0:L.get a0=b0):∀ w,St w0 G0 G L w->St w0 G0 G [(a0,b0)] w:=wk (Lo.Zd h0 (Lo.Zt L))
theorem w2{w0:Bs}{G0 G:Mem}{L:Lo}{a0:Nat}{b0:Option Ow}{a1:Nat}{b1:Option Ow}(h0:L.get a0=b0)(h1:L.get a1=b1):∀ w,St w0 G0 G L w->St w0 G0 G [(a0,b0),(a1,b1)] w:=wk (Lo.Zd h0 (Lo.Zd h1 (Lo.Zt L)))
theorem w3{w0:Bs}{G0 G:Mem}{L:Lo}{a0:Nat}{b0:Option Ow}{a1:Nat}{b1:Option Ow}{a2:Nat}{b2:Option Ow}(h0:L.get a0=b0)(h1:L.get a1=b1)(h2:L.get a2=b2):∀ w,St w0 G0 G L w->St w0 G0 G [(a0,b0),(a1,b1),(a2,b2)] w:=wk (Lo.Zd h0 (Lo.Zd h1 (Lo.Zd h2 (Lo.Zt L))))
theorem w4{w0:Bs}{G0 G:Mem}{L:Lo}{a0:Nat}{b0:Option Ow}{a1:Nat}{b1:Option Ow}{a2:Nat}{b2:Option Ow}{a3:Nat}{b3:Option Ow}(h0:L.get a0=b0)(h1:L.get a1=b1)(h2:L.get a2=b2)(h3:L.get a3=b3):∀ w,St w0 G0 G L w->St w0 G0 G [(a0,b0),(a1,b1),(a2,b2),(a3,b3)] w:=wk (Lo.Zd h0 (Lo.Zd h1 (Lo.Zd h2 (Lo.Zd h3 (Lo.Zt L)))))
theorem w5{w0:Bs}{G0 G:Mem}{L:Lo}{a0:Nat}{b0:Option Ow}{a1:Nat}{b1:Option Ow}{a2:Nat}{b2:Option Ow}{a3:Nat}{b3:Option Ow}{a4:Nat}{b4:Option Ow}(h0:L.get a0=b0)(h1:L.get a1=b1)(h2:L.get a2=b2)(h3:L.get a3=b3)(h4:L.get a4=b4):∀ w,St w0 G0 G L w->St w0 G0 G [(a0,b0),(a1,b1),(a2,b2),(a3,b3),(a4,b4)] w:=wk (Lo.Zd h0 (Lo.Zd h1 (Lo.Zd h2 (Lo.Zd h3 (Lo.Zd h4 (Lo.Zt L))))))
abbrev a':=@underlying36
abbrev b':=@WE.then
abbrev c':=@WC.seq
abbrev f':=@WE.thenExit
abbrev g':=@Zk
abbrev h':=@underlying102
abbrev j':=@WE.thenRet
abbrev k':=@YC.of
abbrev m':=@underlying139
abbrev n':=@Y0.move
abbrev o':=@WE.ret1
abbrev p':=@WL.nil
abbrev q':=@WC.ret
abbrev t':=@WC.skip
abbrev w':=@WC.region
abbrev x':=@WL.storeLA
abbrev y':=@WL.call
abbrev A':=@Y0.loadL
abbrev B':=@Ctr.enter
abbrev C':=@Y0.loadLA
abbrev D':=@Y0.lenR
abbrev E':=@WE.inBlock
abbrev F':=@WE.exitHere
abbrev H':=@WE.inBlockRet
abbrev I':=@WC.cr
abbrev J':=@Y0.add
abbrev K':=@Y0.conv
abbrev M':=@At.mono
abbrev N':=@underlying54
abbrev O':=@WE.backR
abbrev P':=@WL.alloc
abbrev Q':=@Y0.idxR
abbrev R':=@sz139
abbrev T':=@WL.call0
abbrev U':=@WC.block
abbrev V':=@Y0.pickT
abbrev W':=@ag38
abbrev X':=@Y0.pickF
abbrev Y':=@Y0.extract
abbrev Z':=@WC.exit
abbrev aa':=@WC.meetL
abbrev ab':=@WE.endH
abbrev ac':=@Y0.loadG
abbrev ad':=@SlR.at
abbrev ae':=@Y0.lss
abbrev af':=@RV.cellA
abbrev ag':=@Y0.loadLP
abbrev ah':=@WL.box
abbrev ai':=@Y0.ZkV
abbrev aj':=@WC.drawn
abbrev ak':=@AtK.int
abbrev al':=@underlying44
abbrev am':=@Chain.tail0
abbrev an':=@ZB
abbrev ao':=@WE.midH
abbrev ap':=@Y0.sub
abbrev aq':=@ZpW
abbrev ar':=@WE.nx
abbrev as':=@ZgW
abbrev at':=@Chain.callU
abbrev au':=@sc139
abbrev av':=@underlying77
abbrev aw':=@Y0.Znt
abbrev ax':=@Y0.build
abbrev ay':=@SlR.nil
abbrev az':=@WE.endRet
abbrev aA':=@sz38
abbrev aB':=@Y0.idxRow
abbrev aC':=@underlying3
abbrev aD':=@WC.seqX
abbrev aE':=@sc36
abbrev aF':=@Chain.tailU1
abbrev aG':=@Zay
abbrev aH':=@ZaH
abbrev aI':=@WL.storeT
abbrev aJ':=@underlying5
abbrev aK':=@Y0.eql
abbrev aL':=@Y0.gtr
abbrev aM':=@Y0.Znv
abbrev aN':=@ag40
abbrev aO':=@WL.litR
abbrev aP':=@Y0.loadGA
abbrev aQ':=@WL.cr
abbrev aR':=@WC.condT
abbrev aT':=@Y0.Znu
abbrev aU':=@underlying2
abbrev aV':=@Y0.rem
abbrev aW':=@WE.ret2
abbrev aX':=@WC.crB
abbrev aY':=@WL.freezeT
abbrev ba':=@underlying4
abbrev bb':=@Y0.Znx
abbrev bc':=@Y0.geq
abbrev bd':=@Chain.callUU
abbrev bf':=@Y0.not
abbrev bh':=@WE.conseq
abbrev bi':=@underlying32
abbrev bj':=@WL.makeT
abbrev bk':=@sz40
abbrev bl':=@CtrL.enter
abbrev bm':=@Zbu
abbrev bn':=@Y0.idxA0
abbrev bo':=@WL.callT
abbrev bq':=@SlR.std
abbrev br':=@ZhD
abbrev bs':=@SlR.eqv
abbrev bt':=@ag77
abbrev bu':=@Y0.Znw
abbrev bv':=@Y0.quo
abbrev bw':=@Y0.idxRowS
abbrev by':=@sz91
abbrev bB':=@ZlS
abbrev bD':=@Chain.litU
abbrev bE':=@Y0.mul
abbrev bF':=@Y0.leq
abbrev bG':=@WL.appendR
abbrev bH':=@Y0.shr
abbrev bJ':=@WC.condF
abbrev bL':=@underlying26
abbrev bM':=@WL.conseq
abbrev bO':=@el139
abbrev bR':=@Chain.call0
abbrev bT':=@ZhY
abbrev bU':=@Y0.neq
abbrev bW':=@AtK.via
abbrev bX':=@Chain.cr
abbrev bZ':=@underlying23
abbrev ca':=@underlying31
abbrev cc':=@Chain.alloc
abbrev cf':=@underlying9
abbrev cl':=@Chain.y0U
abbrev cq':=@Chain.tailU2
abbrev cr':=@WL.storeL
abbrev ct':=@Y0.loadTS
abbrev cw':=@AtK.sl
abbrev cx':=@Chain.float
abbrev cB':=@underlying167
abbrev cC':=@RowR.zero
abbrev cD':=@Tok.full
abbrev cE':=@underlying110
abbrev cF':=@Chain.floatB
abbrev cG':=@Y0.Zqi
abbrev cK':=@WL.skip
abbrev cP':=@Y0.loadT
abbrev cS':=@AtK.snd
abbrev cU':=@Y0.Zqg
abbrev cV':=@RowS.at
abbrev cW':=@ZmE
abbrev cY':=@WE.exitOut
abbrev db':=@WL.storeTS
abbrev dl':=@RowR.at
abbrev dm':=@Y0.neqB
abbrev ds':=@underlying156
abbrev dv':=@Y0.Zqh
abbrev dx':=@ArRd.size
abbrev dA':=@underlying58
abbrev dB':=@underlying64
abbrev dC':=@underlying41
abbrev dE':=@WL.sliceRH
abbrev dF':=@Y0.ZpH
abbrev dG':=@WL.appendT
end Go.Proofs.YtgllmhmhldlemaaGreat

