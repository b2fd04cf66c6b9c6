/- The law SystemCores holds for every input: a part of its proof (what the code does, plain models, and what they return). No condition. -/
import Derived.Test.YtoakocgcakgpnaaGreatXC11c
import Derived.Test.YtoakocgcakgpnaaGreatXC11b
import Derived.Shelf.SlGeneric
import Derived.Shelf.SlLaysF0
import Derived.Shelf.SlLaysF
import Derived.Ground.SlsfProg
import Derived.Test.YtoakocgcakgpnaaGreatProg
set_option linter.unusedVariables false
set_option linter.unusedSimpArgs false
namespace Go.EL
open Go.IntKind (i8 i16 i32 i64 u8 u16 u32 u64)
open Go Go.RowKit
structure PermN (n:Nat) (π:M):Prop where
 perm:IsPerm π
 fix:∀ i:Fin 8,n<=i.val->π i=(i.val:Int)
def permNB(n:Nat)(π:M):Bool:=decide (∀ i,0<=π i/\π i<8) && decide (∀ i j,π i=π j->i=j) && decide (∀ i:Fin 8,n<=i.val->π i=(i.val:Int))
theorem PermN.of{n:Nat}{π:M}(h:permNB n π=true):PermN n π:=by
 unfold permNB at h
 simp only[Bool.and_eq_true,decide_eq_true_eq] at h
 exact⟨⟨h.1.1,h.1.2⟩,h.2⟩
theorem Zlm:((permsL 1).all (permNB 1) && (permsL 2).all (permNB 2) && (permsL 3).all (permNB 3) && (permsL 4).all (permNB 4))=true:=by decide +kernel
theorem Zmq{n:Nat}(h:1<=n/\n<=4){π:M}(hp:π ∈ permsL n):PermN n π:=by
 have:=Zlm
 simp only[Bool.and_eq_true,List.all_eq_true] at this
 obtain⟨⟨⟨h1,h2⟩,h3⟩,h4⟩:=this
 have hn:n=1\/n=2\/n=3\/n=4:=by omega
 rcases hn with rfl|rfl|rfl|rfl
 .exact .of (h1 π hp)
 .exact .of (h2 π hp)
 .exact .of (h3 π hp)
 exact .of (h4 π hp)
theorem Zkp{n:Nat}:permsL n=(fun i:Fin 8=>(i.val:Int))::(permsL n).tail:=rfl
theorem ZkX{n:Nat}(hn:n<=8){π:M}(h:PermN n π){p:Pol}(hp:PolOk p)(hf:fitB p (n:Int)=true):fitB (permP π p) (n:Int)=true:=by
 obtain⟨h1,h2⟩:=(ZcH hn).1 hf
 refine (ZcH hn).2 ⟨fun t ht i hi=>?_,fun t ht=>?_⟩
 .obtain⟨y,hy,rfl⟩:=List.mem_map.1 ((ZaT h.perm hp.ord).1.mem_iff.1 ht)
  show ¬ 0<permM π y.m i
  rw[ZgF h.perm y.m i i (h.fix i hi).symm]
  exact h1 y hy i hi
 obtain⟨y,hy,rfl⟩:=List.mem_map.1 ((ZaT h.perm hp.ord).1.mem_iff.1 ht)
 show degM (permM π y.m)<=12
 rw[Zfk h.perm]
 exact h2 y hy
theorem Zlk{π:M}(h:IsPerm π){p:Pol}(hp:PolOk p):(permP π p).length=p.length:=by
 rw[(ZaT h hp.ord).1.length_eq,List.length_map]
theorem Zmp{π:M}(h:IsPerm π){p:Pol}(hp:PolOk p)(hne:p≠[]):permP π p≠[]:=fun e=>by
 have:=Zlk h hp
 rw[e] at this
 exact hne (List.length_eq_zero_iff.1 this.symm)
theorem ZmP{p q:Pol}(hp:PolOk p)(hq:PolOk q)(h:∀ d,-1<=d->((∀ t ∈ p,degM t.m<=d)↔∀ t ∈ q,degM t.m<=d)):degP p=degP q:=by
 have low:∀ r:Pol,-1<=degP r:=fun r=>by
  have key:∀ k,-1<=degPTo r k:=by
   intro k
   induction k with
   | zero=>exact Int.le_refl _
   | succ k ih=>
    unfold degPTo
    split
    .split <;> omega
    exact ih
  exact key _
 have h1:=(Zdu (low q)).2 ((h _ (low q)).2 ((Zdu (low q)).1 (Int.le_refl _)))
 have h2:=(Zdu (low p)).2 ((h _ (low p)).1 ((Zdu (low p)).1 (Int.le_refl _)))
 omega
theorem Zlj{π:M}(h:IsPerm π){p:Pol}(hp:PolOk p):degP (permP π p)=degP p:=by
 refine ZmP (ZdK h hp) hp (fun d _=>⟨fun hd t ht=>?_,fun hd t ht=>?_⟩)
 .have:=hd (permT π t) ((ZaT h hp.ord).1.mem_iff.2 (List.mem_map.2 ⟨t,ht,rfl⟩))
  have e:degM (permT π t).m=degM t.m:=Zfk h t.m
  omega
 obtain⟨y,hy,rfl⟩:=List.mem_map.1 ((ZaT h hp.ord).1.mem_iff.1 ht)
 have:=hd y hy
 have e:degM (permT π y).m=degM y.m:=Zfk h y.m
 omega
theorem Zm0{n:Nat}(h:n<=4):fitB oneP (n:Int)=true:=(ZcH (by omega)).2 ⟨fun t ht i _=>by rw[oneP,List.mem_singleton] at ht; subst ht; exact Int.lt_irrefl 0,fun t ht=>by rw[oneP,List.mem_singleton] at ht; subst ht; decide⟩
theorem ZmZ:degP oneP=0:=by decide
theorem ZiP{l:List Pol}{plain:Bool}{q:Pol}(h:q ∈ kept l plain):∃ p ∈ l,q=primP p/\p≠[]/\(plain=true->degP p≠0):=by
 obtain⟨h1,h2⟩:=List.mem_filter.1 h
 obtain⟨p,hp,rfl⟩:=List.mem_map.1 h1
 unfold keepP at h2
 simp only[Bool.and_eq_true,Bool.not_eq_true',Bool.and_eq_false_iff] at h2
 refine⟨p,hp,rfl,fun e=>?_,fun e=>?_⟩
 .rw[e] at h2; cases h2.1
 rcases h2.2 with h2|h2
 .rw[e] at h2; cases h2
 rw[Zbr] at h2; exact of_decide_eq_false h2
theorem ZjU{n:Nat}(hn:n<=4){least:Int}{l:List Pol}(hl:(srtP l).length<=12)(h:∀ p ∈ l,PolOk p/\fitB p (n:Int)=true/\p≠[]/\primP p=p/\least<=degP p):PartOk (n:Int) least (srtP l):=by
 obtain⟨s1,s2⟩:=ZeT (l:=l) (fun p hp=>(h p hp).1.good)
 exact⟨hl,fun p hp=>h p ((s2 p).1 hp),s1⟩
theorem ZjH{n:Nat}(hn:1<=n/\n<=4){eqs neqs:List Pol}(he:∀ p ∈ eqs,PolOk p/\fitB p (n:Int)=true)(hi:∀ p ∈ neqs,PolOk p/\fitB p (n:Int)=true)(l1:(srtP (eqsF eqs neqs)).length<=12)(l2:(srtP (kept neqs true)).length<=12):
  CoreOk ⟨(n:Int),srtP (eqsF eqs neqs),srtP (kept neqs true)⟩ where
 n:=by show 1<=(n:Int)/\(n:Int)<=4; omega
 eqs:=ZjU hn.2 l1 fun p hp=>by
  rcases List.mem_append.1 hp with h|h
  .obtain⟨q,hq,rfl,h0,_⟩:=ZiP h
   have ho:=(he q hq).1
   exact⟨ZfS ho,by rw[Zi1]; exact (he q hq).2,fun e=>h0 (ZcP.1 e),Zh2 ho,by rw[Zbr]; exact Zdq ho h0⟩
  rw[ZiW p h]
  exact⟨Zlh,Zm0 hn.2,by decide,Zml,by rw[ZmZ]; decide⟩
 neqs:=ZjU hn.2 l2 fun p hp=>by
  obtain⟨q,hq,rfl,h0,h1⟩:=ZiP hp
  have ho:=(hi q hq).1
  have:=Zdq ho h0
  have:=h1 rfl
  exact⟨ZfS ho,by rw[Zi1]; exact (hi q hq).2,fun e=>h0 (ZcP.1 e),Zh2 ho,by rw[Zbr]; omega⟩
def permK(k:Ze)(π:M):Ze:=(normF k.n (k.eqs.map (permP π)) (k.neqs.map (permP π))).1
theorem ZfC{l:List Pol}(h:∀ p ∈ l,p≠[]):onesF l=[]:=by
 unfold onesF
 rw[List.filter_eq_nil_iff.2 fun p hp=>by simpa using h p hp]
 rfl
structure Perm1 (k:Ze) (π:M):Prop where
 norm:normF k.n (k.eqs.map (permP π)) (k.neqs.map (permP π))=(permK k π,0)
 eq:permK k π=⟨k.n,srtP (eqsF (k.eqs.map (permP π)) (k.neqs.map (permP π))),srtP (kept (k.neqs.map (permP π)) true)⟩
 core:CoreOk (permK k π)
theorem Zlc{l:List Pol}{n:Nat}{least:Int}(hn:n<=4)(h:PartOk (n:Int) least l){π:M}(hπ:PermN n π):∀ p ∈ l.map (permP π),PolOk p/\fitB p (n:Int)=true/\p≠[]/\least<=degP p:=fun p hp=>by
 obtain⟨q,hq,rfl⟩:=List.mem_map.1 hp
 obtain⟨q1,q2,q3,q4,q5⟩:=h.pol q hq
 exact⟨ZdK hπ.perm q1,ZkX (by omega) hπ q1 q2,Zmp hπ.perm q1 q3,by rw[Zlj hπ.perm q1]; exact q5⟩
theorem perm1{k:Ze}(h:CoreOk k){π:M}(hπ:PermN k.n.toNat π):Perm1 k π:=by
 obtain⟨n,eqs,neqs⟩:=k
 obtain⟨m,rfl,m1,m4⟩:=Zhf h.n
 dsimp only at hπ ⊢
 rw[Int.toNat_natCast] at hπ
 have he:=Zlc m4 h.eqs hπ
 have hi:=Zlc m4 h.neqs hπ
 have l1:(srtP (eqsF (eqs.map (permP π)) (neqs.map (permP π)))).length<=12:=by
  have q1:=ZfT (eqsF (eqs.map (permP π)) (neqs.map (permP π)))
  have q2:=Zad (eqs.map (permP π)) false
  have q3:=h.eqs.len
  unfold eqsF at q1
  rw[ZfC (fun p hp=>(hi p hp).2.2.1),List.append_nil] at q1
  unfold eqsF
  rw[ZfC (fun p hp=>(hi p hp).2.2.1),List.append_nil]
  rw[List.length_map] at q2
  dsimp only at q3
  omega
 have l2:(srtP (kept (neqs.map (permP π)) true)).length<=12:=by
  have q1:=ZfT (kept (neqs.map (permP π)) true)
  have q2:=Zad (neqs.map (permP π)) true
  have q3:=h.neqs.len
  rw[List.length_map] at q2
  dsimp only at q3
  omega
 have hc:=ZjH ⟨m1,m4⟩ (fun p hp=>⟨(he p hp).1,(he p hp).2.1⟩) (fun p hp=>⟨(hi p hp).1,(hi p hp).2.1⟩) l1 l2
 have hall:(eqs.map (permP π)++neqs.map (permP π)).all (fun p=>fitB p (m:Int))=true:=List.all_eq_true.2 fun p hp=>(List.mem_append.1 hp).elim (fun h=>(he p h).2.1) (fun h=>(hi p h).2.1)
 have hN:normF (m:Int) (eqs.map (permP π)) (neqs.map (permP π))=(⟨(m:Int),srtP (eqsF (eqs.map (permP π)) (neqs.map (permP π))),srtP (kept (neqs.map (permP π)) true)⟩,0):=by
  unfold normF
  rw[if_pos ⟨by omega,by omega⟩,if_pos hall,if_neg (by omega),if_neg (by omega)]
 have hE:permK ⟨(m:Int),eqs,neqs⟩ π=⟨(m:Int),srtP (eqsF (eqs.map (permP π)) (neqs.map (permP π))),srtP (kept (neqs.map (permP π)) true)⟩:=by
  unfold permK
  dsimp only
  rw[hN]
 exact⟨by rw[hN,hE],hE,by rw[hE]; exact hc⟩
theorem ZfE{l:List Pol}(hl:l.length<=100)(h:∀ p ∈ l,PolOk p){π:M}(hπ:IsPerm π):(Zbd l π).Ret (l.map (permP π)):=by
 refine⟨⟨by omega,by omega⟩,?_⟩
 refine Cq.Zn l.length (fun k s=>s=((l.take k).map (permP π)++List.replicate (l.length-k) [],(k:Int))) (fun k s hk hs=>?_) (fun s hs=>?_) (by show _=_; simp)
 .subst hs
  have hlen:((l.take k).map (permP π)++List.replicate (l.length-k) ([]:Pol)).length=l.length:=by simp; omega
  refine Cq.wp.yes (by omega) ⟨_,idxN hk,_,Zjj hπ (h _ (List.getElem_mem hk)),_,idxN (by rw[hlen]; exact hk),?_⟩
  show _=_
  rw[wrapN (by omega),Int.toNat_natCast,List.take_succ_eq_append_getElem hk,List.map_append,List.map_singleton]
  congr 1
  rw[List.set_append,if_neg (by rw[List.length_map,List.length_take]; omega)]
  have e:l.length-k=(l.length-(k+1))+1:=by omega
  have hk2:k-((l.take k).map (permP π)).length=0:=by simp; omega
  rw[hk2,e,List.replicate_succ,List.set_cons_zero,List.append_assoc]
  rfl
 subst hs
 refine Cq.wp.no (by omega) ?_
 show _=_
 rw[List.take_of_length_le (Nat.le_refl _)]
 simp
def bestF(k:Ze):List M->Ze×M->Ze×M
 | [],s=>s
 | π::l,s=>bestF k l (if Op.bytesLess (keyB (permK k π)).toList (keyB s.1).toList=true then (permK k π,π) else s)
def canonF(k:Ze):Ze×M:=bestF k (permsL k.n.toNat).tail (permK k (fun i=>(i.val:Int)),fun i=>(i.val:Int))
theorem Zj7(l:List Int):(bytesOf l).size=l.length:=by
 have key:∀ (l:List Int) (b:ByteArray),(l.foldl (fun r n=>r.push (UInt8.ofNat n.toNat)) b).size=b.size+l.length:=by
  intro l
  induction l with
  | nil=>intro b; rfl
  | cons x l ih=>intro b; rw[List.foldl_cons,ih,ByteArray.size_push,List.length_cons]; omega
 have:=key l ByteArray.empty
 unfold bytesOf
 rw[this]
 simp
theorem Znj(k:Ze):keyB k≠ByteArray.empty:=fun e=>by
 have h1:=Zj7 (coreW k)
 have h2:(keyB k).size=0:=by rw[e]; rfl
 unfold keyB at h2
 rw[h1] at h2
 have:1<=(numW k.n).length:=by
  unfold numW natW natG
  split <;> simp
 unfold coreW at h2
 simp only[List.length_append] at h2
 omega
theorem Zg2{k:Ze}(h:CoreOk k){π:M}(hπ:PermN k.n.toNat π){s:Ze×M×ByteArray}:
  (canonS k π s).Ret (if s.2.2=ByteArray.empty then (permK k π,π,keyB (permK k π)) else if Op.bytesLess (keyB (permK k π)).toList s.2.2.toList=true then (permK k π,π,keyB (permK k π)) else s):=by
 have l1:=h.eqs.len
 have l2:=h.neqs.len
 have hp:=perm1 h hπ
 refine⟨_,ZfE (by omega) (fun p hp=>(h.eqs.pol p hp).1) hπ.perm,_,ZfE (by omega) (fun p hp=>(h.neqs.pol p hp).1) hπ.perm,(permK k π,0),?_,Cq.wp.no (fun h=>h rfl) ⟨_,ZmI hp.core,?_⟩⟩
 .rw[<- hp.norm]
  refine Zef (by rw[List.length_map]; omega) (by rw[List.length_map]; omega) (fun p hp=>?_) (fun p hp=>?_)
  .obtain⟨q,hq,rfl⟩:=List.mem_map.1 hp
   exact ZdK hπ.perm (h.eqs.pol q hq).1
  obtain⟨q,hq,rfl⟩:=List.mem_map.1 hp
  exact ZdK hπ.perm (h.neqs.pol q hq).1
 by_cases h1:s.2.2=ByteArray.empty
 .rw[if_pos h1]; exact Cq.wp.yes h1 rfl
 rw[if_neg h1]
 refine Cq.wp.no h1 ?_
 by_cases h2:Op.bytesLess (keyB (permK k π)).toList s.2.2.toList=true
 .refine Cq.wp.yes h2 ?_
  show _=_
  rw[if_pos h2]
 refine Cq.wp.no h2 ?_
 show _=_
 rw[if_neg h2]
theorem ZeH{k:Ze}(h:CoreOk k):∀ {l:List M}{c:Ze}{f:M},(∀ π ∈ l,PermN k.n.toNat π)->(canonL k l (c,f,keyB c)).Ret ((bestF k l (c,f)).1,(bestF k l (c,f)).2,keyB (bestF k l (c,f)).1)
 | [],_,_,_=>rfl
 | π::l,c,f,hl=>by
  refine⟨_,Zg2 h (hl π (by simp)),?_⟩
  dsimp only
  rw[if_neg (Znj c)]
  unfold bestF
  split
  .exact ZeH h (fun x hx=>hl x (by simp[hx]))
  exact ZeH h (fun x hx=>hl x (by simp[hx]))
theorem permsN{k:Ze}(h:CoreOk k):∀ π ∈ permsL k.n.toNat,PermN k.n.toNat π:=fun _ hp=>Zmq (by have:=h.n; omega) hp
theorem ZkG{k:Ze}(h:CoreOk k):(ZdM k).Ret (canonF k):=by
 refine⟨h.n,((canonF k).1,(canonF k).2,keyB (canonF k).1),?_,rfl⟩
 have hp:=permsN h
 rw[Zkp] at hp ⊢
 refine⟨_,Zg2 h (hp _ (by simp)),?_⟩
 rw[if_pos rfl]
 exact ZeH h (fun x hx=>hp x (by simp[hx]))
end Go.EL

namespace Go.EL
open Go.IntKind (i8 i16 i32 i64 u8 u16 u32 u64)
open Go Go.RowKit
def polB(p:Pol):Bool:=decide (p.Pairwise fun x y=>0<cmpM x.m y.m) && p.all (fun t=>goodC t.c && decide (∀ i,0<=t.m i/\t.m i<=65535)) && decide (p.length<=100)
theorem PolOk.of{p:Pol}(h:polB p=true):PolOk p:=by
 unfold polB at h
 simp only[Bool.and_eq_true,decide_eq_true_eq,List.all_eq_true] at h
 obtain⟨⟨h1,h2⟩,h3⟩:=h
 refine⟨h1,fun t ht=>⟨?_,(h2 t ht).2⟩,h3⟩
 obtain⟨n,e,n0,n1,n2⟩:=ZdH (h2 t ht).1
 exact⟨n,e,n0,n1,n2⟩
instance decStrict (l:List Pol):Decidable (Strict l):=inferInstanceAs (Decidable (l.Pairwise fun a b=>cmpP a b<0))
def partB(n least:Int)(l:List Pol):Bool:=decide (l.length<=12) && l.all (fun p=>polB p && fitB p n && !p.isEmpty && decide (primP p=p) && decide (least<=degP p)) && decide (Strict l)
theorem PartOk.of{n least:Int}{l:List Pol}(h:partB n least l=true):PartOk n least l:=by
 unfold partB at h
 simp only[Bool.and_eq_true,decide_eq_true_eq,List.all_eq_true,Bool.not_eq_true'] at h
 obtain⟨⟨h1,h2⟩,h3⟩:=h
 refine⟨h1,fun p hp=>?_,h3⟩
 obtain⟨⟨⟨⟨q1,q2⟩,q3⟩,q4⟩,q5⟩:=h2 p hp
 exact⟨.of q1,q2,by simpa using q3,q4,q5⟩
def coreB(k:Ze):Bool:=decide (1<=k.n/\k.n<=4) && partB k.n 0 k.eqs && partB k.n 1 k.neqs
theorem CoreOk.of{k:Ze}(h:coreB k=true):CoreOk k:=by
 unfold coreB at h
 simp only[Bool.and_eq_true,decide_eq_true_eq] at h
 exact⟨h.1.1,.of h.1.2,.of h.2⟩
def vM(a b:Int):M:=fun i=>if i.val=0 then a else if i.val=1 then b else 0
def tP(c a b:Int):Pol:=[⟨ratI c,vM a b⟩]
def lessP:Pol:=[⟨ratI 1,vM 1 0⟩,⟨ratI (-1),vM 0 0⟩]
def exK:Ze:=⟨2,[lessP,[⟨ratI 1,vM 1 0⟩,⟨ratI 1,vM 0 2⟩]],[]⟩
def exL':List Pol:=[[⟨ratI 1,vM 0 1⟩,⟨ratI (-1),vM 0 0⟩],[⟨ratI 1,vM 2 0⟩,⟨ratI 1,vM 0 1⟩]]
def swapM:M:=fun i=>if i.val=0 then 1 else if i.val=1 then 0 else (i.val:Int)
theorem Znm:CoreOk exK:=.of (by decide +kernel)
instance decCoreT:DecidableEq Ze:=fun ⟨a1,a2,a3⟩ ⟨b1,b2,b3⟩=>decidable_of_iff (a1=b1/\a2=b2/\a3=b3) (by simp)
theorem Zl2:canonF exK=(⟨2,exL',[]⟩,swapM):=by decide +kernel
def exM:Ze:=⟨1,[[⟨ratI 1,vM 1 0⟩,⟨ratI (-2),vM 0 0⟩]],[]⟩
theorem ZiG:ZcK.Ret true:=by
 refine⟨tP 1 1 0,Cq.Ret.Zo 100 (by decide +kernel),tP 1 0 0,Cq.Ret.Zo 100 (by decide +kernel),lessP,Cq.Ret.Zo 100 (by decide +kernel),tP 1 0 0,Cq.Ret.Zo 100 (by decide +kernel),tP 2 1 0,Cq.Ret.Zo 100 (by decide +kernel),tP 4 0 0,Cq.Ret.Zo 100 (by decide +kernel),[⟨ratI 2,vM 1 0⟩,⟨ratI (-4),vM 0 0⟩],Cq.Ret.Zo 100 (by decide +kernel),tP 2 0 0,Cq.Ret.Zo 100 (by decide +kernel),tP 1 1 0,Cq.Ret.Zo 100 (by decide +kernel),[⟨ratI (-1),vM 1 0⟩,⟨ratI 2,vM 0 0⟩],Cq.Ret.Zo 100 (by decide +kernel),tP 3 0 0,Cq.Ret.Zo 100 (by decide +kernel),(exM,0),Cq.Ret.Zo 100 (by decide +kernel),(⟨2,[tP 1 0 0],[]⟩,0),Cq.Ret.Zo 100 (by decide +kernel),tP 1 0 1,Cq.Ret.Zo 100 (by decide +kernel),(zeroK,1),Cq.Ret.Zo 100 (by decide +kernel),(zeroK,320),Cq.Ret.Zo 100 (by decide +kernel),tP 1 1 0,Cq.Ret.Zo 100 (by decide +kernel),tP 1 0 2,Cq.Ret.Zo 100 (by decide +kernel),[⟨ratI 1,vM 1 0⟩,⟨ratI 1,vM 0 2⟩],Cq.Ret.Zo 100 (by decide +kernel),(⟨2,exL',[]⟩,swapM),(by rw[<- Zl2]; exact ZkG Znm),tP 1 0 1,Cq.Ret.Zo 100 (by decide +kernel),[⟨ratI 1,vM 0 1⟩,⟨ratI (-1),vM 0 0⟩],Cq.Ret.Zo 100 (by decide +kernel),tP 1 2 0,Cq.Ret.Zo 100 (by decide +kernel),tP 1 0 1,Cq.Ret.Zo 100 (by decide +kernel),[⟨ratI 1,vM 2 0⟩,⟨ratI 1,vM 0 1⟩],Cq.Ret.Zo 100 (by decide +kernel),?_⟩
 refine Cq.wp.no (fun h=>h rfl) (Cq.wp.no (fun h=>h rfl) (Cq.wp.no (fun h=>h rfl) (Cq.wp.no (fun h=>h rfl) ⟨true,Cq.Ret.Zo 100 (by decide +kernel),Cq.wp.no (fun h=>h (by decide +kernel)) ?_⟩)))
 exact Cq.Ret.Zo 100 (by decide +kernel)
end Go.EL

namespace Go.EL
open Go.IntKind (i8 i16 i32 i64 u8 u16 u32 u64)
open Go Go.RowKit
structure PrefE (n:Nat) (next:Int) (l:List Zg) (k:Nat):Prop where
 ids:∀ i (h:i<l.length),i<k->1<=l[i].id/\l[i].id<next
 inc:∀ i (h:i+1<l.length),i+1<k->l[i].id<l[i+1].id
 pol:∀ i (h:i<l.length),i<k->PolOk l[i].p/\fitB l[i].p (n:Int)=true
theorem PrefE.zero(n:Nat)(next:Int)(l:List Zg):PrefE n next l 0:=⟨fun _ _ h=>absurd h (Nat.not_lt_zero _),fun _ _ h=>absurd h (Nat.not_lt_zero _),fun _ _ h=>absurd h (Nat.not_lt_zero _)⟩
theorem wrapP{j:Nat}(h:j<1000000000):i64.wrap (((j+1:Nat):Int)-1)=(j:Int):=by rw[wrap64 (by omega)]; omega
end Go.EL

namespace Go.EL
open Go.IntKind (i8 i16 i32 i64 u8 u16 u32 u64)
open Go Go.RowKit
end Go.EL

namespace Go.EL
open Go.IntKind (i8 i16 i32 i64 u8 u16 u32 u64)
open Go Go.RowKit
theorem ZjS(n:Nat)(next:Int):EqsOk n next []:=⟨by simp,fun q hq=>absurd hq List.not_mem_nil,List.Pairwise.nil,fun q hq=>absurd hq List.not_mem_nil⟩
end Go.EL

namespace Go.EL
open Go.IntKind (i8 i16 i32 i64 u8 u16 u32 u64)
open Go Go.RowKit
structure Raw32Ok (x:Zp):Prop where
 n:0<=x.n/\x.n<=255
 l:∀ y ∈ x.l,RawOk y
 gap:∀ g ∈ x.gap,0<=g/\g<=255
theorem Zmh{y:Zv}(h:RawOk y){n:Nat}(hn:n<=4){d:Int}(d0:0<=d)(d12:d<=12){k:Nat}(hk:k<=4):PolOk (madeP y n d k)/\fitB (madeP y n d k) (n:Int)=true:=by
 have hm:=Zmg h hn d0 k
 refine⟨hm.pol (by omega) (by omega) (by omega),(ZcH (by omega)).2 ⟨fun t ht i hi=>?_,fun t ht=>?_⟩⟩
 .have:=(hm.mon t ht).2.1 i hi
  omega
 have:=(hm.mon t ht).2.2
 omega
theorem EqsOk.upS{n:Nat}{next next':Int}{l:List Zg}(h:EqsOk n next l)(h2:next<=next'):EqsOk n next' l:=⟨h.len,fun q hq=>⟨(h.ids q hq).1,Int.lt_of_lt_of_le (h.ids q hq).2 h2⟩,h.inc,h.pol⟩
theorem EqsOk.snoc{n:Nat}{next:Int}{l:List Zg}(h:EqsOk n next l)(hl:l.length<12){i:Int}{p:Pol}(hp:PolOk p/\fitB p (n:Int)=true)(h1:1<=next)(hi:next<=i):EqsOk n (i+1) (l++[⟨i,p⟩]) where
 len:=by rw[List.length_append,List.length_singleton]; omega
 ids:=fun q hq=>by
  rcases List.mem_append.1 hq with hq|hq
  .have:=h.ids q hq; omega
  rw[List.mem_singleton] at hq; subst hq
  show 1<=i/\i<i+1
  omega
 inc:=by
  rw[List.pairwise_append]
  refine⟨h.inc,List.pairwise_singleton _ _,fun a ha b hb=>?_⟩
  rw[List.mem_singleton] at hb; subst hb
  have:=h.ids a ha
  show a.id<i
  omega
 pol:=fun q hq=>by
  rcases List.mem_append.1 hq with hq|hq
  .exact h.pol q hq
  rw[List.mem_singleton] at hq; subst hq; exact hp
def gapAt(x:Zp)(k:Nat):Int:=if 0<x.gap.length then Int.tmod (x.gap.getD (k % x.gap.length) 0) 4 else 0
def made32(x:Zp)(n:Nat):Nat->List Zg×List Zg×Int
 | 0=>([],[],1)
 | k+1=>
  if k % 3=2 then ((made32 x n k).1,(made32 x n k).2.1++[⟨(made32 x n k).2.2+gapAt x k,madeP (x.l.getD k ⟨[]⟩) n 2 3⟩],(made32 x n k).2.2+gapAt x k+1)
  else ((made32 x n k).1++[⟨(made32 x n k).2.2+gapAt x k,madeP (x.l.getD k ⟨[]⟩) n 2 3⟩],(made32 x n k).2.1,(made32 x n k).2.2+gapAt x k+1)
theorem Zjv(x:Zp)(n k:Nat):made32 x n (k+1) =
  if k % 3=2 then ((made32 x n k).1,(made32 x n k).2.1++[⟨(made32 x n k).2.2+gapAt x k,madeP (x.l.getD k ⟨[]⟩) n 2 3⟩],(made32 x n k).2.2+gapAt x k+1)
  else ((made32 x n k).1++[⟨(made32 x n k).2.2+gapAt x k,madeP (x.l.getD k ⟨[]⟩) n 2 3⟩],(made32 x n k).2.1,(made32 x n k).2.2+gapAt x k+1):=rfl
theorem Zk0{x:Zp}(h:Raw32Ok x)(k:Nat):0<=gapAt x k/\gapAt x k<=3:=by
 unfold gapAt
 split
 .rename_i hp
  have hlt:k % x.gap.length<x.gap.length:=Nat.mod_lt _ hp
  have hg:=h.gap (x.gap[k % x.gap.length]) (List.getElem_mem hlt)
  rw[List.getD_eq_getElem?_getD,List.getElem?_eq_getElem hlt,Option.getD_some]
  have:=Zey hg.1 (show (0:Int)<4 by decide)
  omega
 omega
structure MadeI (n:Nat) (k:Nat) (s:List Zg×List Zg×Int):Prop where
 next:1<=s.2.2/\s.2.2<=1+4*k
 eqs:EqsOk n s.2.2 s.1
 neqs:EqsOk n s.2.2 s.2.1
 apart:∀ a ∈ s.1,∀ b ∈ s.2.1,a.id≠b.id
 len:s.1.length+s.2.1.length<=k
theorem Zmv{x:Zp}(h:Raw32Ok x)(k:Nat):RawOk (x.l.getD k ⟨[]⟩):=by
 rw[List.getD_eq_getElem?_getD]
 cases he:x.l[k]? with
 | none=>exact fun v hv=>by cases hv
 | some y=>exact h.l y (List.mem_of_getElem? he)
theorem Zfw{x:Zp}(h:Raw32Ok x){n:Nat}(hn:n<=4):∀ k,k<=6->MadeI n k (made32 x n k)
 | 0,_=>⟨⟨Int.le_refl 1,(by decide:(1:Int)<=1+4*0)⟩,ZjS _ _,ZjS _ _,fun a ha=>absurd ha List.not_mem_nil,Nat.le_refl 0⟩
 | k+1,hk=>by
  have ih:=Zfw h hn k (by omega)
  obtain⟨g0,g3⟩:=Zk0 h k
  have hp:=Zmh (Zmv h k) hn (d:=2) (by decide) (by decide) (k:=3) (by decide)
  have hnx:=ih.next
  have hl:=ih.len
  unfold made32
  generalize made32 x n k=s at *
  obtain⟨e,i,nx⟩:=s
  dsimp only at *
  by_cases h3:k % 3=2
  .rw[if_pos h3]
   refine⟨⟨by show 1<=nx+gapAt x k+1; omega,by show nx+gapAt x k+1<=_; omega⟩,ih.eqs.upS (by show nx<=nx+gapAt x k+1; omega),ih.neqs.snoc (by show i.length<12; omega) hp (by show 1<=nx; omega) (by show nx<=nx+gapAt x k; omega),fun a ha b hb=>?_,by show e.length+(i++[_]).length<=k+1; rw[List.length_append,List.length_singleton]; omega⟩
   rcases List.mem_append.1 hb with hb|hb
   .exact ih.apart a ha b hb
   rw[List.mem_singleton] at hb; subst hb
   have:=(ih.eqs.ids a ha).2
   show a.id≠nx+gapAt x k
   dsimp only at this
   omega
  rw[if_neg h3]
  refine⟨⟨by show 1<=nx+gapAt x k+1; omega,by show nx+gapAt x k+1<=_; omega⟩,ih.eqs.snoc (by show e.length<12; omega) hp (by show 1<=nx; omega) (by show nx<=nx+gapAt x k; omega),ih.neqs.upS (by show nx<=nx+gapAt x k+1; omega),fun a ha b hb=>?_,by show (e++[_]).length+i.length<=k+1; rw[List.length_append,List.length_singleton]; omega⟩
  rcases List.mem_append.1 ha with ha|ha
  .exact ih.apart a ha b hb
  rw[List.mem_singleton] at ha; subst ha
  have:=(ih.neqs.ids b hb).2
  show nx+gapAt x k≠b.id
  dsimp only at this
  omega
def names32:List ByteArray:=[ZG,ZF,ZC]
theorem Zkl:(names32.all nameB && decide (names32.Pairwise fun a b=>a≠b))=true:=by decide +kernel
def nOf(x:Zp):Nat:=x.n.toNat % 4
def madeS32(x:Zp):Zm:=⟨names32.take (nOf x),(made32 x (nOf x) (min x.l.length 6)).1,(made32 x (nOf x) (min x.l.length 6)).2.1,(made32 x (nOf x) (min x.l.length 6)).2.2⟩
theorem Zhe(x:Zp):nOf x<4:=Nat.mod_lt _ (by decide)
theorem ZfB(x:Zp):(names32.take (nOf x)).length=nOf x:=by
 have:=Zhe x
 rw[List.length_take]
 show min _ 3=_
 omega
theorem Zkk{x:Zp}(h:Raw32Ok x):Good (madeS32 x)/\(madeS32 x).eqs.length+(madeS32 x).neqs.length<=6:=by
 have hn:=Zhe x
 have hi:=Zfw h (n:=nOf x) (by omega) (min x.l.length 6) (by omega)
 have hN:=Zkl
 simp only[Bool.and_eq_true,List.all_eq_true,decide_eq_true_eq] at hN
 have hl:=hi.len
 have hx:=hi.next
 refine⟨⟨by show (names32.take _).length<=4; rw[ZfB]; omega,fun v hv=>hN.1 v (List.mem_of_mem_take hv),hN.2.sublist (List.take_sublist _ _),⟨hx.1,?_⟩,?_,?_,hi.apart⟩,?_⟩
 .show (made32 x (nOf x) (min x.l.length 6)).2.2<=1000000
  omega
 .show EqsOk (names32.take _).length _ _
  rw[ZfB]; exact hi.eqs
 .show EqsOk (names32.take _).length _ _
  rw[ZfB]; exact hi.neqs
 show (made32 x (nOf x) (min x.l.length 6)).1.length+(made32 x (nOf x) (min x.l.length 6)).2.1.length<=6
 omega
theorem tmod4n{x:Zp}(h:Raw32Ok x):i64.wrap (Int.tmod x.n 4)=((nOf x:Nat):Int):=by
 obtain⟨h0,h1⟩:=h.n
 have e:Int.tmod x.n 4=((nOf x:Nat):Int):=by
  rw[Int.tmod_eq_emod_of_nonneg h0]
  unfold nOf
  omega
 have:=Zhe x
 rw[e,wrap64 (by omega)]
theorem Zj1{x:Zp}(h:Raw32Ok x):(ZeG x).Ret (madeS32 x):=by
 have hn:=Zhe x
 unfold ZeG
 rw[tmod4n h]
 refine⟨⟨Int.le_refl 0,by omega,by show ((nOf x:Nat):Int)<=3; omega⟩,?_⟩
 have stop:∀ s:List Zg×List Zg×Int,s=made32 x (nOf x) (min x.l.length 6)->(ZbQ ((names32.take ((nOf x:Nat):Int).toNat).drop (0:Int).toNat) s.1 s.2.1 s.2.2).Ret (madeS32 x):=fun s hs=>by
  subst hs
  show _=_
  rw[Int.toNat_natCast]
  rfl
 refine Cq.Zn (min x.l.length 6) (fun k s=>s=((k:Int),(names32.take ((nOf x:Nat):Int).toNat).drop (0:Int).toNat,(made32 x (nOf x) k).1,(made32 x (nOf x) k).2.1,(made32 x (nOf x) k).2.2)) (fun k s hk hs=>?_) (fun s hs=>?_) rfl
 .subst hs
  have hi:=Zfw h (n:=nOf x) (by omega) k (by omega)
  have hkl:k<x.l.length:=by omega
  have hx:=hi.next
  have hl:=hi.len
  obtain⟨g0,g3⟩:=Zk0 h k
  refine Cq.wp.yes (by omega) (Cq.wp.yes (by omega) ?_)
  have key:(ZcS x (k:Int) ((names32.take ((nOf x:Nat):Int).toNat).drop (0:Int).toNat) (made32 x (nOf x) k).1 (made32 x (nOf x) k).2.1 (made32 x (nOf x) k).2.2 (gapAt x k)).wp (Out (fun s=>s=(((k+1:Nat):Int),(names32.take ((nOf x:Nat):Int).toNat).drop (0:Int).toNat,(made32 x (nOf x) (k+1)).1,(made32 x (nOf x) (k+1)).2.1,(made32 x (nOf x) (k+1)).2.2)) fun o=>(match o with|(bxvars1,bxeqs1,bxneqs1,bxnext1)=>ZbQ bxvars1 bxeqs1 bxneqs1 bxnext1).wp fun a=>a=madeS32 x):=by
   refine⟨_,idxN hkl,madeP x.l[k] (nOf x) 2 3,?_,?_⟩
   .rw[tmod4n h]
    exact ZlQ (h.l _ (List.getElem_mem hkl)) (by omega) (by decide) (by decide) (k:=3) (by decide)
   have eg:x.l.getD k ⟨[]⟩=x.l[k]:=by rw[List.getD_eq_getElem?_getD,List.getElem?_eq_getElem hkl]; rfl
   have ew:i64.wrap ((made32 x (nOf x) k).2.2+gapAt x k)=(made32 x (nOf x) k).2.2+gapAt x k:=wrap64 (by omega)
   have ew2:i64.wrap ((made32 x (nOf x) k).2.2+gapAt x k+1)=(made32 x (nOf x) k).2.2+gapAt x k+1:=wrap64 (by omega)
   have em:Int.tmod (k:Int) 3=((k % 3:Nat):Int):=by rw[Int.tmod_eq_emod_of_nonneg (by omega)]; omega
   rw[Zjv]
   by_cases h3:k % 3=2
   .rw[if_pos h3]
    refine Cq.wp.yes (by rw[em]; omega) ⟨?_,?_⟩
    .rw[List.length_append,List.length_singleton]; simp only[small]; omega
    show _=_
    rw[wrapN (by omega),ew,ew2,eg]
   rw[if_neg h3]
   refine Cq.wp.no (by rw[em]; omega) ⟨?_,?_⟩
   .rw[List.length_append,List.length_singleton]; simp only[small]; omega
   show _=_
   rw[wrapN (by omega),ew,ew2,eg]
  show (ZcT x (k:Int) _ _ _ _).wp _
  unfold ZcT
  by_cases hg:0<x.gap.length
  .have hlt:k % x.gap.length<x.gap.length:=Nat.mod_lt _ hg
   have em:Int.tmod (k:Int) (x.gap.length:Int)=((k % x.gap.length:Nat):Int):=by rw[Int.tmod_eq_emod_of_nonneg (by omega)]; rfl
   refine Cq.wp.yes (by omega) ⟨by omega,?_⟩
   rw[em]
   refine⟨_,idxN hlt,?_⟩
   have ea:gapAt x k=Int.tmod x.gap[k % x.gap.length] 4:=by
    unfold gapAt
    rw[if_pos hg,List.getD_eq_getElem?_getD,List.getElem?_eq_getElem hlt,Option.getD_some]
   dsimp only
   rw[<- ea,wrap64 (by omega)]
   exact key
  have ea:gapAt x k=0:=if_neg hg
  refine Cq.wp.no (by omega) ?_
  rw[ea] at key
  exact key
 subst hs
 by_cases hl:x.l.length<=6
 .refine Cq.wp.no (by omega) ?_
  exact stop _ rfl
 refine Cq.wp.yes (by omega) (Cq.wp.no (by omega) ?_)
 exact stop _ rfl
end Go.EL

namespace Go.Proofs.YtoakocgcakgpnaaGreat
open Go.IntKind (i8 i16 i32 i64 u8 u16 u32 u64)
open Go.Proofs.Tryz
open Go Go.EL Go.RowKit Go.Proofs
def ok93(x:Zv):Prop:=(∀ y ∈ x.t,∀ i,(Lit.int .i8 (y i)).wf=true)
def ok37(x:Zp):Prop:=((Lit.int .u8 x.n).wf=true)/\(∀ y ∈ x.l,ok93 y)/\(∀ y ∈ x.gap,(Lit.int .u8 y).wf=true)
theorem opens93(W:World):Opens prog W 93 ZaL (ok93):=by
 have h:=Opens.struct (W:=W) underlying93 (by kernel_rfl) (OpensF.last rfl (by kernel_rfl) (Opens.sl underlying91 (by kernel_rfl) (by decide) (Opens.vec underlying137 underlying54 (by kernel_rfl) (by kernel_rfl)))) (fun (x:Zv)=>x.t) (fun y=>⟨y⟩) (fun _=>rfl)
 exact h
theorem opens37(W:World):Opens prog W 37 ZfH (ok37):=by
 have h:=Opens.struct (W:=W) underlying37 (by kernel_rfl) (OpensF.cons rfl (by kernel_rfl) (Opens.int underlying5) (OpensF.cons rfl (by kernel_rfl) (Opens.sl underlying22 (by kernel_rfl) (by decide) (opens93 W)) (OpensF.last rfl (by kernel_rfl) (Opens.sl underlying35 (by kernel_rfl) (by decide) (Opens.int underlying5))))) (fun (x:Zp)=>(x.n,x.l,x.gap)) (fun y=>⟨y.1,y.2.1,y.2.2⟩) (fun _=>rfl)
 exact h
theorem Znl{x:Zv}(h:ok93 x):RawOk x:=fun v hv j=>wf_i8 (h v hv j)
theorem Zmu{x:Zp}(h:ok37 x):Raw32Ok x:=⟨wf_u8 h.1,fun y hy=>Znl (h.2.1 y hy),fun g hg=>wf_u8 (h.2.2 g hg)⟩
set_option maxRecDepth 100000 in
theorem Zkn{W:World}{base:Nat}{v:Value}{H:Type}{enc:TypeId×Value->H}{b:Nat}{d:DataW H}{ps:List MemPlace}(hok:Value.okWide prog W .any base 37 v)(h:DataW.Trod enc prog W b (fun _=>true) true 37 v d ps):∃ (x:Zp) (p:Option Addr) (c:Nat) (q:Option Addr) (e:Nat),v = .agg ([.int .u8 x.n,.slice p x.l.length c,.slice q x.gap.length e]).toArray/\SlR ZaL (allMem W) (.slice p x.l.length c) x.l/\SlR (Rp.int .u8) (allMem W) (.slice q x.gap.length e) x.gap/\Raw32Ok x:=by
 obtain⟨cs,x,rfl,h2,h3⟩:=Zjx underlying37 (opens37 W) hok h
 obtain⟨p,c,q,e,k1,k2,k3⟩:=ZiB (K:=fun j u=>cs[j]? = some u) (ZlU h2)
 exact⟨x,p,c,q,e,by rw[ZlX h2 (by rfl) k1],k2,k3,Zmu h3⟩
end Go.Proofs.YtoakocgcakgpnaaGreat

namespace Go.Proofs
open Go.IntKind (i8 i16 i32 i64 u8 u16 u32 u64)
open Go.Shelf
def Tryz.Zlw:Go.Shelf.Ren:=⟨fun|14=>217|20=>226|21=>227|22=>228|23=>229|24=>230|25=>231|26=>232|27=>233|46=>236|47=>222|48=>223|49=>237|50=>238|15=>187|57=>240|28=>201|29=>210|n=>n,fun|24=>119|22=>64|3=>3|25=>186|4=>4|0=>0|46=>219|45=>218|50=>223|66=>234|39=>187|55=>164|70=>238|76=>246|77=>247|53=>182|5=>5|9=>9|n=>n,fun|n=>n⟩
theorem Tryz.sortL:Go.Proofs.SlLaysF0.n14 Tryz.prog Tryz.Zlw:={
 mixed:=by kernel_rfl
 f14:=⟨Tryz.f217.name,by decide,Tryz.func217.trans (congrArg some (by kernel_rfl))⟩
 f15:=Tryz.func187.trans (congrArg some (by kernel_rfl))
 f20:=⟨Tryz.f226.name,by decide,Tryz.func226.trans (congrArg some (by kernel_rfl))⟩
 f21:=⟨Tryz.f227.name,by decide,Tryz.func227.trans (congrArg some (by kernel_rfl))⟩
 f22:=⟨Tryz.f228.name,by decide,Tryz.func228.trans (congrArg some (by kernel_rfl))⟩
 f23:=⟨Tryz.f229.name,by decide,Tryz.func229.trans (congrArg some (by kernel_rfl))⟩
 f24:=⟨Tryz.f230.name,by decide,Tryz.func230.trans (congrArg some (by kernel_rfl))⟩
 f25:=⟨Tryz.f231.name,by decide,Tryz.func231.trans (congrArg some (by kernel_rfl))⟩
 f26:=⟨Tryz.f232.name,by decide,Tryz.func232.trans (congrArg some (by kernel_rfl))⟩
 f27:=⟨Tryz.f233.name,by decide,Tryz.func233.trans (congrArg some (by kernel_rfl))⟩
 f28:=Tryz.func201.trans (congrArg some (by kernel_rfl))
 f29:=Tryz.func210.trans (congrArg some (by kernel_rfl))
 f46:=⟨Tryz.f236.name,by decide,Tryz.func236.trans (congrArg some (by kernel_rfl))⟩
 f47:=Tryz.func222.trans (congrArg some (by kernel_rfl))
 f48:=Tryz.func223.trans (congrArg some (by kernel_rfl))
 f49:=⟨Tryz.f237.name,by decide,Tryz.func237.trans (congrArg some (by kernel_rfl))⟩
 f50:=⟨Tryz.f238.name,by decide,Tryz.func238.trans (congrArg some (by kernel_rfl))⟩
 f57:=⟨Tryz.f240.name,by decide,Tryz.func240.trans (congrArg some (by kernel_rfl))⟩
 t0:=Tryz.underlying0
 a0:=Tryz.isAgg0
 z0:=Tryz.sizeOf0
 v0:=Tryz.zeroValue0
 t3:=Tryz.underlying3
 a3:=Tryz.isAgg3
 z3:=Tryz.sizeOf3
 v3:=Tryz.zeroValue3
 t4:=Tryz.underlying4
 a4:=Tryz.isAgg4
 z4:=Tryz.sizeOf4
 v4:=Tryz.zeroValue4
 t5:=Tryz.underlying5
 a5:=Tryz.isAgg5
 z5:=Tryz.sizeOf5
 v5:=Tryz.zeroValue5
 t9:=Tryz.underlying9
 a9:=Tryz.isAgg9
 z9:=Tryz.sizeOf9
 v9:=Tryz.zeroValue9
 t22:=Tryz.underlying64
 a22:=Tryz.isAgg64
 z22:=Tryz.sizeOf64
 v22:=Tryz.zeroValue64
 t25:=Tryz.underlying186
 a25:=Tryz.isAgg186
 z25:=Tryz.sizeOf186
 v25:=Tryz.zeroValue186
 t39:=Tryz.underlying187
 a39:=Tryz.isAgg187
 z39:=Tryz.sizeOf187
 v39:=Tryz.zeroValue187
 t45:=Tryz.underlying218
 a45:=Tryz.isAgg218
 z45:=Tryz.sizeOf218
 v45:=Tryz.zeroValue218
 t46:=Tryz.underlying219
 a46:=Tryz.isAgg219
 z46:=Tryz.sizeOf219
 v46:=Tryz.zeroValue219
 t50:=Tryz.underlying223
 a50:=Tryz.isAgg223
 z50:=Tryz.sizeOf223
 v50:=Tryz.zeroValue223
 t53:=Tryz.underlying182
 a53:=Tryz.isAgg182
 z53:=Tryz.sizeOf182
 v53:=Tryz.zeroValue182
 t55:=Tryz.underlying164
 a55:=Tryz.isAgg164
 z55:=Tryz.sizeOf164
 v55:=Tryz.zeroValue164
 t66:=Tryz.underlying234
 a66:=Tryz.isAgg234
 z66:=Tryz.sizeOf234
 v66:=Tryz.zeroValue234
 t70:=Tryz.underlying238
 a70:=Tryz.isAgg238
 z70:=Tryz.sizeOf238
 v70:=Tryz.zeroValue238
 t76:=Tryz.underlying246
 a76:=Tryz.isAgg246
 z76:=Tryz.sizeOf246
 v76:=Tryz.zeroValue246
 t77:=Tryz.underlying247
 a77:=Tryz.isAgg247
 z77:=Tryz.sizeOf247
 v77:=Tryz.zeroValue247 }
def Tryz.Zlx:Go.Shelf.Ren:=⟨fun|14=>186|20=>202|21=>203|22=>204|23=>205|24=>206|25=>207|26=>208|27=>209|46=>221|47=>222|48=>223|49=>224|50=>225|15=>187|57=>235|28=>201|29=>210|n=>n,fun|24=>65|22=>25|3=>3|25=>153|4=>4|0=>0|46=>219|45=>218|50=>223|66=>234|39=>187|55=>164|70=>238|76=>246|77=>247|53=>182|5=>5|9=>9|n=>n,fun|n=>n⟩
theorem Tryz.sortQ:Go.Proofs.SlLaysF.n14 Tryz.prog Tryz.Zlx:={
 mixed:=by kernel_rfl
 f14:=⟨Tryz.f186.name,by decide,Tryz.func186.trans (congrArg some (by kernel_rfl))⟩
 f15:=Tryz.func187.trans (congrArg some (by kernel_rfl))
 f20:=⟨Tryz.f202.name,by decide,Tryz.func202.trans (congrArg some (by kernel_rfl))⟩
 f21:=⟨Tryz.f203.name,by decide,Tryz.func203.trans (congrArg some (by kernel_rfl))⟩
 f22:=⟨Tryz.f204.name,by decide,Tryz.func204.trans (congrArg some (by kernel_rfl))⟩
 f23:=⟨Tryz.f205.name,by decide,Tryz.func205.trans (congrArg some (by kernel_rfl))⟩
 f24:=⟨Tryz.f206.name,by decide,Tryz.func206.trans (congrArg some (by kernel_rfl))⟩
 f25:=⟨Tryz.f207.name,by decide,Tryz.func207.trans (congrArg some (by kernel_rfl))⟩
 f26:=⟨Tryz.f208.name,by decide,Tryz.func208.trans (congrArg some (by kernel_rfl))⟩
 f27:=⟨Tryz.f209.name,by decide,Tryz.func209.trans (congrArg some (by kernel_rfl))⟩
 f28:=Tryz.func201.trans (congrArg some (by kernel_rfl))
 f29:=Tryz.func210.trans (congrArg some (by kernel_rfl))
 f46:=⟨Tryz.f221.name,by decide,Tryz.func221.trans (congrArg some (by kernel_rfl))⟩
 f47:=Tryz.func222.trans (congrArg some (by kernel_rfl))
 f48:=Tryz.func223.trans (congrArg some (by kernel_rfl))
 f49:=⟨Tryz.f224.name,by decide,Tryz.func224.trans (congrArg some (by kernel_rfl))⟩
 f50:=⟨Tryz.f225.name,by decide,Tryz.func225.trans (congrArg some (by kernel_rfl))⟩
 f57:=⟨Tryz.f235.name,by decide,Tryz.func235.trans (congrArg some (by kernel_rfl))⟩
 t0:=Tryz.underlying0
 a0:=Tryz.isAgg0
 z0:=Tryz.sizeOf0
 v0:=Tryz.zeroValue0
 t3:=Tryz.underlying3
 a3:=Tryz.isAgg3
 z3:=Tryz.sizeOf3
 v3:=Tryz.zeroValue3
 t4:=Tryz.underlying4
 a4:=Tryz.isAgg4
 z4:=Tryz.sizeOf4
 v4:=Tryz.zeroValue4
 t5:=Tryz.underlying5
 a5:=Tryz.isAgg5
 z5:=Tryz.sizeOf5
 v5:=Tryz.zeroValue5
 t9:=Tryz.underlying9
 a9:=Tryz.isAgg9
 z9:=Tryz.sizeOf9
 v9:=Tryz.zeroValue9
 t22:=Tryz.underlying25
 a22:=Tryz.isAgg25
 z22:=Tryz.sizeOf25
 v22:=Tryz.zeroValue25
 a24:=Tryz.isAgg65
 z24:=Tryz.sizeOf65
 t25:=Tryz.underlying153
 a25:=Tryz.isAgg153
 z25:=Tryz.sizeOf153
 v25:=Tryz.zeroValue153
 t39:=Tryz.underlying187
 a39:=Tryz.isAgg187
 z39:=Tryz.sizeOf187
 v39:=Tryz.zeroValue187
 t45:=Tryz.underlying218
 a45:=Tryz.isAgg218
 z45:=Tryz.sizeOf218
 v45:=Tryz.zeroValue218
 t46:=Tryz.underlying219
 a46:=Tryz.isAgg219
 z46:=Tryz.sizeOf219
 v46:=Tryz.zeroValue219
 t50:=Tryz.underlying223
 a50:=Tryz.isAgg223
 z50:=Tryz.sizeOf223
 v50:=Tryz.zeroValue223
 t53:=Tryz.underlying182
 a53:=Tryz.isAgg182
 z53:=Tryz.sizeOf182
 v53:=Tryz.zeroValue182
 t55:=Tryz.underlying164
 a55:=Tryz.isAgg164
 z55:=Tryz.sizeOf164
 v55:=Tryz.zeroValue164
 t66:=Tryz.underlying234
 a66:=Tryz.isAgg234
 z66:=Tryz.sizeOf234
 v66:=Tryz.zeroValue234
 t70:=Tryz.underlying238
 a70:=Tryz.isAgg238
 z70:=Tryz.sizeOf238
 v70:=Tryz.zeroValue238
 t76:=Tryz.underlying246
 a76:=Tryz.isAgg246
 z76:=Tryz.sizeOf246
 v76:=Tryz.zeroValue246
 t77:=Tryz.underlying247
 a77:=Tryz.isAgg247
 z77:=Tryz.sizeOf247
 v77:=Tryz.zeroValue247 }
end Go.Proofs

namespace Go.Proofs.YtoakocgcakgpnaaGreat
open Go.IntKind (i8 i16 i32 i64 u8 u16 u32 u64)
open Go.Proofs.Tryz
open Go Go.EL Go.RowKit Go.Proofs
abbrev i'(x:Int):Value:=.int .i64 x
abbrev sl{α:Type}(r:Rp α)(G:Mem)(p:Option Addr)(c:Nat)(xs:List α):Prop:=SlR r G (.slice p xs.length c) xs
abbrev v57'(x:Zb)(magp:Option Addr)(magc:Nat):List Value:=[.bool x.neg,.slice magp x.mag.length magc]
abbrev w57'(x:Zb):Mem->Value->Prop:=fun G v=>∃ q0 q1,v = .agg ((v57' x q0 q1)).toArray/\sl (Rp.int .u32) G q0 q1 x.mag
abbrev v59'(x:Zf)(nummagp:Option Addr)(nummagc:Nat)(denmagp:Option Addr)(denmagc:Nat):List Value:=[.bool x.num.neg,.slice nummagp x.num.mag.length nummagc,.bool x.den.neg,.slice denmagp x.den.mag.length denmagc]
abbrev w59'(x:Zf):Mem->Value->Prop:=fun G v=>∃ q0 q1 q2 q3,v = .agg ((v59' x q0 q1 q2 q3)).toArray/\sl (Rp.int .u32) G q0 q1 x.num.mag/\sl (Rp.int .u32) G q2 q3 x.den.mag
abbrev w59t'(x:Zf×Int):Mem->Value->Prop:=fun G v=>∃ q0 q1 q2 q3,v = .tuple #[.agg ((v59' x.1 q0 q1 q2 q3)).toArray,i' x.2]/\sl (Rp.int .u32) G q0 q1 x.1.num.mag/\sl (Rp.int .u32) G q2 q3 x.1.den.mag
abbrev v28'(x:Ze)(eqsp:Option Addr)(eqsc:Nat)(neqsp:Option Addr)(neqsc:Nat):List Value:=[.int .i64 x.n,.slice eqsp x.eqs.length eqsc,.slice neqsp x.neqs.length neqsc]
abbrev w28'(x:Ze):Mem->Value->Prop:=fun G v=>∃ q0 q1 q2 q3,v = .agg ((v28' x q0 q1 q2 q3)).toArray/\sl (Rp.sl Zj) G q0 q1 x.eqs/\sl (Rp.sl Zj) G q2 q3 x.neqs
abbrev w28t'(x:Ze×Int):Mem->Value->Prop:=fun G v=>∃ q0 q1 q2 q3,v = .tuple #[.agg ((v28' x.1 q0 q1 q2 q3)).toArray,i' x.2]/\sl (Rp.sl Zj) G q0 q1 x.1.eqs/\sl (Rp.sl Zj) G q2 q3 x.1.neqs
abbrev v37'(x:Zp)(lp:Option Addr)(lc:Nat)(gapp:Option Addr)(gapc:Nat):List Value:=[.int .u8 x.n,.slice lp x.l.length lc,.slice gapp x.gap.length gapc]
abbrev v70'(x:Zg)(pp:Option Addr)(pc:Nat):List Value:=[.int .i64 x.id,.slice pp x.p.length pc]
abbrev v42'(x:Zm)(varsp:Option Addr)(varsc:Nat)(eqsp:Option Addr)(eqsc:Nat)(neqsp:Option Addr)(neqsc:Nat):List Value:=[.slice varsp x.vars.length varsc,.slice eqsp x.eqs.length eqsc,.slice neqsp x.neqs.length neqsc,.int .i64 x.next]
abbrev w42'(x:Zm):Mem->Value->Prop:=fun G v=>∃ q0 q1 q2 q3 q4 q5,v = .agg ((v42' x q0 q1 q2 q3 q4 q5)).toArray/\sl Rp.str G q0 q1 x.vars/\sl Z9 G q2 q3 x.eqs/\sl Z9 G q4 q5 x.neqs
abbrev v62'(x:ZbR):List Value:=[.int .i8 x.n,.int .i8 x.d,.int .u8 x.k]
abbrev wl'{α:Type}(R:Rp α)(x:List α):Mem->Value->Prop:=fun G v=>∃ q0 q1,v = .slice q0 x.length q1/\sl @R G q0 q1 x
abbrev wlt'{α:Type}(R:Rp α)(x:List α×Int):Mem->Value->Prop:=fun G v=>∃ q0 q1,v = .tuple #[.slice q0 x.1.length q1,i' x.2]/\sl @R G q0 q1 x.1
abbrev ff:=false
abbrev tt:=true
theorem k0'{P:Program}{N:Nat}{fn:Func}{w0:Bs}{G0 G:Mem}{L:Lo}{fr:Fr}{r1:ResultVar}{α:Type}{f:α->Value}{x r:α}(e:x=r)(hr:fn.results = #[r1])(h1:RV P fr L r1 (f x)):WE N (bodyPost P fn (RetL w0 G0 fun _ _ v=>v=f r)) .ret fr (St w0 G0 G L):=e ▸ WE.ret1 hr h1 rfl
abbrev bk0(b:Nat)(c:List Value)(t:TypeId):Option Ow:=some ⟨b,.cells c.toArray t (0,0),0⟩
abbrev pt0(b:Nat):Value:=.pointer (some ⟨b,0,none⟩)
theorem sx0{P:Program}{N:Nat}{Q:Post}{fr:Fr}{S:Asrt}{ops:Array Oper}{dst:Option Nat}{ty:TypeId}{pos:String}{af:Array Edge}{y:Code}{v:Value}{x:Operand}(h:fr.ev x=some v)(hd:dstOK N dst)(k:WC P N y Q (putFr dst v fr) S):WL P N ops (Exit.then (y.wp P Q) Q) [⟨dst,.assign x,ty,pos,af,none⟩] fr S:=sg h hd (nx k)
abbrev y31'(G:Mem)(p:Option Addr)(c:Nat)(q:Option Addr)(d:Nat)(r:Option Addr)(e:Nat)(x:Zm):Prop:=sl Rp.str G p c x.vars/\sl Z9 G q d x.eqs/\sl Z9 G r e x.neqs
theorem f1{f:Fr}{a0:Nat}{b0:Value}(h0:f.get a0=some b0):Fr.sub [(a0,b0)] f:=Fr.Zc h0 (Fr.Zt f)
theorem f2{f:Fr}{a0:Nat}{b0:Value}{a1:Nat}{b1:Value}(h0:f.get a0=some b0)(h1:f.get a1=some b1):Fr.sub [(a0,b0),(a1,b1)] f:=Fr.Zc h0 (Fr.Zc h1 (Fr.Zt f))
theorem f3{f:Fr}{a0:Nat}{b0:Value}{a1:Nat}{b1:Value}{a2:Nat}{b2:Value}(h0:f.get a0=some b0)(h1:f.get a1=some b1)(h2:f.get a2=some b2):Fr.sub [(a0,b0),(a1,b1),(a2,b2)] f:=Fr.Zc h0 (Fr.Zc h1 (Fr.Zc h2 (Fr.Zt f)))
theorem f4{f:Fr}{a0:Nat}{b0:Value}{a1:Nat}{b1:Value}{a2:Nat}{b2:Value}{a3:Nat}{b3:Value}(h0:f.get a0=some b0)(h1:f.get a1=some b1)(h2:f.get a2=some b2)(h3:f.get a3=some b3):Fr.sub [(a0,b0),(a1,b1),(a2,b2),(a3,b3)] f:=Fr.Zc h0 (Fr.Zc h1 (Fr.Zc h2 (Fr.Zc h3 (Fr.Zt f))))
theorem f5{f:Fr}{a0:Nat}{b0:Value}{a1:Nat}{b1:Value}{a2:Nat}{b2:Value}{a3:Nat}{b3:Value}{a4:Nat}{b4:Value}(h0:f.get a0=some b0)(h1:f.get a1=some b1)(h2:f.get a2=some b2)(h3:f.get a3=some b3)(h4:f.get a4=some b4):Fr.sub [(a0,b0),(a1,b1),(a2,b2),(a3,b3),(a4,b4)] f:=Fr.Zc h0 (Fr.Zc h1 (Fr.Zc h2 (Fr.Zc h3 (Fr.Zc h4 (Fr.Zt f)))))
theorem f6{f:Fr}{a0:Nat}{b0:Value}{a1:Nat}{b1:Value}{a2:Nat}{b2:Value}{a3:Nat}{b3:Value}{a4:Nat}{b4:Value}{a5:Nat}{b5:Value}(h0:f.get a0=some b0)(h1:f.get a1=some b1)(h2:f.get a2=some b2)(h3:f.get a3=some b3)(h4:f.get a4=some b4)(h5:f.get a5=some b5):Fr.sub [(a0,b0),(a1,b1),(a2,b2),(a3,b3),(a4,b4),(a5,b5)] f:=Fr.Zc h0 (Fr.Zc h1 (Fr.Zc h2 (Fr.Zc h3 (Fr.Zc h4 (Fr.Zc h5 (Fr.Zt f))))))
theorem f7{f:Fr}{a0:Nat}{b0:Value}{a1:Nat}{b1:Value}{a2:Nat}{b2:Value}{a3:Nat}{b3:Value}{a4:Nat}{b4:Value}{a5:Nat}{b5:Value}{a6:Nat}{b6:Value}(h0:f.get a0=some b0)(h1:f.get a1=some b1)(h2:f.get a2=some b2)(h3:f.get a3=some b3)(h4:f.get a4=some b4)(h5:f.get a5=some b5)(h6:f.get a6=some b6):Fr.sub [(a0,b0),(a1,b1),(a2,b2),(a3,b3),(a4,b4),(a5,b5),(a6,b6)] f:=Fr.Zc h0 (Fr.Zc h1 (Fr.Zc h2 (Fr.Zc h3 (Fr.Zc h4 (Fr.Zc h5 (Fr.Zc h6 (Fr.Zt f)))))))
theorem f8{f:Fr}{a0:Nat}{b0:Value}{a1:Nat}{b1:Value}{a2:Nat}{b2:Value}{a3:Nat}{b3:Value}{a4:Nat}{b4:Value}{a5:Nat}{b5:Value}{a6:Nat}{b6:Value}{a7:Nat}{b7:Value}(h0:f.get a0=some b0)(h1:f.get a1=some b1)(h2:f.get a2=some b2)(h3:f.get a3=some b3)(h4:f.get a4=some b4)(h5:f.get a5=some b5)(h6:f.get a6=some b6)(h7:f.get a7=some b7):Fr.sub [(a0,b0),(a1,b1),(a2,b2),(a3,b3),(a4,b4),(a5,b5),(a6,b6),(a7,b7)] f:=Fr.Zc h0 (Fr.Zc h1 (Fr.Zc h2 (Fr.Zc h3 (Fr.Zc h4 (Fr.Zc h5 (Fr.Zc h6 (Fr.Zc h7 (Fr.Zt f))))))))
theorem f9{f:Fr}{a0:Nat}{b0:Value}{a1:Nat}{b1:Value}{a2:Nat}{b2:Value}{a3:Nat}{b3:Value}{a4:Nat}{b4:Value}{a5:Nat}{b5:Value}{a6:Nat}{b6:Value}{a7:Nat}{b7:Value}{a8:Nat}{b8:Value}(h0:f.get a0=some b0)(h1:f.get a1=some b1)(h2:f.get a2=some b2)(h3:f.get a3=some b3)(h4:f.get a4=some b4)(h5:f.get a5=some b5)(h6:f.get a6=some b6)(h7:f.get a7=some b7)(h8:f.get a8=some b8):Fr.sub [(a0,b0),(a1,b1),(a2,b2),(a3,b3),(a4,b4),(a5,b5),(a6,b6),(a7,b7),(a8,b8)] f:=Fr.Zc h0 (Fr.Zc h1 (Fr.Zc h2 (Fr.Zc h3 (Fr.Zc h4 (Fr.Zc h5 (Fr.Zc h6 (Fr.Zc h7 (Fr.Zc h8 (Fr.Zt f)))))))))
theorem f10{f:Fr}{a0:Nat}{b0:Value}{a1:Nat}{b1:Value}{a2:Nat}{b2:Value}{a3:Nat}{b3:Value}{a4:Nat}{b4:Value}{a5:Nat}{b5:Value}{a6:Nat}{b6:Value}{a7:Nat}{b7:Value}{a8:Nat}{b8:Value}{a9:Nat}{b9:Value}(h0:f.get a0=some b0)(h1:f.get a1=some b1)(h2:f.get a2=some b2)(h3:f.get a3=some b3)(h4:f.get a4=some b4)(h5:f.get a5=some b5)(h6:f.get a6=some b6)(h7:f.get a7=some b7)(h8:f.get a8=some b8)(h9:f.get a9=some b9):Fr.sub [(a0,b0),(a1,b1),(a2,b2),(a3,b3),(a4,b4),(a5,b5),(a6,b6),(a7,b7),(a8,b8),(a9,b9)] f:=Fr.Zc h0 (Fr.Zc h1 (Fr.Zc h2 (Fr.Zc h3 (Fr.Zc h4 (Fr.Zc h5 (Fr.Zc h6 (Fr.Zc h7 (Fr.Zc h8 (Fr.Zc h9 (Fr.Zt f))))))))))
theorem f11{f:Fr}{a0:Nat}{b0:Value}{a1:Nat}{b1:Value}{a2:Nat}{b2:Value}{a3:Nat}{b3:Value}{a4:Nat}{b4:Value}{a5:Nat}{b5:Value}{a6:Nat}{b6:Value}{a7:Nat}{b7:Value}{a8:Nat}{b8:Value}{a9:Nat}{b9:Value}{a10:Nat}{b10:Value}(h0:f.get a0=some b0)(h1:f.get a1=some b1)(h2:f.get a2=some b2)(h3:f.get a3=some b3)(h4:f.get a4=some b4)(h5:f.get a5=some b5)(h6:f.get a6=some b6)(h7:f.get a7=some b7)(h8:f.get a8=some b8)(h9:f.get a9=some b9)(h10:f.get a10=some b10):Fr.sub [(a0,b0),(a1,b1),(a2,b2),(a3,b3),(a4,b4),(a5,b5),(a6,b6),(a7,b7),(a8,b8),(a9,b9),(a10,b10)] f:=Fr.Zc h0 (Fr.Zc h1 (Fr.Zc h2 (Fr.Zc h3 (Fr.Zc h4 (Fr.Zc h5 (Fr.Zc h6 (Fr.Zc h7 (Fr.Zc h8 (Fr.Zc h9 (Fr.Zc h10 (Fr.Zt f)))))))))))
theorem f12{f:Fr}{a0:Nat}{b0:Value}{a1:Nat}{b1:Value}{a2:Nat}{b2:Value}{a3:Nat}{b3:Value}{a4:Nat}{b4:Value}{a5:Nat}{b5:Value}{a6:Nat}{b6:Value}{a7:Nat}{b7:Value}{a8:Nat}{b8:Value}{a9:Nat}{b9:Value}{a10:Nat}{b10:Value}{a11:Nat}{b11:Value}(h0:f.get a0=some b0)(h1:f.get a1=some b1)(h2:f.get a2=some b2)(h3:f.get a3=some b3)(h4:f.get a4=some b4)(h5:f.get a5=some b5)(h6:f.get a6=some b6)(h7:f.get a7=some b7)(h8:f.get a8=some b8)(h9:f.get a9=some b9)(h10:f.get a10=some b10)(h11:f.get a11=some b11):Fr.sub [(a0,b0),(a1,b1),(a2,b2),(a3,b3),(a4,b4),(a5,b5),(a6,b6),(a7,b7),(a8,b8),(a9,b9),(a10,b10),(a11,b11)] f:=Fr.Zc h0 (Fr.Zc h1 (Fr.Zc h2 (Fr.Zc h3 (Fr.Zc h4 (Fr.Zc h5 (Fr.Zc h6 (Fr.Zc h7 (Fr.Zc h8 (Fr.Zc h9 (Fr.Zc h10 (Fr.Zc h11 (Fr.Zt f))))))))))))
theorem f13{f:Fr}{a0:Nat}{b0:Value}{a1:Nat}{b1:Value}{a2:Nat}{b2:Value}{a3:Nat}{b3:Value}{a4:Nat}{b4:Value}{a5:Nat}{b5:Value}{a6:Nat}{b6:Value}{a7:Nat}{b7:Value}{a8:Nat}{b8:Value}{a9:Nat}{b9:Value}{a10:Nat}{b10:Value}{a11:Nat}{b11:Value}{a12:Nat}{b12:Value}(h0:f.get a0=some b0)(h1:f.get a1=some b1)(h2:f.get a2=some b2)(h3:f.get a3=some b3)(h4:f.get a4=some b4)(h5:f.get a5=some b5)(h6:f.get a6=some b6)(h7:f.get a7=some b7)(h8:f.get a8=some b8)(h9:f.get a9=some b9)(h10:f.get a10=some b10)(h11:f.get a11=some b11)(h12:f.get a12=some b12):Fr.sub [(a0,b0),(a1,b1),(a2,b2),(a3,b3),(a4,b4),(a5,b5),(a6,b6),(a7,b7),(a8,b8),(a9,b9),(a10,b10),(a11,b11),(a12,b12)] f:=Fr.Zc h0 (Fr.Zc h1 (Fr.Zc h2 (Fr.Zc h3 (Fr.Zc h4 (Fr.Zc h5 (Fr.Zc h6 (Fr.Zc h7 (Fr.Zc h8 (Fr.Zc h9 (Fr.Zc h10 (Fr.Zc h11 (Fr.Zc h12 (Fr.Zt f)))))))))))))
theorem f14{f:Fr}{a0:Nat}{b0:Value}{a1:Nat}{b1:Value}{a2:Nat}{b2:Value}{a3:Nat}{b3:Value}{a4:Nat}{b4:Value}{a5:Nat}{b5:Value}{a6:Nat}{b6:Value}{a7:Nat}{b7:Value}{a8:Nat}{b8:Value}{a9:Nat}{b9:Value}{a10:Nat}{b10:Value}{a11:Nat}{b11:Value}{a12:Nat}{b12:Value}{a13:Nat}{b13:Value}(h0:f.get a0=some b0)(h1:f.get a1=some b1)(h2:f.get a2=some b2)(h3:f.get a3=some b3)(h4:f.get a4=some b4)(h5:f.get a5=some b5)(h6:f.get a6=some b6)(h7:f.get a7=some b7)(h8:f.get a8=some b8)(h9:f.get a9=some b9)(h10:f.get a10=some b10)(h11:f.get a11=some b11)(h12:f.get a12=some b12)(h13:f.get a13=some b13):Fr.sub [(a0,b0),(a1,b1),(a2,b2),(a3,b3),(a4,b4),(a5,b5),(a6,b6),(a7,b7),(a8,b8),(a9,b9),(a10,b10),(a11,b11),(a12,b12),(a13,b13)] f:=Fr.Zc h0 (Fr.Zc h1 (Fr.Zc h2 (Fr.Zc h3 (Fr.Zc h4 (Fr.Zc h5 (Fr.Zc h6 (Fr.Zc h7 (Fr.Zc h8 (Fr.Zc h9 (Fr.Zc h10 (Fr.Zc h11 (Fr.Zc h12 (Fr.Zc h13 (Fr.Zt f))))))))))))))
theorem f15{f:Fr}{a0:Nat}{b0:Value}{a1:Nat}{b1:Value}{a2:Nat}{b2:Value}{a3:Nat}{b3:Value}{a4:Nat}{b4:Value}{a5:Nat}{b5:Value}{a6:Nat}{b6:Value}{a7:Nat}{b7:Value}{a8:Nat}{b8:Value}{a9:Nat}{b9:Value}{a10:Nat}{b10:Value}{a11:Nat}{b11:Value}{a12:Nat}{b12:Value}{a13:Nat}{b13:Value}{a14:Nat}{b14:Value}(h0:f.get a0=some b0)(h1:f.get a1=some b1)(h2:f.get a2=some b2)(h3:f.get a3=some b3)(h4:f.get a4=some b4)(h5:f.get a5=some b5)(h6:f.get a6=some b6)(h7:f.get a7=some b7)(h8:f.get a8=some b8)(h9:f.get a9=some b9)(h10:f.get a10=some b10)(h11:f.get a11=some b11)(h12:f.get a12=some b12)(h13:f.get a13=some b13)(h14:f.get a14=some b14):Fr.sub [(a0,b0),(a1,b1),(a2,b2),(a3,b3),(a4,b4),(a5,b5),(a6,b6),(a7,b7),(a8,b8),(a9,b9),(a10,b10),(a11,b11),(a12,b12),(a13,b13),(a14,b14)] f:=Fr.Zc h0 (Fr.Zc h1 (Fr.Zc h2 (Fr.Zc h3 (Fr.Zc h4 (Fr.Zc h5 (Fr.Zc h6 (Fr.Zc h7 (Fr.Zc h8 (Fr.Zc h9 (Fr.Zc h10 (Fr.Zc h11 (Fr.Zc h12 (Fr.Zc h13 (Fr.Zc h14 (Fr.Zt f)))))))))))))))
theorem f16{f:Fr}{a0:Nat}{b0:Value}{a1:Nat}{b1:Value}{a2:Nat}{b2:Value}{a3:Nat}{b3:Value}{a4:Nat}{b4:Value}{a5:Nat}{b5:Value}{a6:Nat}{b6:Value}{a7:Nat}{b7:Value}{a8:Nat}{b8:Value}{a9:Nat}{b9:Value}{a10:Nat}{b10:Value}{a11:Nat}{b11:Value}{a12:Nat}{b12:Value}{a13:Nat}{b13:Value}{a14:Nat}{b14:Value}{a15:Nat}{b15:Value}(h0:f.get a0=some b0)(h1:f.get a1=some b1)(h2:f.get a2=some b2)(h3:f.get a3=some b3)(h4:f.get a4=some b4)(h5:f.get a5=some b5)(h6:f.get a6=some b6)(h7:f.get a7=some b7)(h8:f.get a8=some b8)(h9:f.get a9=some b9)(h10:f.get a10=some b10)(h11:f.get a11=some b11)(h12:f.get a12=some b12)(h13:f.get a13=some b13)(h14:f.get a14=some b14)(h15:f.get a15=some b15):Fr.sub [(a0,b0),(a1,b1),(a2,b2),(a3,b3),(a4,b4),(a5,b5),(a6,b6),(a7,b7),(a8,b8),(a9,b9),(a10,b10),(a11,b11),(a12,b12),(a13,b13),(a14,b14),(a15,b15)] f:=Fr.Zc h0 (Fr.Zc h1 (Fr.Zc h2 (Fr.Zc h3 (Fr.Zc h4 (Fr.Zc h5 (Fr.Zc h6 (Fr.Zc h7 (Fr.Zc h8 (Fr.Zc h9 (Fr.Zc h10 (Fr.Zc h11 (Fr.Zc h12 (Fr.Zc h13 (Fr.Zc h14 (Fr.Zc h15 (Fr.Zt f))))))))))))))))
theorem w1{w0:Bs}{G0 G:Mem}{L:Lo}{a0:Nat}{b0:Option Ow}(h0:L.get a0=b0):∀ w,St w0 G0 G L w->St w0 G0 G [(a0,b0)] w:=wk (Lo.Zc h0 (Lo.Zt L))
theorem w2{w0:Bs}{G0 G:Mem}{L:Lo}{a0:Nat}{b0:Option Ow}{a1:Nat}{b1:Option Ow}(h0:L.get a0=b0)(h1:L.get a1=b1):∀ w,St w0 G0 G L w->St w0 G0 G [(a0,b0),(a1,b1)] w:=wk (Lo.Zc h0 (Lo.Zc h1 (Lo.Zt L)))
theorem w3{w0:Bs}{G0 G:Mem}{L:Lo}{a0:Nat}{b0:Option Ow}{a1:Nat}{b1:Option Ow}{a2:Nat}{b2:Option Ow}(h0:L.get a0=b0)(h1:L.get a1=b1)(h2:L.get a2=b2):∀ w,St w0 G0 G L w->St w0 G0 G [(a0,b0),(a1,b1),(a2,b2)] w:=wk (Lo.Zc h0 (Lo.Zc h1 (Lo.Zc h2 (Lo.Zt L))))
theorem w4{w0:Bs}{G0 G:Mem}{L:Lo}{a0:Nat}{b0:Option Ow}{a1:Nat}{b1:Option Ow}{a2:Nat}{b2:Option Ow}{a3:Nat}{b3:Option Ow}(h0:L.get a0=b0)(h1:L.get a1=b1)(h2:L.get a2=b2)(h3:L.get a3=b3):∀ w,St w0 G0 G L w->St w0 G0 G [(a0,b0),(a1,b1),(a2,b2),(a3,b3)] w:=wk (Lo.Zc h0 (Lo.Zc h1 (Lo.Zc h2 (Lo.Zc h3 (Lo.Zt L)))))
theorem w5{w0:Bs}{G0 G:Mem}{L:Lo}{a0:Nat}{b0:Option Ow}{a1:Nat}{b1:Option Ow}{a2:Nat}{b2:Option Ow}{a3:Nat}{b3:Option Ow}{a4:Nat}{b4:Option Ow}(h0:L.get a0=b0)(h1:L.get a1=b1)(h2:L.get a2=b2)(h3:L.get a3=b3)(h4:L.get a4=b4):∀ w,St w0 G0 G L w->St w0 G0 G [(a0,b0),(a1,b1),(a2,b2),(a3,b3),(a4,b4)] w:=wk (Lo.Zc h0 (Lo.Zc h1 (Lo.Zc h2 (Lo.Zc h3 (Lo.Zc h4 (Lo.Zt L))))))
theorem w6{w0:Bs}{G0 G:Mem}{L:Lo}{a0:Nat}{b0:Option Ow}{a1:Nat}{b1:Option Ow}{a2:Nat}{b2:Option Ow}{a3:Nat}{b3:Option Ow}{a4:Nat}{b4:Option Ow}{a5:Nat}{b5:Option Ow}(h0:L.get a0=b0)(h1:L.get a1=b1)(h2:L.get a2=b2)(h3:L.get a3=b3)(h4:L.get a4=b4)(h5:L.get a5=b5):∀ w,St w0 G0 G L w->St w0 G0 G [(a0,b0),(a1,b1),(a2,b2),(a3,b3),(a4,b4),(a5,b5)] w:=wk (Lo.Zc h0 (Lo.Zc h1 (Lo.Zc h2 (Lo.Zc h3 (Lo.Zc h4 (Lo.Zc h5 (Lo.Zt L)))))))
abbrev a':=@Zj
abbrev b':=@WE.then
abbrev c':=@Y0.move
abbrev f':=@WE.thenRet
abbrev g':=@WC.seq
abbrev h':=@WE.thenExit
abbrev j':=@WE.ret1
abbrev k':=@WC.ret
abbrev m':=@YC.of
abbrev n':=@WC.skip
abbrev o':=@Y0.loadL
abbrev p':=@underlying55
abbrev q':=@WL.nil
abbrev t':=@Y0.pickF
abbrev w':=@Y0.pickT
abbrev x':=@WC.region
abbrev y':=@WC.block
abbrev A':=@WE.inBlockRet
abbrev B':=@WL.storeLA
abbrev C':=@underlying65
abbrev D':=@Y0.loadLA
abbrev E':=@Zfq
abbrev F':=@WE.inBlock
abbrev H':=@Ctr.enter
abbrev I':=@WE.exitHere
abbrev J':=@At.mono
abbrev K':=@WL.call0
abbrev M':=@underlying25
abbrev N':=@WL.call
abbrev O':=@Y0.lenR
abbrev P':=@WC.cr
abbrev Q':=@ZB
abbrev R':=@Y0.extract
abbrev T':=@WE.backR
abbrev U':=@Z9
abbrev V':=@Y0.idxR
abbrev W':=@Y0.add
abbrev X':=@WL.alloc
abbrev Y':=@underlying40
abbrev Z':=@SlR.at
abbrev aa':=@Y0.lss
abbrev ab':=@WC.meetH
abbrev ac':=@WC.loopR
abbrev ad':=@underlying164
abbrev ae':=@WC.exit
abbrev af':=@WE.endH
abbrev ag':=@underlying182
abbrev ah':=@Chain.tail0
abbrev ai':=@WL.box
abbrev aj':=@Y0.loadG
abbrev ak':=@WC.drawn
abbrev al':=@Y0.loadLP
abbrev am':=@WE.nx
abbrev an':=@WE.endRet
abbrev ao':=@Y0.loadGA
abbrev ap':=@Zm2
abbrev aq':=@Zgc
abbrev ar':=@underlying68
abbrev as':=@Y0.ZiK
abbrev at':=@ag57
abbrev au':=@Y0.build
abbrev av':=@Y0.conv
abbrev aw':=@RV.cellA
abbrev ax':=@WE.midH
abbrev ay':=@SlR.nil
abbrev az':=@Chain.callU
abbrev aA':=@Y0.not
abbrev aB':=@WC.condT
abbrev aC':=@Chain.skipU
abbrev aD':=@underlying3
abbrev aE':=@WL.cr
abbrev aF':=@WL.litR
abbrev aG':=@AtK.via
abbrev aH':=@Y0.eql
abbrev aI':=@underlying39
abbrev aJ':=@AtK.int
abbrev aK':=@WC.crB
abbrev aL':=@underlying5
abbrev aM':=@Y0.ZjK
abbrev aN':=@Chain.y0U
abbrev aO':=@WC.seqH
abbrev aP':=@sz182
abbrev aQ':=@Y0.ZkS
abbrev aR':=@underlying9
abbrev aS':=@Y0.gtr
abbrev aT':=@Y0.idxA0
abbrev aU':=@Zfo
abbrev aV':=@Y0.ZjJ
abbrev aW':=@sz119
abbrev aX':=@WL.skip
abbrev aY':=@Y0.ZkU
abbrev aZ':=@underlying44
abbrev ba':=@Y0.sub
abbrev bb':=@WL.appendR
abbrev bc':=@ag59
abbrev bd':=@WE.ret2
abbrev be':=@sc55
abbrev bf':=@underlying4
abbrev bh':=@ZfW
abbrev bi':=@Chain.tailU1
abbrev bj':=@ag28
abbrev bk':=@Y0.ZkT
abbrev bl':=@AtK.sl
abbrev bn':=@sz57
abbrev bo':=@ag68
abbrev bp':=@Y0.neq
abbrev bq':=@AtK.snd
abbrev br':=@AtK.fst
abbrev bs':=@Y0.idxRow
abbrev bt':=@Y0.Znh
abbrev bu':=@sc182
abbrev bw':=@WC.condF
abbrev bx':=@Y0.Znd
abbrev by':=@WL.storeL
abbrev bz':=@Y0.Znf
abbrev bA':=@Y0.Zne
abbrev bB':=@sz28
abbrev bC':=@Zai
abbrev bD':=@Rp.vec
abbrev bE':=@ZaY
abbrev bF':=@Chain.y0UU
abbrev bG':=@Chain.cr
abbrev bH':=@Y0.geq
abbrev bJ':=@Chain.callUU
abbrev bK':=@AtK.vec
abbrev bL':=@Chain.call0
abbrev bM':=@Zju
abbrev bN':=@Chain.alloc
abbrev bO':=@sc40
abbrev bP':=@Y0.rem
abbrev bQ':=@Y0.Znc
abbrev bR':=@sz70
abbrev bT':=@WL.storeT
abbrev bU':=@sc65
abbrev bV':=@WL.freezeT
abbrev bW':=@Y0.leq
abbrev cb':=@Tok.full
abbrev cd':=@CtrL.enter
abbrev ce':=@Zj6
abbrev cf':=@WL.callT
abbrev cg':=@WE.conseq
abbrev ch':=@sz59
abbrev ci':=@Chain.floatB
abbrev cj':=@sz65
abbrev cl':=@Y0.Zni
abbrev cn':=@underlying35
abbrev co':=@Y0.Zg6
abbrev cp':=@underlying2
abbrev cu':=@Chain.litU
abbrev cv':=@Chain.float
abbrev cx':=@Chain.tailU3
abbrev cy':=@underlying111
abbrev cA':=@Zg0
abbrev cB':=@Y0.ZiI
abbrev cD':=@Chain.tailU2
abbrev cE':=@ZaL
abbrev cF':=@ag119
abbrev cI':=@Chain.floatUD
abbrev cL':=@ZcR
abbrev cM':=@WLT.back
abbrev cP':=@underlying54
abbrev cR':=@Y0.ZiH
abbrev cS':=@WL.makeT
abbrev cV':=@Y0.quo
abbrev cX':=@SlR.eqv
abbrev cY':=@SlR.std
abbrev cZ':=@WLT.one
abbrev db':=@Y0.eq
abbrev dd':=@Y0.mul
abbrev de':=@Y0.indexS
abbrev df':=@RowR.zero
abbrev dg':=@underlying187
abbrev dh':=@underlying138
abbrev dj':=@underlying123
abbrev dl':=@WL.appendT
abbrev do':=@Y0.eqlB
abbrev dq':=@underlying22
abbrev ds':=@WL.unX
abbrev dt':=@Chain.callD
abbrev dy':=@WL.conseq
abbrev dJ':=@AtK.str
abbrev dO':=@underlying189
abbrev dQ':=@AtK.vecAt
abbrev dT':=@WL.adoptL
abbrev dW':=@Chain.floatEx
abbrev dY':=@underlying91
abbrev ea':=@Zg1
abbrev eb':=@Y0.ZmS
end Go.Proofs.YtoakocgcakgpnaaGreat

namespace Go.Proofs.YtoakocgcakgpnaaGreat
open Go.IntKind (i8 i16 i32 i64 u8 u16 u32 u64)
open Go.Proofs.Tryz
open Go Go.EL Go.RowKit Go.Proofs
theorem dk'{k r}(hr:(Zak k).Ret r):CtrL prog 84 #[.slice none 0 0,i' k] [] (fun _=>True) (fun G L v=>∃ s t f,L=[(7000,f)]/\v = .slice s r.length t/\RowR (Rp.sl a') 65 G (.slice s r.length t) r f):=by
 obtain⟨⟨C,D⟩,hr⟩:=hr
 replace hr:[]=r:=hr
 subst hr
 obtain⟨m,rfl⟩:∃ m:Nat,k=m:=⟨k.toNat,by omega⟩
 refine cd' (args:=[_,_]) (N:=27) func84 z z z fun n e u _=>sr<|sx0 z z<|g'<|sr<|mv z z<|yy (aa' z z) z<|nx<|bw' (by rw[show decide ((m:Int)<0)=false from decide_eq_false (by omega)]; rfl)<|n'<|b'<|g'<|sr<|mv z z<|mv z z<|yy (Y0.capS M' z) z<|mv z z<|yy (Y0.lenC M' z) z<|yy (ba' z z) z<|yy (ba' z z) z ?_
 have y:i64.wrap ((m:Int)-i64.wrap (((0:Nat):Int)-((0:Nat):Int)))=m:=by simp only[IntKind.wrap_i64]; omega
 rw[y]
 refine sx0 z z<|sr<|mv z z<|yy (aS' z z) z<|nx<|WC.condD (p:=(0:Int)<(m:Int)) z (fun A=>?_) (fun A=>?_)
 .refine x'<|mv z z<|mv z z<|yy (Y0.capS M' z) z<|yy (Y0.nilH M' cj' z z) z<|mv z z<|WL.appendZ0 (sz:=1) (bytes:=24) (m:=m) 7001 z z M' aD' el65 z (by decide) (by decide) z z (by omega) (by simp only[small]; omega) fun q c g x B=>mv z z<|yy (Y0.lenC M' z) z<|yy (Y0.slc (l:=0) (h:=0) (m:=c) (b:=q) (o:=0) M' cj' z z ⟨_,z⟩ z (Nat.le_refl _) (Nat.zero_le _) (Nat.le_refl _)) z ?_
  simp only[Nat.zero_mul,Nat.add_zero,ite_self,Nat.sub_zero]
  refine sg z z<|q'<|b'<|sr<|mv z z<|sx0 z z<|k'<|cg' (S':=St n e e [(7000,bk0 q g 65)]) (fun w d=>?_) (j' z z ⟨_,_,_,z,z,⟨c,[],g,z,z,z,z,B,x,Nat.zero_le _⟩⟩)
  have d:=d.rekey (i:=7001) (j:=7000) z (by rw[u]; rfl)
  exact d.weaken (lc z ln)
 refine n'<|b'<|sr<|mv z z<|sx0 z z<|k'<|cg' (S':=St n e e [(7000,none)]) (fun w d=>d.weaken (lw ln)) (j' z z ⟨_,_,_,z,z,RowR.nil⟩)
theorem dH'{j i r}(hr:(ZaH j i).Ret r):Ctr prog 137 #[.agg (vecG (Value.int .i64) 8 j).toArray,.agg (vecG (Value.int .i64) 8 i).toArray] (fun G=>True) (fun G v=>v=i' r):=by
 refine H' (args:=[_,_]) (N:=25) func137 z z z fun x k J D=>sr<|ai' 2 z z z fun n=>ai' 3 z z z fun m=>sx0 z z<|g'<|sr<|yy (D' 2 bo' z z (Q' _ _ _)) z<|yy (D' 3 bo' z z (Q' _ _ _)) z<|yy (Y0.eqlV ar' aD' sc3 sz3 eg68 z z) z<|nx<|P' hr z (fun A hr=>?_) (fun A hr=>?_)
 .refine sr<|sx0 z z<|k'<|f' (k0' hr z z)
 refine n'<|b'<|sr<|sx0 z z<|g'<|ab' (fun (⟨g,f⟩:Int×Mem)=>[(2,pt0 n),(3,pt0 m),(5,i' g)]) (fun ⟨g,f⟩=>Mem.le k f/\(Zcq j i g).Ret r) (fun ⟨g,f⟩=>St x k f [(2,bk0 n (vecG (Value.int .i64) 8 j) 68),(3,bk0 m (vecG (Value.int .i64) 8 i) 68)]) ?_ ?_
 .refine y' ?_
  let l:Int->Prop:=fun F=>((fun C=>match C with|g=>Zcq j i g:Int->Cq Int) F).wp (fun a=>a=r)
  replace hr:(Cq.loop _ _).wp l:=hr
  refine ac' (Φ:=l) (fun (⟨e,d⟩:Int×Mem)=>(e:Int)) (fun ⟨e,d⟩=>[(2,pt0 n),(3,pt0 m),(5,i' e)]) (fun ⟨e,d⟩=>Mem.le k d) (fun ⟨e,d⟩=>St x k d [(2,bk0 n (vecG (Value.int .i64) 8 j) 68),(3,bk0 m (vecG (Value.int .i64) 8 i) 68)]) ⟨0,k⟩ hr (f3 z z z) mr (w2 z z) ?_
  .intro I E H hr
   obtain⟨e,d⟩:=E
   have h:=H
   refine g'<|g'<|ak' [ff,ff,ff,ff,ff,ff] mix (by kernel_rfl) fun t=>cn (fun _ c=>c' z) ?_
   obtain⟨s,hr⟩:=hr
   refine cn (fun _ c=>aT' ar' sz3 z z s)<|cn (fun _ c=>o' 2 sc3 z z (bh' _ _ _ s))<|cn (fun _ c=>c' z) ?_
   obtain⟨q,hr⟩:=hr
   refine cn (fun _ c=>aT' ar' sz3 z z q)<|cn (fun _ c=>o' 3 sc3 z z (bh' _ _ _ q))<|ah' t<|yy (aH' z z) z<|q'<|am'<|b'<|P' hr z (fun y hr=>?_) (fun y hr=>?_)
   .refine n'<|b'<|y'<|x'<|mv z z<|yy (W' z z) z<|sg z z<|q'<|F'<|T' ⟨i64.wrap (e+1),d⟩ hr h (f3 z z z) (w2 z z)
   refine ae'<|h'<|h'<|I'<|af' ⟨e,d⟩ ⟨h,hr⟩ (f3 z z z) (w2 z z)
 rintro⟨g,f⟩ ⟨B,hr⟩
 refine b'<|g'<|g'<|ak' [ff,ff,ff,ff,ff,ff] mix (by kernel_rfl) fun t=>cn (fun _ c=>c' z) ?_
 obtain⟨o,hr⟩:=hr
 refine cn (fun _ c=>aT' ar' sz3 z z o)<|cn (fun _ c=>o' 2 sc3 z z (bh' _ _ _ o))<|cn (fun _ c=>c' z) ?_
 obtain⟨p,hr⟩:=hr
 refine cn (fun _ c=>aT' ar' sz3 z z p)<|cn (fun _ c=>o' 3 sc3 z z (bh' _ _ _ p))<|ah' t<|yy (aa' z z) z<|q'<|am'<|b'<|P' hr z (fun u hr=>?_) (fun u hr=>?_)
 .refine sr<|sx0 z z<|k'<|f' (k0' hr z z)
 refine n'<|b'<|sr<|sx0 z z<|k' (k0' hr z z)
theorem en'{l k j h g f i d c e r}(hr:(Zcw l k).Ret r):Ctr prog 193 #[.agg (((v59' l.c j h g f):List Value)++(vecG (Value.int .i64) 8 l.m)).toArray,.agg (((v59' k.c i d c e):List Value)++(vecG (Value.int .i64) 8 k.m)).toArray] (fun G=>sl (Rp.int .u32) G j h l.c.num.mag/\sl (Rp.int .u32) G g f l.c.den.mag/\sl (Rp.int .u32) G i d k.c.num.mag/\sl (Rp.int .u32) G c e k.c.den.mag) (fun G v=>v=i' r):=by
 refine H' (args:=[_,_]) (N:=10) func193 z z z (fun A y u q=>?_)
 obtain⟨m,n,p,o⟩:=q
 refine sr<|ai' 2 z z z fun B=>ai' 3 z z z fun x=>sg z z<|nr<|yy (aM' z) z<|yy (al' (vecG (Value.int .i64) 8 k.m).toArray 3 bo' z z (Q' _ _ _) (ap' ((v59' k.c i d c e)) (vecG (Value.int .i64) 8 k.m) ([]))) z<|yy (aM' z) z<|yy (al' (vecG (Value.int .i64) 8 l.m).toArray 2 bo' z z (Q' _ _ _) (ap' ((v59' l.c j h g f)) (vecG (Value.int .i64) 8 l.m) ([]))) z ?_
 obtain⟨t,s,hr⟩:=hr
 refine K' z z (m' E137 z) (dH' s) z (trivial)<|sx0 z z<|k' (k0' hr z z)
theorem gm':Go.Sort.SWO (Go.Proofs.ltOf (fun a b:Za=>cmpM b.m a.m)):=⟨fun x=>swoR.irrefl x.m,fun x y z=>swoR.trans x.m y.m z.m,fun x y z=>swoR.ntrans x.m y.m z.m⟩
theorem cz'{l a b i p c n C r}(hr:(ZL l a b i).Ret r):CtrL prog 217 #[.slice p n c,i' a,i' b,i' i,.func (.func 193) #[] #[]] [(5000,C)] (fun G=>RowR a' 119 G (.slice p n c) l C) (fun G L v=>∃ s,L=[(5000,s)]/\v = .tuple #[]/\RowR a' 119 G (.slice p n c) r s):=by
 obtain⟨⟨rfl,rfl,⟨R,U⟩,Q⟩,hr⟩:=hr
 obtain⟨k,rfl⟩:∃ k:Nat,i=k:=⟨i.toNat,by omega⟩
 refine (pdqR (r:=a') (sz:=12) z (by decide) gm' Tryz.sortL z (fun _=>by kernel_rfl) (fun _=>by kernel_rfl) (fun x y T S w G O K=>?_) E193 119 p n c l C k (by omega) (by omega)).mono (fun _ h=>h) (fun G L v ⟨E,D,H,P,I,N,J⟩=>?_)
 .obtain⟨M,F⟩:=K
  obtain⟨u,B,o,j,rfl,g,d⟩:=Zga M
  obtain⟨A,m,t,q,rfl,f,e⟩:=Zga F
  exact en' (show (Zcw x y).Ret (cmpM y.m x.m) from ⟨_,ZaS y.m x.m,z⟩) w G O ⟨g,d,f,e⟩
 have:E=r:=hr E ⟨N,J.imp (fun h=>by simpa [Go.Proofs.ltOf] using h)⟩
 subst this
 exact⟨D,H,P,I⟩
theorem cC'{f d c r}(hr:(ZN f).Ret r):Ctr prog 148 #[.agg ((v57' f d c)).toArray] (fun G=>sl (Rp.int .u32) G d c f.mag) (fun G v=>v=i' r):=by
 refine H' (args:=[_]) (N:=9) func148 z z z (fun l m j g=>?_)
 have e:=g
 refine sr<|ai' 1 z z z fun k=>sx0 z z<|g'<|sr<|yy (as' z) z<|yy (o' 1 be' z z z) z<|yy (O' p' e z) z<|yy (aH' z z) z<|nx<|P' hr z (fun i hr=>?_) (fun i hr=>?_)
 .refine sr<|sx0 z z<|k'<|f' (k0' hr z z)
 refine n'<|b'<|g'<|sr<|yy (aQ' z) z<|yy (o' 1 sc4 z z z) z<|nx<|aK' hr z (fun h hr=>?_) (fun h hr=>?_)
 .refine sr<|sx0 z z<|k'<|f' (k0' hr z z)
 refine n'<|b'<|sr<|sx0 z z<|k' (k0' hr z z)
theorem cm'{h d c f e r}(hr:(ZA h).Ret r):Ctr prog 91 #[.agg ((v59' h d c f e)).toArray] (fun G=>sl (Rp.int .u32) G d c h.num.mag/\sl (Rp.int .u32) G f e h.den.mag) (fun G v=>v=i' r):=by
 refine H' (args:=[_]) (N:=6) func91 z z z (fun o p m j=>?_)
 obtain⟨g,i⟩:=j
 refine sr<|ai' 1 z z z fun n=>sg z z<|nr<|yy (bk' z) z<|yy (al' ((v57' h.num d c)).toArray 1 at' z z z (ap' ([]) ((v57' h.num d c)) ((v57' h.den f e)))) z ?_
 obtain⟨l,k,hr⟩:=hr
 refine K' z z (m' E148 z) (cC' k) z (g)<|sx0 z z<|k' (k0' hr z z)
theorem bI'{g j k r}(hr:(ZD g).Ret r):Ctr prog 142 #[.slice j g.length k] (fun G=>sl (Rp.int .u32) G j k g) (wl' (Rp.int .u32) r):=by
 refine H' (args:=[_]) (N:=21) func142 z z z (fun s l E p=>?_)
 have i:=p
 refine sr<|sg z z<|nr<|mv z z<|yy (O' p' i z) z<|sx0 z z<|g'<|ab' (fun (⟨h,f⟩:Int×Mem)=>[(0,.slice j g.length k),(3,i' h)]) (fun ⟨h,f⟩=>Mem.le l f/\(Zcm g h).Ret r) (fun ⟨h,f⟩=>St s l f []) ?_ ?_
 .refine y' ?_
  let m:Int->Prop:=fun A=>((fun x=>match x with|h=>Zcm g h:Int->Cq (List Int)) A).wp (fun a=>a=r)
  replace hr:(Cq.loop _ _).wp m:=hr
  refine ac' (Φ:=m) (fun (⟨e,c⟩:Int×Mem)=>(e:Int)) (fun ⟨e,c⟩=>[(0,.slice j g.length k),(3,i' e)]) (fun ⟨e,c⟩=>Mem.le l c) (fun ⟨e,c⟩=>St s l c []) ⟨(g.length:Int),l⟩ hr (f2 z z) mr (wk ln) ?_
  .intro C y B hr
   obtain⟨e,c⟩:=y
   have d:=B
   refine g'<|sr<|mv z z<|aE' hr z (aS' z z) z (fun u hr=>?_) (fun u hr=>?_)
   .refine mv z z<|gy z z (c' z) z<|gy z z (c' z) z<|gy z z (ba' z z) z ?_
    obtain⟨H,o,hr⟩:=hr
    refine gy z z (V' p' aP' (i.mono d) z z o) z<|gy z z (aj' bu' z (aJ' (J' (Z' i o) d))) z<|gy z z (aH' z z) z<|yy (w' z z) z<|nx<|P' hr z (fun v hr=>?_) (fun v hr=>?_)
    .refine n'<|b'<|y'<|x'<|mv z z<|yy (ba' z z) z<|sg z z<|q'<|F'<|T' ⟨i64.wrap (e-1),c⟩ hr d (f2 z z) (wk ln)
    refine ae'<|h'<|h'<|I'<|af' ⟨e,c⟩ ⟨d,hr⟩ (f2 z z) (wk ln)
   refine mv z z<|sn6 z<|yy (t' z z) z<|nx<|bw' z<|ae'<|h'<|h'<|I'<|af' ⟨e,c⟩ ⟨d,hr⟩ (f2 z z) (wk ln)
 rintro⟨h,f⟩ ⟨n,hr⟩
 refine b'<|sr<|mv z z<|mv z z ?_
 obtain⟨q,hr⟩:=hr
 refine WL.sliceRH (r:=(Rp.int .u32)) z z p' aP' z (i.mono n) z z q fun F D t=>sx0 z z<|k' ?_
 obtain rfl:_=r:=hr
 exact j' z z ⟨_,_,z,t⟩
theorem dA'{c r}(hr:(Za2 c).Ret r):Ctr prog 140 #[.int .u64 c] (fun G=>True) (wl' (Rp.int .u32) r):=by
 refine H' (args:=[_]) (N:=10) func140 z z z fun v t i o=>sr<|sg z z<|nr<|mv z z<|yy (av' ad' ag' z) z<|mv z z<|yy (Y0.shr z z (by decide)) z<|yy (av' ad' ag' z) z<|aF' (e:=182) (r:=(Rp.int .u32)) (vs:=#[(0,.int .u32 (u32.wrap c)),(1,.int .u32 (u32.wrap (Int.fdiv c (2 ^ (min (32:Int).toNat u64.bits)))))]) (cs:=[.int .u32 (u32.wrap c)]++([.int .u32 (u32.wrap (Int.fdiv c (2 ^ (min (32:Int).toNat u64.bits))))]++([]))) ([u32.wrap c,u32.wrap (Int.fdiv c (2 ^ (min (32:Int).toNat u64.bits)))]:List Int) z z z z z (by decide) (fun _=>by kernel_rfl) ⟨[.int .u32 (u32.wrap c)],[.int .u32 (u32.wrap (Int.fdiv c (2 ^ (min (32:Int).toNat u64.bits))))]++([]),z,z,⟨[.int .u32 (u32.wrap (Int.fdiv c (2 ^ (min (32:Int).toNat u64.bits))))],[],z,z,z⟩⟩ (key:=999) z (by rw[i]; rfl) (fun u p k h=>?_)
 obtain⟨q,g,hr⟩:=hr
 refine N' z z (m' E142 z) (bI' g) z (h) (fun l s j d=>?_)
 obtain⟨n,m,rfl,f⟩:=d
 refine sx0 z z<|k' ?_
 obtain rfl:_=r:=hr
 exact j' z z ⟨_,_,z,f⟩
theorem bZ'{c d f e r}(hr:(ZR c d).Ret r):Ctr prog 139 #[.bool c,.slice f d.length e] (fun G=>sl (Rp.int .u32) G f e d) (w57' r):=by
 refine H' (args:=[_,_]) (N:=14) func139 z z z (fun A y u n=>?_)
 have l:=n
 refine sr<|X' 4 z z57 z fun x=>nr<|mv z z ?_
 obtain⟨m,o,hr⟩:=hr
 refine N' z z (m' E142 z) (bI' o) z (l) (fun s t q g=>?_)
 obtain⟨k,j,rfl,h⟩:=g
 refine sx0 z z<|g'<|sr<|mv z z<|yy (O' p' h z) z<|yy (aH' z z) z<|nx<|P' hr z (fun p hr=>?_) (fun p hr=>?_)
 .refine sr<|yy (au' (vs:=#[]) (v:=.agg ([.bool false,.slice none 0 0]).toArray) z z (fun _=>by kernel_rfl)) z<|B' 4 z bn' z z z z z (List.all_eq_true.1 z)<|nx<|k'<|f' ?_
  obtain rfl:_=r:=hr
  exact j' z (aw' (i:=4) at' z z z) ⟨_,_,z,(ay' (Rp.int .u32) _)⟩
 refine n'<|b'<|sr<|mv z z<|mv z z<|yy (au' (vs:=#[(0,.bool c),(1,.slice k m.length j)]) (v:=.agg ([.bool c,.slice k m.length j]).toArray) z z (fun _=>by kernel_rfl)) z<|B' 4 z bn' z z z z z (List.all_eq_true.1 z)<|nx<|k' ?_
 obtain rfl:_=r:=hr
 exact j' z (aw' (i:=4) at' z z z) ⟨_,_,z,h⟩
theorem dc'{l r}(hr:(ZbC l).Ret r):Ctr prog 87 #[i' l] (fun G=>True) (w57' r):=by
 refine H' (args:=[_]) (N:=15) func87 z z z fun E D B t=>sr<|X' 2 z z57 z fun C=>nr<|mv z z<|yy (av' cp' ad' z) z<|sx0 z z<|g'<|sr<|mv z z<|yy (aa' z z) z<|nx<|P' hr z (fun m hr=>?_) (fun m hr=>?_)
 .exact (show False from hr).elim
 refine n'<|b'<|sr<|mv z z<|yy (aa' z z) z<|mv z z ?_
 obtain⟨y,h,hr⟩:=hr
 refine N' z z (m' E140 z) (dA' h) z (trivial) (fun p v o c=>?_)
 obtain⟨s,q,rfl,g⟩:=c
 obtain⟨x,f,hr⟩:=hr
 refine N' z z (m' E139 z) (bZ' f) z (g) (fun u A n e=>?_)
 obtain⟨k,j,rfl,d⟩:=e
 refine B' 2 z bn' z z z z z (List.all_eq_true.1 z)<|nx<|k' ?_
 obtain rfl:_=r:=hr
 exact j' z (aw' (i:=2) at' z z z) ⟨_,_,z,d⟩
theorem cq'{g e d r}(hr:(ZS g).Ret r):Ctr prog 178 #[.agg ((v57' g e d)).toArray] (fun G=>sl (Rp.int .u32) G e d g.mag) (fun G v=>v = .bool r):=by
 refine H' (args:=[_]) (N:=19) func178 z z z (fun m o k h=>?_)
 have c:=h
 refine sr<|ai' 1 z z z fun l=>sg z z<|nr<|yy (aQ' z) z<|aE' hr z (db' (o' 1 sc4 z z z) (congrArg Value.bool (bdec _))) z (fun i hr=>?_) (fun i hr=>?_)
 .refine yy (aA' z) z<|mv z z<|sn4 z<|yy (t' z z) z<|mv z z<|sn5 z<|yy (t' z z) z<|sx0 z z<|k' (k0' hr z z)
 refine yy (aA' z) z<|mv z z<|gy z z (as' z) z<|gy z z (o' 1 be' z z z) z<|gy z z (O' p' c z) z<|aE' hr (E' z z) (aH' z z) z (fun j hr=>?_) (fun j hr=>?_)
 .refine yy (w' z z) z<|mv z z<|gy z z (as' z) z<|gy z z (o' 1 be' z z z) z ?_
  obtain⟨n,f,hr⟩:=hr
  refine gy z z (V' p' aP' c z z f) z<|gy z z (aj' bu' z (aJ' (Z' c f))) z<|gy z z (aH' z z) z<|yy (w' z z) z<|sx0 z z<|k' (k0' hr z z)
 refine yy (w' z z) z<|mv z z<|sn5 z<|yy (t' z z) z<|sx0 z z<|k' (k0' hr z z)
theorem eM'{d c A F D E r}(hr:(Zcl d c).Ret r):Ctr prog 147 #[.slice A d.length F,.slice D c.length E] (fun G=>sl (Rp.int .u32) G A F d/\sl (Rp.int .u32) G D E c) (wl' (Rp.int .u32) r):=by
 refine H' (args:=[_,_]) (N:=70) func147 z z z (fun Z O ar ao=>?_)
 obtain⟨H,B⟩:=ao
 refine sr<|sg z z<|nr<|mv z z<|yy (O' p' H z) z<|mv z z<|yy (O' p' B z) z<|yy (W' z z) z ?_
 obtain⟨aq,hr⟩:=hr
 refine cS' (r:=(Rp.int .u32)) (e:=182) (n:=i64.wrap ((d.length:Int)+(c.length:Int))) (zx:=0) 4016 z z p' el182 z (by decide) (by decide) z z z aq fun M ag av=>sx0 z z<|g'<|sr<|mv z z<|yy (O' p' H z) z<|mv z z<|nx<|ab' (fun (⟨y,p,K⟩:(List Int)×Option Ow×Mem)=>[(5,.slice M (i64.wrap ((d.length:Int)+(c.length:Int))).toNat ((i64.wrap ((d.length:Int)+(c.length:Int))).toNat))]) (fun ⟨y,p,K⟩=>Mem.le O K/\RowR (Rp.int .u32) 182 K (.slice M (i64.wrap ((d.length:Int)+(c.length:Int))).toNat ((i64.wrap ((d.length:Int)+(c.length:Int))).toNat)) y p/\(Zbl y).Ret r) (fun ⟨y,p,K⟩=>St Z O K [(4016,p)]) ?_ ?_
 .refine y' ?_
  let L:(List Int)->Prop:=fun oo=>((fun ov=>match ov with|y=>Zbl y:(List Int)->Cq (List Int)) oo).wp (fun a=>a=r)
  replace hr:(Cq.loop _ _).wp L:=hr
  refine ac' (Φ:=L) (fun (⟨q,h,f,v⟩:(List Int)×Option Ow×Int×Mem)=>((q,f):(List Int)×Int)) (fun ⟨q,h,f,v⟩=>[(0,.slice A d.length F),(1,.slice D c.length E),(5,.slice M (i64.wrap ((d.length:Int)+(c.length:Int))).toNat ((i64.wrap ((d.length:Int)+(c.length:Int))).toNat)),(18,i' (d.length:Int)),(19,i' f)]) (fun ⟨q,h,f,v⟩=>Mem.le O v/\RowR (Rp.int .u32) 182 v (.slice M (i64.wrap ((d.length:Int)+(c.length:Int))).toNat ((i64.wrap ((d.length:Int)+(c.length:Int))).toNat)) q h) (fun ⟨q,h,f,v⟩=>St Z O v [(4016,h)]) ⟨(List.replicate (i64.wrap ((d.length:Int)+(c.length:Int))).toNat 0),ag,0,O⟩ hr (f5 z z z z z) ⟨mr,av⟩ (w1 z) ?_
  .intro ad gx hx hr
   obtain⟨q,h,f,v⟩:=gx
   obtain⟨m,R⟩:=hx
   refine sr<|yy (aa' z z) z<|nx<|g'<|P' hr z (fun ay hr=>?_) (fun ay hr=>?_)
   .refine n'<|b'<|g'<|y'<|sr<|mv z z<|sg z z<|nr<|sg z z<|nr<|mv z z<|mv z z ?_
    obtain⟨U,af,hr⟩:=hr
    refine yy (V' p' aP' (H.mono m) z z af) z<|yy (aj' bu' z (aJ' (J' (Z' H af) m))) z<|yy (av' ag' ad' z) z<|sx0 z z<|g'<|sr<|mv z z<|yy (O' p' (B.mono m) z) z<|mv z z<|nx<|ab' (fun (⟨u,t,o,J⟩:(List Int)×Option Ow×Int×Mem)=>[(0,.slice A d.length F),(1,.slice D c.length E),(5,.slice M (i64.wrap ((d.length:Int)+(c.length:Int))).toNat ((i64.wrap ((d.length:Int)+(c.length:Int))).toNat)),(6,i' f),(7,.int .u64 o),(18,i' (d.length:Int)),(19,i' f)]) (fun ⟨u,t,o,J⟩=>Mem.le v J/\RowR (Rp.int .u32) 182 J (.slice M (i64.wrap ((d.length:Int)+(c.length:Int))).toNat ((i64.wrap ((d.length:Int)+(c.length:Int))).toNat)) u t/\(Zbm c f u o).wp (Out ad L)) (fun ⟨u,t,o,J⟩=>St Z O J [(4016,t)]) ?_ ?_
    .refine y' ?_
     let T:(((List Int)×Int))->Prop:=fun oo=>((fun ov=>match ov with|(u,o)=>Zbm c f u o:(((List Int)×Int))->Cq (((List Int)×Int)⊕(List Int))) oo).wp (Out ad L)
     replace hr:(Cq.loop _ _).wp T:=hr
     refine ac' (Φ:=T) (fun (⟨s,k,l,j,C⟩:(List Int)×Option Ow×Int×Int×Mem)=>((s,l,j):(List Int)×Int×Int)) (fun ⟨s,k,l,j,C⟩=>[(0,.slice A d.length F),(1,.slice D c.length E),(5,.slice M (i64.wrap ((d.length:Int)+(c.length:Int))).toNat ((i64.wrap ((d.length:Int)+(c.length:Int))).toNat)),(6,i' f),(7,.int .u64 l),(8,.int .u64 (u64.wrap U)),(18,i' (d.length:Int)),(19,i' f),(28,i' (c.length:Int)),(29,i' j)]) (fun ⟨s,k,l,j,C⟩=>Mem.le v C/\RowR (Rp.int .u32) 182 C (.slice M (i64.wrap ((d.length:Int)+(c.length:Int))).toNat ((i64.wrap ((d.length:Int)+(c.length:Int))).toNat)) s k) (fun ⟨s,k,l,j,C⟩=>St Z O C [(4016,k)]) ⟨q,h,0,0,v⟩ hr (f10 z z z z z z z z z z) ⟨mr,R⟩ (w1 z) ?_
     .intro aI gx hx hr
      obtain⟨s,k,l,j,C⟩:=gx
      obtain⟨I,x⟩:=hx
      refine sr<|yy (aa' z z) z<|nx<|g'<|P' hr z (fun au hr=>?_) (fun au hr=>?_)
      .refine n'<|b'<|g'<|y'<|sr<|mv z z<|sx0 z z<|g'<|ak' [ff,ff,ff,ff,ff,ff,ff,ff,ff,ff,ff,ff,ff,ff,ff,ff] mix (by kernel_rfl) fun hb=>cn (fun _ g=>c' z)<|cn (fun _ g=>c' z)<|cn (fun _ g=>c' z) ?_
       obtain⟨X,ae,hr⟩:=hr
       refine cn (fun _ g=>V' p' aP' ((B.mono (mx m I)).mono g) z z ae)<|cn (fun _ g=>aj' bu' z (aJ' (J' (J' (Z' B ae) (mx m I)) g)))<|cn (fun _ g=>av' ag' ad' z)<|cn (fun _ g=>dd' z z)<|cn (fun _ g=>c' z)<|cn (fun _ g=>c' z)<|cn (fun _ g=>c' z)<|cn (fun _ g=>W' z z) ?_
       obtain⟨W,ab,hr⟩:=hr
       refine cn (fun _ g=>bs' p' aP' (x.mono g) z z ab)<|cn (fun _ g=>Y0.loadT bu' (x.mono g) (key:=4016) z z (aJ' (RowR.at x ab)))<|cn (fun _ g=>av' ag' ad' z)<|cn (fun _ g=>W' z z)<|cn (fun _ g=>c' z)<|ah' hb<|yy (W' z z) z<|sg z z<|q'<|am'<|b'<|sr<|mv z z<|mv z z<|mv z z<|yy (W' z z) z<|mv z z<|yy (av' ad' ag' z) z ?_
       obtain⟨x5,ac,hr⟩:=hr
       refine yy (bs' p' aP' x z z ac) z<|bT' (r:=(Rp.int .u32)) (e:=182) (cs':=[.int .u32 (u32.wrap (u64.wrap ((u64.wrap ((u64.wrap ((u64.wrap U)*(u64.wrap X)))+(u64.wrap W)))+l)))]) (i:=i64.wrap (f+j)) (z':=u32.wrap (u64.wrap ((u64.wrap ((u64.wrap ((u64.wrap U)*(u64.wrap X)))+(u64.wrap W)))+l))) 4016 z aP' z x z z z z z ac fun aw an=>nx<|x'<|mv z z<|yy (Y0.shr z z (by decide)) z<|sg z z<|q'<|F'<|b'<|x'<|yy (W' z z) z<|mv z z<|q'<|T' ⟨(s.set (i64.wrap (f+j)).toNat (u32.wrap (u64.wrap ((u64.wrap ((u64.wrap ((u64.wrap U)*(u64.wrap X)))+(u64.wrap W)))+l)))),aw,Int.fdiv (u64.wrap ((u64.wrap ((u64.wrap ((u64.wrap U)*(u64.wrap X)))+(u64.wrap W)))+l)) (2 ^ (min (32:Int).toNat u64.bits)),i64.wrap (j+1),C⟩ hr ⟨I,an⟩ (f10 z z z z z z z z z z) (w1 z)
      refine ae'<|h'<|h'<|I'<|af' ⟨s,k,l,C⟩ ⟨I,x,hr⟩ (f7 z z z z z z z) (w1 z)
    rintro⟨u,t,o,J⟩ ⟨P,Q,hr⟩
    refine b'<|x'<|mv z z<|mv z z<|mv z z<|yy (O' p' (B.mono (mx m P)) z) z<|yy (W' z z) z<|mv z z<|yy (av' ad' ag' z) z ?_
    obtain⟨x2,aa,hr⟩:=hr
    refine yy (bs' p' aP' Q z z aa) z<|bT' (r:=(Rp.int .u32)) (e:=182) (cs':=[.int .u32 (u32.wrap o)]) (i:=i64.wrap (f+(c.length:Int))) (z':=u32.wrap o) 4016 z aP' z Q z z z z z aa fun ax al=>q'<|F'<|b'<|x'<|yy (W' z z) z<|mv z z<|q'<|T' ⟨(u.set (i64.wrap (f+(c.length:Int))).toNat (u32.wrap o)),ax,i64.wrap (f+1),J⟩ hr ⟨(mx m P),al⟩ (f5 z z z z z) (w1 z)
   refine ae'<|h'<|h'<|I'<|af' ⟨q,h,v⟩ ⟨m,R,hr⟩ (f1 z) (w1 z)
 rintro⟨y,p,K⟩ ⟨aA,Y,hr⟩
 refine b'<|sr<|mv z z<|bV' (r:=(Rp.int .u32)) (e:=182) 4016 Y z (by rw[ar]; rfl) (fun aH aK aC V aB=>?_)
 obtain⟨aL,ak,hr⟩:=hr
 refine N' z z (m' E142 z) (bI' ak) (by rw[cX' V]) ((cY' V)) (fun aF aJ az S=>?_)
 obtain⟨aG,aE,rfl,am⟩:=S
 refine sx0 z z<|k' ?_
 obtain rfl:_=r:=hr
 exact j' z z ⟨_,_,z,am⟩
theorem ex'{A t j f g e r}(hr:(Z7 A t).Ret r):Ctr prog 90 #[.agg ((v57' A j f)).toArray,.agg ((v57' t g e)).toArray] (fun G=>sl (Rp.int .u32) G j f A.mag/\sl (Rp.int .u32) G g e t.mag) (w57' r):=by
 refine H' (args:=[_,_]) (N:=16) func90 z z z (fun T R M y=>?_)
 obtain⟨o,p⟩:=y
 refine sr<|ai' 2 z z z fun U=>ai' 3 z z z fun Q=>X' 4 z z57 z fun V=>nx<|g'<|ak' [ff,ff,ff,ff,ff,ff,ff,ff,ff,ff] mix (by kernel_rfl) fun P=>cn (fun _ c=>aQ' z)<|cn (fun _ c=>o' 2 sc4 z z z)<|cn (fun _ c=>aQ' z)<|cn (fun _ c=>o' 3 sc4 z z z)<|cn (fun _ c=>Y0.neqB bf' z z)<|cn (fun _ c=>as' z)<|cn (fun _ c=>o' 2 be' z z z)<|cn (fun _ c=>as' z)<|cn (fun _ c=>o' 3 be' z z z) ?_
 obtain⟨q,B,hr⟩:=hr
 refine az' (post:=wl' (Rp.int .u32) q) (fun _=>z) (fun _ _=>m' E147 z) (eM' B) z (fun O c=>⟨(o.mono c),(p.mono c)⟩) (fun v W S c h=>?_) ?_
 .obtain⟨x,u,rfl,k⟩:=h
  exact⟨_,_,z,k.mono c⟩
 refine bi' (d:=14) (post:=wl' (Rp.int .u32) q) (fun H J F l=>?_)
 obtain⟨x,u,rfl,k⟩:=l
 obtain⟨K,s,hr⟩:=hr
 refine N' z z (m' E139 z) (bZ' s) z (k) (fun I L E n=>?_)
 obtain⟨D,C,rfl,m⟩:=n
 refine B' 4 z bn' z z z z z (List.all_eq_true.1 z)<|q'<|am'<|b'<|k' ?_
 obtain rfl:_=r:=hr
 exact j' z (aw' (i:=4) at' z z z) ⟨_,_,z,m⟩
theorem ca'{I H F r}(hr:(Z6 I).Ret r):Ctr prog 175 #[.slice H I.length F] (fun G=>sl bC' G H F I) (w57' r):=by
 refine H' (args:=[_]) (N:=25) func175 z z z (fun w0 X ap T=>?_)
 have C:=T
 refine sr<|X' 2 z z57 z fun L=>nr ?_
 obtain⟨W,U,hr⟩:=hr
 refine N' z z (m' E87 z) (dc' U) z (trivial) (fun af D p u=>?_)
 obtain⟨s,t,rfl,y⟩:=u
 refine X' 3 z z57 z fun O=>B' 3 z bn' z z z z z (List.all_eq_true.1 z)<|nx<|g'<|sr<|mv z z<|yy (O' underlying216 (C.mono p) z) z<|mv z z<|nx<|ab' (fun (⟨m,e,f,o⟩:Zb×Option Addr×Nat×Mem)=>[(2,pt0 L),(3,pt0 O)]) (fun ⟨m,e,f,o⟩=>Mem.le D o/\sl (Rp.int .u32) o e f m.mag/\(Za9 m).Ret r) (fun ⟨m,e,f,o⟩=>St w0 X o [(2,bk0 L ([.bool false,.slice none 0 0]) 57),(3,bk0 O (v57' m e f) 57)]) ?_ ?_
 .refine y' ?_
  let E:Zb->Prop:=fun oo=>((fun ov=>match ov with|m=>Za9 m:Zb->Cq Zb) oo).wp (fun a=>a=r)
  replace hr:(Cq.loop _ _).wp E:=hr
  refine ac' (Φ:=E) (fun (⟨g,l,d,c,k⟩:Int×Zb×Option Addr×Nat×Mem)=>((g,l):Int×Zb)) (fun ⟨g,l,d,c,k⟩=>[(2,pt0 L),(3,pt0 O),(7,.slice H I.length F),(8,i' (I.length:Int)),(9,i' g)]) (fun ⟨g,l,d,c,k⟩=>Mem.le D k/\sl (Rp.int .u32) k d c l.mag) (fun ⟨g,l,d,c,k⟩=>St w0 X k [(2,bk0 L ([.bool false,.slice none 0 0]) 57),(3,bk0 O (v57' l d c) 57)]) ⟨0,W,s,t,D⟩ hr (f5 z z z z z) ⟨mr,y⟩ (w2 z z) ?_
  .intro an gx hx hr
   obtain⟨g,l,d,c,k⟩:=gx
   obtain⟨j,h⟩:=hx
   refine sr<|yy (aa' z z) z<|nx<|g'<|P' hr z (fun ad hr=>?_) (fun ad hr=>?_)
   .refine n'<|b'<|g'<|y'<|sr ?_
    obtain⟨x1,P,hr⟩:=hr
    refine yy (V' underlying216 bn' (C.mono (mx p j)) z z P) z ?_
    obtain⟨J,K,ab,n⟩:=ea' (J' (Z' C P) (mx p j))
    refine yy (ao' _ at' z z ab) z<|X' 5 z z57 z fun b3=>B' 5 z bn' z z z z z (List.all_eq_true.1 z)<|nx<|y'<|sr<|yy (D' 5 at' z z z) z ?_
    obtain⟨am,Q,hr⟩:=hr
    refine K' z z (m' E178 z) (cq' Q) z (n)<|sx0 z z<|aK' hr z (fun Z hr=>?_) (fun Z hr=>?_)
    .refine n'<|F'<|F'<|b'<|x'<|yy (W' z z) z<|mv z z<|q'<|T' ⟨i64.wrap (g+1),l,d,c,k⟩ hr ⟨j,h⟩ (f5 z z z z z) (w2 z z)
    refine sr<|yy (D' 3 at' z z z) z ?_
    obtain⟨ao,S,hr⟩:=hr
    refine K' z z (m' E178 z) (cq' S) z (h)<|sx0 z z<|aK' hr z (fun ac hr=>?_) (fun ac hr=>?_)
    .refine x'<|yy (D' 5 at' z z z) z<|B' 3 z bn' z z z z z (List.all_eq_true.1 z)<|q'<|F'<|F'<|b'<|x'<|yy (W' z z) z<|mv z z<|q'<|T' ⟨i64.wrap (g+1),x1,J,K,k⟩ hr ⟨j,n⟩ (f5 z z z z z) (w2 z z)
    refine x'<|yy (D' 3 at' z z z) z<|yy (D' 5 at' z z z) z ?_
    obtain⟨V,R,hr⟩:=hr
    refine N' z z (m' E90 z) (ex' R) z (⟨h,n⟩) (fun ag Y M x=>?_)
    obtain⟨q,A,rfl,B⟩:=x
    refine B' 3 z bn' z z z z z (List.all_eq_true.1 z)<|q'<|F'<|F'<|b'<|x'<|yy (W' z z) z<|mv z z<|q'<|T' ⟨i64.wrap (g+1),V,q,A,Y⟩ hr ⟨(mx j M),B⟩ (f5 z z z z z) (w2 z z)
   refine ae'<|h'<|h'<|I'<|af' ⟨l,d,c,k⟩ ⟨j,h,hr⟩ (f2 z z) (w2 z z)
 rintro⟨m,e,f,o⟩ ⟨ae,v,hr⟩
 refine b'<|sr<|yy (D' 3 at' z z z) z<|B' 2 z bn' z z z z z (List.all_eq_true.1 z)<|nx<|k' ?_
 obtain rfl:_=r:=hr
 exact j' z (aw' (i:=2) at' z z z) ⟨_,_,z,v⟩
theorem cN'{p s m q k o r}(hr:(Zau p s).Ret r):Ctr prog 179 #[.slice m p.length q,.slice k s.length o] (fun G=>sl (Rp.int .u32) G m q p/\sl (Rp.int .u32) G k o s) (fun G v=>v=i' r):=by
 refine H' (args:=[_,_]) (N:=41) func179 z z z (fun E l O B=>?_)
 obtain⟨f,h⟩:=B
 refine sr<|sx0 z z<|g'<|sr<|mv z z<|yy (O' p' f z) z<|mv z z<|yy (O' p' h z) z<|yy (bp' z z) z<|nx<|P' hr z (fun H hr=>?_) (fun H hr=>?_)
 .exact (show False from hr).elim
 refine n'<|b'<|g'<|sr<|mv z z<|yy (O' p' f z) z<|yy (ba' z z) z<|sx0 z z<|ab' (fun (i:Mem)=>match i with|g=>[]) (fun (i:Mem)=>match i with|g=>Mem.le l g/\(Zbk).Ret r) (fun (i:Mem)=>match i with|g=>St E l g []) ?_ ?_
 .refine y' ?_
  let n:(Int⊕Unit)->Prop:=fun L=>((fun J=>match J with | .inl rv1=>Cq.ret rv1 | .inr ()=>Zbk:(Int⊕Unit)->Cq Int) L).wp (fun a=>a=r)
  replace hr:(Cq.loop _ _).wp n:=hr
  refine ac' (Φ:=n) (fun (⟨j,e⟩:Int×Mem)=>(j:Int)) (fun ⟨j,e⟩=>[(0,.slice m p.length q),(1,.slice k s.length o),(5,i' j)]) (fun ⟨j,e⟩=>Mem.le l e) (fun ⟨j,e⟩=>St E l e []) ⟨i64.wrap ((p.length:Int)-1),l⟩ hr (f3 z z z) mr (wk ln) ?_
  .intro M i K hr
   obtain⟨j,e⟩:=i
   have d:=K
   refine g'<|sr<|mv z z<|yy (bH' z z) z<|nx<|P' hr z (fun D hr=>?_) (fun D hr=>?_)
   .refine n'<|b'<|g'<|y'<|g'<|ak' [ff,ff,ff,ff,ff,ff,ff,ff] mix (by kernel_rfl) fun A=>cn (fun _ c=>c' z)<|cn (fun _ c=>c' z) ?_
    obtain⟨S,y,hr⟩:=hr
    refine cn (fun _ c=>V' p' aP' ((f.mono d).mono c) z z y)<|cn (fun _ c=>aj' bu' z (aJ' (J' (J' (Z' f y) d) c)))<|cn (fun _ c=>c' z)<|cn (fun _ c=>c' z) ?_
    obtain⟨R,u,hr⟩:=hr
    refine cn (fun _ c=>V' p' aP' ((h.mono d).mono c) z z u)<|cn (fun _ c=>aj' bu' z (aJ' (J' (J' (Z' h u) d) c)))<|ah' A<|yy (bp' z z) z<|q'<|am'<|b'<|P' hr z (fun F hr=>?_) (fun F hr=>?_)
    .refine g'<|g'<|ak' [ff,ff,ff,ff,ff,ff,ff,ff] mix (by kernel_rfl) fun A=>cn (fun _ c=>c' z)<|cn (fun _ c=>c' z) ?_
     obtain⟨Q,t,hr⟩:=hr
     refine cn (fun _ c=>V' p' aP' ((f.mono d).mono c) z z t)<|cn (fun _ c=>aj' bu' z (aJ' (J' (J' (Z' f t) d) c)))<|cn (fun _ c=>c' z)<|cn (fun _ c=>c' z) ?_
     obtain⟨P,x,hr⟩:=hr
     refine cn (fun _ c=>V' p' aP' ((h.mono d).mono c) z z x)<|cn (fun _ c=>aj' bu' z (aJ' (J' (J' (Z' h x) d) c)))<|ah' A<|yy (aa' z z) z<|q'<|am'<|b'<|P' hr z (fun C hr=>?_) (fun C hr=>?_)
     .refine sr<|sx0 z z<|k'<|f'<|A'<|f'<|f'<|A'<|an'<|f' (k0' hr z z)
     refine n'<|b'<|sr<|sx0 z z<|k'<|A'<|f'<|f'<|A'<|an'<|f' (k0' hr z z)
    refine n'<|F'<|b'<|x'<|mv z z<|yy (ba' z z) z<|sg z z<|q'<|T' ⟨i64.wrap (j-1),e⟩ hr d (f3 z z z) (wk ln)
   refine ae'<|h'<|h'<|I'<|af' e ⟨d,hr⟩ fn (wk ln)
 rintro g ⟨I,hr⟩
 refine b'<|sr<|sx0 z z<|k' (k0' hr z z)
theorem fw'{o k h f g e r}(hr:(Zgd o k).Ret r):Ctr prog 174 #[.agg ((v57' o h f)).toArray,.agg ((v57' k g e)).toArray] (fun G=>sl (Rp.int .u32) G h f o.mag/\sl (Rp.int .u32) G g e k.mag) (fun G v=>v=i' r):=by
 refine H' (args:=[_,_]) (N:=29) func174 z z z (fun F E B n=>?_)
 obtain⟨c,d⟩:=n
 refine sr<|ai' 2 z z z fun H=>ai' 3 z z z fun D=>sx0 z z<|g'<|ak' [ff,ff,ff] mix (by kernel_rfl) fun t=>cn (fun _ i=>D' 2 at' z z z) ?_
 obtain⟨y,p,hr⟩:=hr
 refine bL' z (fun _=>m' E148 z) (cC' p) z (fun C i=>(c.mono i))<|cn (fun _ i=>D' 3 at' z z z)<|ah' t ?_
 obtain⟨u,j,hr⟩:=hr
 refine K' z z (m' E148 z) (cC' j) z (d)<|sg z z<|sg z z<|q'<|am'<|b'<|g'<|sr<|mv z z<|mv z z<|yy (bp' z z) z<|nx<|P' hr z (fun s hr=>?_) (fun s hr=>?_)
 .exact (show False from hr).elim
 refine n'<|b'<|g'<|sr<|mv z z<|yy (aa' z z) z<|nx<|P' hr z (fun q hr=>?_) (fun q hr=>?_)
 .refine sr<|yy (as' z) z<|yy (o' 3 be' z z z) z<|yy (as' z) z<|yy (o' 2 be' z z z) z ?_
  obtain⟨A,m,hr⟩:=hr
  refine K' z z (m' E179 z) (cN' m) z (⟨d,c⟩)<|sx0 z z<|k'<|f' (k0' hr z z)
 refine n'<|b'<|sr<|yy (as' z) z<|yy (o' 2 be' z z z) z<|yy (as' z) z<|yy (o' 3 be' z z z) z ?_
 obtain⟨x,l,hr⟩:=hr
 refine K' z z (m' E179 z) (cN' l) z (⟨c,d⟩)<|sx0 z z<|k' (k0' hr z z)
theorem ep'{q p m l j i n k c g r}(hr:(Zbs q p).Ret r):Ctr prog 131 #[.agg ((v59' q m l j i)).toArray,.agg ((v59' p n k c g)).toArray] (fun G=>sl (Rp.int .u32) G m l q.num.mag/\sl (Rp.int .u32) G j i q.den.mag/\sl (Rp.int .u32) G n k p.num.mag/\sl (Rp.int .u32) G c g p.den.mag) (fun G v=>v=i' r):=by
 refine H' (args:=[_,_]) (N:=30) func131 z z z (fun w0 G0 aq Y=>?_)
 obtain⟨A,t,x,y⟩:=Y
 refine sr<|ai' 2 z z z fun b2=>ai' 3 z z z fun b3=>sx0 z z<|g'<|g'<|ak' [ff,ff,ff] mix (by kernel_rfl) fun hb=>cn (fun _ o=>D' 2 bc' z z z) ?_
 obtain⟨am,Z,hr⟩:=hr
 refine bL' z (fun _=>m' E91 z) (cm' Z) z (fun L o=>⟨(A.mono o),(t.mono o)⟩)<|cn (fun _ o=>D' 3 bc' z z z)<|ah' hb ?_
 obtain⟨al,S,hr⟩:=hr
 refine K' z z (m' E91 z) (cm' S) z (⟨x,y⟩)<|sg z z<|sg z z<|q'<|am'<|b'<|sr<|mv z z<|mv z z<|yy (bp' z z) z<|nx<|P' hr z (fun ad hr=>?_) (fun ad hr=>?_)
 .refine g'<|sr<|mv z z<|mv z z<|yy (aa' z z) z<|nx<|P' hr z (fun ae hr=>?_) (fun ae hr=>?_)
  .refine sr<|sx0 z z<|k'<|f'<|f' (k0' hr z z)
  refine n'<|b'<|sr<|sx0 z z<|k'<|f' (k0' hr z z)
 refine n'<|b'<|g'<|ak' [ff,ff,ff,ff,ff,ff,ff,ff,ff,ff,ff] mix (by kernel_rfl) fun hb=>cn (fun _ o=>bk' z)<|cn (fun _ o=>al' ((v57' q.num m l)).toArray 2 at' z z z (ap' ([]) ((v57' q.num m l)) ((v57' q.den j i))))<|cn (fun _ o=>aY' z)<|cn (fun _ o=>al' ((v57' p.den c g)).toArray 3 at' z z z (ap' ((v57' p.num n k)) ((v57' p.den c g)) ([])))<|cu' (r:=bC') (e:=57) ([q.num,p.den]:List Zb) (fun _=>z) z (by decide) (fun u L o X=>?_) ?_
 .exact⟨#[(0,.agg ((v57' q.num m l)).toArray),(1,.agg ((v57' p.den c g)).toArray)],(v57' q.num m l)++((v57' p.den c g)++([])),z,z,fun _=>by kernel_rfl,⟨(v57' q.num m l),(v57' p.den c g)++([]),z,⟨[.bool q.num.neg],[.slice m q.num.mag.length l],z,z,⟨_,z,(A.mono o)⟩⟩,⟨(v57' p.den c g),[],z,⟨[.bool p.den.neg],[.slice c p.den.mag.length g],z,z,⟨_,z,(y.mono o)⟩⟩,z⟩⟩⟩
 obtain⟨P,U,hr⟩:=hr
 refine bJ' (f:=175) (φ:=w57' P) (fun _=>z) (fun v G1 G2 o h=>?_) (fun u L o X=>?_) ?_
 .obtain⟨E,K,rfl,s⟩:=h
  exact⟨_,_,z,s.mono o⟩
 .obtain⟨⟨C,B,O,R⟩,_⟩:=(show (fun G v=>∃ C B,v = .slice C 2 2/\SlRd bC' G (.slice C 2 2) B [q.num,p.den]) L.m (u 21)/\True from X)
  exact⟨_,_,_,fun _=>m' E175 z,ca' U,(by simp only[O] <;> rfl),R⟩
 refine cu (fun _ _ o=>bk' z)<|cu (fun _ _ o=>al' ((v57' p.num n k)).toArray 3 at' z z z (ap' ([]) ((v57' p.num n k)) ((v57' p.den c g))))<|cu (fun _ _ o=>aY' z)<|cu (fun _ _ o=>al' ((v57' q.den j i)).toArray 2 at' z z z (ap' ((v57' q.num m l)) ((v57' q.den j i)) ([])))<|cu' (r:=bC') (e:=57) ([p.num,q.den]:List Zb) (fun _=>z) z (by decide) (fun u L o X=>?_) ?_
 .exact⟨#[(0,.agg ((v57' p.num n k)).toArray),(1,.agg ((v57' q.den j i)).toArray)],(v57' p.num n k)++((v57' q.den j i)++([])),z,z,fun _=>by kernel_rfl,⟨(v57' p.num n k),(v57' q.den j i)++([]),z,⟨[.bool p.num.neg],[.slice n p.num.mag.length k],z,z,⟨_,z,(x.mono o)⟩⟩,⟨(v57' q.den j i),[],z,⟨[.bool q.den.neg],[.slice j q.den.mag.length i],z,z,⟨_,z,(t.mono o)⟩⟩,z⟩⟩⟩
 refine cx' (d:=27) (post:=fun G v=>∃ T Q,v = .slice T 2 2/\SlRd bC' G (.slice T 2 2) Q [p.num,q.den]) (d':=22) (post':=w57' P) (d'':=21) (post'':=fun G v=>∃ C B,v = .slice C 2 2/\SlRd bC' G (.slice C 2 2) B [q.num,p.den]) (fun aj ai ak ao ag D I H=>?_)
 obtain⟨T,Q,rfl,af⟩:=D
 obtain⟨E,K,rfl,s⟩:=I
 obtain⟨C,B,rfl,R⟩:=H
 obtain⟨an,V,hr⟩:=hr
 refine N' z z (m' E175 z) (ca' V) z (af) (fun ah ap M J=>?_)
 obtain⟨aa,ab,rfl,F⟩:=J
 obtain⟨ar,W,hr⟩:=hr
 refine K' z z (m' E174 z) (fw' W) z (⟨(s.mono M),F⟩)<|sg z z<|q'<|am'<|b'<|k' (k0' hr z z)
theorem eC'{l k e i c d g j h f r}(hr:(ZaF l k).Ret r):Ctr prog 155 #[.agg (((v59' l.c e i c d):List Value)++(vecG (Value.int .i64) 8 l.m)).toArray,.agg (((v59' k.c g j h f):List Value)++(vecG (Value.int .i64) 8 k.m)).toArray] (fun G=>sl (Rp.int .u32) G e i l.c.num.mag/\sl (Rp.int .u32) G c d l.c.den.mag/\sl (Rp.int .u32) G g j k.c.num.mag/\sl (Rp.int .u32) G h f k.c.den.mag) (fun G v=>v=i' r):=by
 refine H' (args:=[_,_]) (N:=20) func155 z z z (fun D C A s=>?_)
 obtain⟨p,o,m,n⟩:=s
 refine sr<|ai' 2 z z z fun B=>ai' 3 z z z fun E=>sx0 z z<|g'<|sr<|yy (aM' z) z<|yy (al' (vecG (Value.int .i64) 8 l.m).toArray 2 bo' z z (Q' _ _ _) (ap' ((v59' l.c e i c d)) (vecG (Value.int .i64) 8 l.m) ([]))) z<|yy (aM' z) z<|yy (al' (vecG (Value.int .i64) 8 k.m).toArray 3 bo' z z (Q' _ _ _) (ap' ((v59' k.c g j h f)) (vecG (Value.int .i64) 8 k.m) ([]))) z<|yy (Y0.neqV ar' aD' sc3 sz3 eg68 z z) z<|nx<|P' hr z (fun u hr=>?_) (fun u hr=>?_)
 .refine sr<|yy (aM' z) z<|yy (al' (vecG (Value.int .i64) 8 l.m).toArray 2 bo' z z (Q' _ _ _) (ap' ((v59' l.c e i c d)) (vecG (Value.int .i64) 8 l.m) ([]))) z<|yy (aM' z) z<|yy (al' (vecG (Value.int .i64) 8 k.m).toArray 3 bo' z z (Q' _ _ _) (ap' ((v59' k.c g j h f)) (vecG (Value.int .i64) 8 k.m) ([]))) z ?_
  obtain⟨y,t,hr⟩:=hr
  refine K' z z (m' E137 z) (dH' t) z (trivial)<|sx0 z z<|k'<|f' (k0' hr z z)
 refine n'<|b'<|sr<|yy (aV' z) z<|yy (al' ((v59' l.c e i c d)).toArray 2 bc' z z z (ap' ([]) ((v59' l.c e i c d)) ((vecG (Value.int .i64) 8 l.m)))) z<|yy (aV' z) z<|yy (al' ((v59' k.c g j h f)).toArray 3 bc' z z z (ap' ([]) ((v59' k.c g j h f)) ((vecG (Value.int .i64) 8 k.m)))) z ?_
 obtain⟨x,q,hr⟩:=hr
 refine K' z z (m' E131 z) (ep' q) z (⟨p,o,m,n⟩)<|sx0 z z<|k' (k0' hr z z)
theorem bX'{l o p s B C r}(hr:(Zr l o).Ret r):Ctr prog 154 #[.slice p l.length s,.slice B o.length C,.func (.func 155) #[] #[]] (fun G=>sl a' G p s l/\sl a' G B C o) (fun G v=>v=i' r):=by
 refine H' (args:=[_,_,_]) (N:=39) func154 z z z (fun W L af R=>?_)
 obtain⟨E,D⟩:=R
 refine sr<|sx0 z z<|g'<|sr<|mv z z<|yy (O' C' E z) z<|mv z z<|nx<|ab' (fun (J:Mem)=>match J with|I=>[(0,.slice p l.length s),(1,.slice B o.length C)]) (fun (J:Mem)=>match J with|I=>Mem.le L I/\(Zl l o).Ret r) (fun (J:Mem)=>match J with|I=>St W L I []) ?_ ?_
 .refine y' ?_
  let O:(Int⊕Unit)->Prop:=fun oo=>((fun ov=>match ov with | .inl rv1=>Cq.ret rv1 | .inr ()=>Zl l o:(Int⊕Unit)->Cq Int) oo).wp (fun a=>a=r)
  replace hr:(Cq.loop _ _).wp O:=hr
  refine ac' (Φ:=O) (fun (⟨k,n⟩:Int×Mem)=>(k:Int)) (fun ⟨k,n⟩=>[(0,.slice p l.length s),(1,.slice B o.length C),(2,.func (.func 155) #[] #[]),(11,.slice p l.length s),(12,i' (l.length:Int)),(13,i' k)]) (fun ⟨k,n⟩=>Mem.le L n) (fun ⟨k,n⟩=>St W L n []) ⟨0,L⟩ hr (f6 z z z z z z) mr (wk ln) ?_
  .intro ae J hx hr
   obtain⟨k,n⟩:=J
   have m:=hx
   refine sr<|yy (aa' z z) z<|nx<|g'<|P' hr z (fun V hr=>?_) (fun V hr=>?_)
   .refine n'<|b'<|g'<|y'<|sr<|mv z z ?_
    obtain⟨H,Q,hr⟩:=hr
    refine yy (V' C' aW' (E.mono m) z z Q) z ?_
    obtain⟨g,j,i,e,X,t,y⟩:=bM' (J' (Z' E Q) m)
    refine yy (ao' _ cF' z z X) z<|X' 8 z z119 z fun b1=>sg z z<|B' 8 z aW' z z z z z (fun u M=>Rp.one a' (G:=n) (x:=H) (cs:=((v59' H.c g j i e):List Value)++(vecG (Value.int .i64) 8 H.m)) ⟨(v59' H.c g j i e),vecG (Value.int .i64) 8 H.m,z,⟨(v57' H.c.num g j),(v57' H.c.den i e),z,⟨[.bool H.c.num.neg],[.slice g H.c.num.mag.length j],z,z,⟨_,z,t⟩⟩,⟨[.bool H.c.den.neg],[.slice i H.c.den.mag.length e],z,z,⟨_,z,y⟩⟩⟩,z⟩ u (by first|simpa using M|simpa [Value.cells] using M))<|nx<|g'<|sr<|mv z z<|mv z z<|yy (O' C' (D.mono m) z) z<|yy (bH' z z) z<|nx<|P' hr z (fun Y hr=>?_) (fun Y hr=>?_)
    .refine sr<|sx0 z z<|k'<|f'<|A'<|f'<|f'<|A'<|an'<|f' (k0' hr z z)
    refine n'<|b'<|sr<|mv z z<|mv z z ?_
    obtain⟨F,P,hr⟩:=hr
    refine yy (V' C' aW' (D.mono m) z z P) z ?_
    obtain⟨f,c,h,d,T,A,q⟩:=bM' (J' (Z' D P) m)
    refine yy (ao' _ cF' z z T) z<|X' 9 z z119 z fun b2=>B' 9 z aW' z z z z z (fun u M=>Rp.one a' (G:=n) (x:=F) (cs:=((v59' F.c f c h d):List Value)++(vecG (Value.int .i64) 8 F.m)) ⟨(v59' F.c f c h d),vecG (Value.int .i64) 8 F.m,z,⟨(v57' F.c.num f c),(v57' F.c.den h d),z,⟨[.bool F.c.num.neg],[.slice f F.c.num.mag.length c],z,z,⟨_,z,A⟩⟩,⟨[.bool F.c.den.neg],[.slice h F.c.den.mag.length d],z,z,⟨_,z,q⟩⟩⟩,z⟩ u (by first|simpa using M|simpa [Value.cells] using M))<|nr<|mv z z<|yy (D' 8 cF' z z z) z<|yy (D' 9 cF' z z z) z ?_
    obtain⟨ad,S,hr⟩:=hr
    refine K' z z (YC.ofV E155 z z) (eC' S) z (⟨t,y,A,q⟩)<|sg z z<|nr<|mv z z<|yy (bp' z z) z<|nx<|P' hr z (fun U hr=>?_) (fun U hr=>?_)
    .refine sr<|mv z z<|sx0 z z<|k'<|A'<|f'<|f'<|A'<|an'<|f' (k0' hr z z)
    refine n'<|F'<|b'<|x'<|yy (W' z z) z<|mv z z<|q'<|T' ⟨i64.wrap (k+1),n⟩ hr m (f6 z z z z z z) (wk ln)
   refine ae'<|h'<|h'<|I'<|af' n ⟨m,hr⟩ (f2 z z) (wk ln)
 rintro I ⟨K,hr⟩
 refine b'<|g'<|sr<|mv z z<|yy (O' C' (E.mono K) z) z<|mv z z<|yy (O' C' (D.mono K) z) z<|yy (aa' z z) z<|nx<|P' hr z (fun Z hr=>?_) (fun Z hr=>?_)
 .refine sr<|sx0 z z<|k'<|f' (k0' hr z z)
 refine n'<|b'<|sr<|sx0 z z<|k' (k0' hr z z)
theorem Zdw(g:(List Za))(i:(List Za))(e:Option Addr)(d:Nat)(c:Option Addr)(f:Nat)(r:Int)(hr:(ZcO g i).Ret r):Ctr prog 99 #[.slice e g.length d,.slice c i.length f] (fun G=>sl a' G e d g/\sl a' G c f i) (fun G v=>v=i' r):=by
 refine H' (args:=[_,_]) (N:=8) func99 z z z (fun o p n j=>?_)
 obtain⟨l,k⟩:=j
 refine sr<|sg z z<|nr<|mv z z<|mv z z ?_
 obtain⟨m,h,hr⟩:=hr
 refine K' z z (m' E154 z) (bX' h) z (⟨l,k⟩)<|sx0 z z<|k' (k0' hr z z)
theorem Zar(l:List (List Za))(a b lim:Int)(p:Option Addr)(c n:Nat)(tk:Option Ow)(r:List (List Za))(hr:(ZW l a b lim).Ret r):CtrL prog 186 #[.slice p n c,.int .i64 a,.int .i64 b,.int .i64 lim,.func (.func 99) #[] #[]] [(5000,tk)] (fun G=>RowR (Rp.sl Zj) 65 G (.slice p n c) l tk) (fun G L v=>∃ zk0,L=[(5000,zk0)]/\v = .tuple #[]/\RowR (Rp.sl Zj) 65 G (.slice p n c) r zk0):=by
  obtain⟨⟨rfl,rfl,⟨h0,h1⟩,h2,h3⟩,hr⟩:=hr
  replace hr:_=r:=hr
  subst hr
  obtain⟨k,rfl⟩:∃ k:Nat,lim=k:=⟨lim.toNat,by omega⟩
  obtain⟨l',rfl⟩:∃ l':List GoodQ,l'.map Subtype.val=l:=⟨l.attach.map fun q=>⟨q.1,List.all_eq_true.1 h3 _ q.2⟩,by rw[List.map_map]; exact List.attach_map_subtype_val l⟩
  have hlen:l'.length=(l'.map Subtype.val).length:=by rw[List.length_map]
  have hg:∀ (x y:GoodQ) (u v:Value),Ctr prog 99 #[u,v] (fun G=>((Rp.sl Zj).via (Subtype.val:GoodQ->_)).rep G [u] x/\((Rp.sl Zj).via (Subtype.val:GoodQ->_)).rep G [v] y) (fun _ v=>v = .int .i64 (cmpP x.1 y.1)):=fun x y u v w G hi hp=>by
    obtain⟨⟨u',e1,h1⟩,⟨v',e2,h2⟩⟩:=hp
    cases e1
    cases e2
    obtain⟨p1,c1,rfl⟩:=h1.form
    obtain⟨p2,c2,rfl⟩:=h2.form
    exact Zdw _ _ _ _ _ _ _ (Zim x.2 y.2) w G hi ⟨h1,h2⟩
  have H:=pdqQ (r:=(Rp.sl Zj).via (Subtype.val:GoodQ->_)) rfl swoP Tryz.sortQ rfl hg E99 65 p n c l' tk k (by omega) (by omega)
  rw[hlen] at H
  refine H.mono (fun G h=>RowR.via.2 h) (fun G L v h=>?_)
  obtain⟨ys,tk',q1,q2,q3,q4,q5⟩:=h
  refine⟨tk',q1,q2,?_⟩
  have e:ordP (l'.map Subtype.val)=ys.map Subtype.val:=by
    refine Zgk ((ZaO _).trans (q4.map Subtype.val).symm) (fun p hp=>List.all_eq_true.1 h3 _ ((ZaO _).mem_iff.1 hp)) (Zei _) ?_
    rw[List.pairwise_map]
    refine q5.imp (fun {a b} h=>?_)
    simp only[Go.Proofs.ltOf,decide_eq_false_iff_not,Int.not_lt] at h
    have:=Z4 a.1 b.1
    omega
  rw[e]
  exact RowR.via.1 q3
theorem eu'{l k e i c d g j h f r}(hr:(Zav l k).Ret r):Ctr prog 130 #[.agg (((v59' l.c e i c d):List Value)++(vecG (Value.int .i64) 8 l.m)).toArray,.agg (((v59' k.c g j h f):List Value)++(vecG (Value.int .i64) 8 k.m)).toArray] (fun G=>sl (Rp.int .u32) G e i l.c.num.mag/\sl (Rp.int .u32) G c d l.c.den.mag/\sl (Rp.int .u32) G g j k.c.num.mag/\sl (Rp.int .u32) G h f k.c.den.mag) (fun G v=>v = .bool r):=by
 refine H' (args:=[_,_]) (N:=18) func130 z z z (fun B A x q=>?_)
 obtain⟨p,o,m,n⟩:=q
 refine sr<|ai' 2 z z z fun y=>ai' 3 z z z fun C=>sg z z<|nr<|yy (aM' z) z<|yy (al' (vecG (Value.int .i64) 8 l.m).toArray 2 bo' z z (Q' _ _ _) (ap' ((v59' l.c e i c d)) (vecG (Value.int .i64) 8 l.m) ([]))) z<|yy (aM' z) z<|yy (al' (vecG (Value.int .i64) 8 k.m).toArray 3 bo' z z (Q' _ _ _) (ap' ((v59' k.c g j h f)) (vecG (Value.int .i64) 8 k.m) ([]))) z<|aE' hr z (Y0.eqlV ar' aD' sc3 sz3 eg68 z z) z (fun t hr=>?_) (fun t hr=>?_)
 .refine mv z z<|gy z z (aV' z) z<|gy z z (al' ((v59' l.c e i c d)).toArray 2 bc' z z z (ap' ([]) ((v59' l.c e i c d)) ((vecG (Value.int .i64) 8 l.m)))) z<|gy z z (aV' z) z<|gy z z (al' ((v59' k.c g j h f)).toArray 3 bc' z z z (ap' ([]) ((v59' k.c g j h f)) ((vecG (Value.int .i64) 8 k.m)))) z ?_
  obtain⟨u,s,hr⟩:=hr
  refine K' (E' z z) z (m' E131 z) (ep' s) z (⟨p,o,m,n⟩)<|gy z z (aH' z z) z<|yy (w' z z) z<|sx0 z z<|k' (k0' hr z z)
 refine mv z z<|sn6 z<|yy (t' z z) z<|sx0 z z<|k' (k0' hr z z)
theorem bY'{t H B C D E r}(hr:(Zs t H).Ret r):Ctr prog 129 #[.slice B t.length C,.slice D H.length E,.func (.func 130) #[] #[]] (fun G=>sl a' G B C t/\sl a' G D E H) (fun G v=>v = .bool r):=by
 refine H' (args:=[_,_,_]) (N:=32) func129 z z z (fun U K ae Q=>?_)
 obtain⟨s,F⟩:=Q
 refine sr<|sx0 z z<|g'<|sr<|mv z z<|yy (O' C' s z) z<|mv z z<|yy (O' C' F z) z<|yy (bp' z z) z<|nx<|P' hr z (fun X hr=>?_) (fun X hr=>?_)
 .refine sr<|sx0 z z<|k'<|f' (k0' hr z z)
 refine n'<|b'<|g'<|sr<|mv z z<|yy (O' C' s z) z<|mv z z<|nx<|ab' (fun (J:Mem)=>match J with|I=>[]) (fun (J:Mem)=>match J with|I=>Mem.le K I/\(Zq).Ret r) (fun (J:Mem)=>match J with|I=>St U K I []) ?_ ?_
 .refine y' ?_
  let M:(Bool⊕Unit)->Prop:=fun oo=>((fun ov=>match ov with | .inl rv1=>Cq.ret rv1 | .inr ()=>Zq:(Bool⊕Unit)->Cq Bool) oo).wp (fun a=>a=r)
  replace hr:(Cq.loop _ _).wp M:=hr
  refine ac' (Φ:=M) (fun (⟨k,m⟩:Int×Mem)=>(k:Int)) (fun ⟨k,m⟩=>[(1,.slice D H.length E),(2,.func (.func 130) #[] #[]),(15,.slice B t.length C),(16,i' (t.length:Int)),(17,i' k)]) (fun ⟨k,m⟩=>Mem.le K m) (fun ⟨k,m⟩=>St U K m []) ⟨0,K⟩ hr (f5 z z z z z) mr (wk ln) ?_
  .intro ad J Z hr
   obtain⟨k,m⟩:=J
   have l:=Z
   refine sr<|yy (aa' z z) z<|nx<|g'<|P' hr z (fun T hr=>?_) (fun T hr=>?_)
   .refine n'<|b'<|g'<|y'<|sr<|mv z z ?_
    obtain⟨A,P,hr⟩:=hr
    refine yy (V' C' aW' (s.mono l) z z P) z ?_
    obtain⟨g,j,i,e,V,o,p⟩:=bM' (J' (Z' s P) l)
    refine yy (ao' _ cF' z z V) z<|X' 8 z z119 z fun b1=>sg z z<|B' 8 z aW' z z z z z (fun u L=>Rp.one a' (G:=m) (x:=A) (cs:=((v59' A.c g j i e):List Value)++(vecG (Value.int .i64) 8 A.m)) ⟨(v59' A.c g j i e),vecG (Value.int .i64) 8 A.m,z,⟨(v57' A.c.num g j),(v57' A.c.den i e),z,⟨[.bool A.c.num.neg],[.slice g A.c.num.mag.length j],z,z,⟨_,z,o⟩⟩,⟨[.bool A.c.den.neg],[.slice i A.c.den.mag.length e],z,z,⟨_,z,p⟩⟩⟩,z⟩ u (by first|simpa using L|simpa [Value.cells] using L))<|nr<|mv z z<|mv z z ?_
    obtain⟨y,O,hr⟩:=hr
    refine yy (V' C' aW' (F.mono l) z z O) z ?_
    obtain⟨f,c,h,d,S,q,n⟩:=bM' (J' (Z' F O) l)
    refine yy (ao' _ cF' z z S) z<|X' 9 z z119 z fun b2=>B' 9 z aW' z z z z z (fun u L=>Rp.one a' (G:=m) (x:=y) (cs:=((v59' y.c f c h d):List Value)++(vecG (Value.int .i64) 8 y.m)) ⟨(v59' y.c f c h d),vecG (Value.int .i64) 8 y.m,z,⟨(v57' y.c.num f c),(v57' y.c.den h d),z,⟨[.bool y.c.num.neg],[.slice f y.c.num.mag.length c],z,z,⟨_,z,q⟩⟩,⟨[.bool y.c.den.neg],[.slice h y.c.den.mag.length d],z,z,⟨_,z,n⟩⟩⟩,z⟩ u (by first|simpa using L|simpa [Value.cells] using L))<|nr<|mv z z<|yy (D' 8 cF' z z z) z<|yy (D' 9 cF' z z z) z ?_
    obtain⟨ac,R,hr⟩:=hr
    refine K' z z (YC.ofV E130 z z) (eu' R) z (⟨o,p,q,n⟩)<|yy (aA' z) z<|nx<|aK' hr z (fun W hr=>?_) (fun W hr=>?_)
    .refine sr<|sx0 z z<|k'<|A'<|f'<|f'<|A'<|an'<|f' (k0' hr z z)
    refine n'<|F'<|b'<|x'<|yy (W' z z) z<|mv z z<|q'<|T' ⟨i64.wrap (k+1),m⟩ hr l (f5 z z z z z) (wk ln)
   refine ae'<|h'<|h'<|I'<|af' m ⟨l,hr⟩ fn (wk ln)
 rintro I ⟨Y,hr⟩
 refine b'<|sr<|sx0 z z<|k' (k0' hr z z)
theorem ZbH(g:(List Za))(i:(List Za))(e:Option Addr)(d:Nat)(c:Option Addr)(f:Nat)(r:Bool)(hr:(Zcu g i).Ret r):Ctr prog 75 #[.slice e g.length d,.slice c i.length f] (fun G=>sl a' G e d g/\sl a' G c f i) (fun G v=>v = .bool r):=by
 refine H' (args:=[_,_]) (N:=8) func75 z z z (fun o p n j=>?_)
 obtain⟨l,k⟩:=j
 refine sr<|sg z z<|nr<|mv z z<|mv z z ?_
 obtain⟨m,h,hr⟩:=hr
 refine K' z z (m' E129 z) (bY' h) z (⟨l,k⟩)<|sx0 z z<|k' (k0' hr z z)
theorem eN'{n r}(hr:(Zd3 n).Ret r):Ctr prog 210 #[.int .u64 n] (fun G=>True) (fun G v=>v=i' r):=by
 refine H' (args:=[_]) (N:=25) func210 z z z fun m l B A=>sr<|sx0 z z<|aO' (fun (⟨h,i,d⟩:Int×Int×Mem)=>[(0,.int .u64 h),(2,i' i)]) (fun ⟨h,i,d⟩=>Mem.le l d/\(Zc8 h i).Ret r) (fun ⟨h,i,d⟩=>St m l d []) ?_ ?_
 .refine sr<|mv z z<|yy (bH' z z) z<|nx<|P' hr z (fun q hr=>?_) (fun q hr=>?_)
  .exact (show False from hr).elim
  refine n'<|ax' ⟨n,0,l⟩ ⟨mr,hr⟩ (f2 z z) (wk ln)
 rintro⟨h,i,d⟩ ⟨u,hr⟩
 refine aO' (fun (⟨f,g,c⟩:Int×Int×Mem)=>[(0,.int .u64 f),(2,i' g)]) (fun ⟨f,g,c⟩=>Mem.le d c/\(Zc7 f g).Ret r) (fun ⟨f,g,c⟩=>St m l c []) ?_ ?_
 .refine sr<|mv z z<|yy (bH' z z) z<|nx<|P' hr z (fun p hr=>?_) (fun p hr=>?_)
  .exact (show False from hr).elim
  refine n'<|ax' ⟨h,i,d⟩ ⟨mr,hr⟩ (f2 z z) (wk ln)
 rintro⟨f,g,c⟩ ⟨y,hr⟩
 refine aO' (fun (⟨j,k,e⟩:Int×Int×Mem)=>[(0,.int .u64 j),(2,i' k)]) (fun ⟨j,k,e⟩=>Mem.le c e/\(Zc6 j k).Ret r) (fun ⟨j,k,e⟩=>St m l e []) ?_ ?_
 .refine sr<|mv z z<|yy (bH' z z) z<|nx<|P' hr z (fun t hr=>?_) (fun t hr=>?_)
  .exact (show False from hr).elim
  refine n'<|ax' ⟨f,g,c⟩ ⟨mr,hr⟩ (f2 z z) (wk ln)
 rintro⟨j,k,e⟩ ⟨x,hr⟩
 refine sr<|mv z z<|mv z z<|yy (av' ad' aL' z) z ?_
 obtain⟨o,hr⟩:=hr
 refine yy (de' (s:=ZdL) aR' z z o) z<|yy (av' aL' aD' z) z<|yy (W' z z) z<|sx0 z z<|k' (k0' hr z z)
theorem ej'{d r}(hr:(Z3 d).Ret r):Ctr prog 187 #[.int .u64 d] (fun G=>True) (fun G v=>v=i' r):=by
 refine H' (args:=[_]) (N:=8) func187 z z z fun h i g e=>sr<|sx0 z z<|g'<|bw' z<|n'<|b'<|sr<|mv z z ?_
 obtain⟨f,c,hr⟩:=hr
 refine K' z z (m' E210 z) (eN' c) z (trivial)<|sx0 z z<|k' (k0' hr z z)
theorem Zae(t:(List (List Za)))(f:Option Addr)(e:Nat)(j:Nat)(h:Option Ow)(r:(List (List Za)))(hr:(ZO t).Ret r):CtrL prog 152 #[.slice f j e,.func (.func 99) #[] #[]] [(5000,h)] (fun G=>RowR (Rp.sl a') 65 G (.slice f j e) t h) (fun G L v=>∃ k,L=[(5000,k)]/\v = .tuple #[]/\RowR (Rp.sl a') 65 G (.slice f j e) r k):=by
 refine cd' (args:=[_,_]) (N:=14) func152 z z z (fun q A u m=>?_)
 have d:=m
 have hz:q.L.zero:=by
  rw[u]; intro p o x B
  simp only[List.mem_cons,List.not_mem_nil,or_false] at o
  subst o; exact df' d B
 refine sr<|mv z z<|yy (Y0.lenRow M' d z) z<|sx0 z z<|x'<|mv z z<|mv z z<|mv z z<|yy (av' aD' dg' z) z ?_
 obtain⟨F,n,hr⟩:=hr
 refine K' z z (m' E187 z) (ej' n) z (trivial)<|mv z z ?_
 obtain⟨E,l,hr⟩:=hr
 refine cf' z z (m' E186 z) (Zar _ _ _ _ _ _ _ _ _ l) z (d) (lc z ln) hz (fun D s C y c=>?_)
 obtain⟨i,rfl,rfl,g⟩:=c
 refine q'<|WE.retN ?_
 obtain rfl:_=r:=hr
 refine cg' (S':=St q A s [(5000,i)]) (w1 z)<|WE.ret0 z  ⟨_,z,z,g⟩
abbrev RP:Rp (List Za):=Rp.sl Zj
theorem Zk5(l:List (List Za))(p:Option Addr)(n c:Nat):Ctr prog 98 #[.slice p n c] (fun G=>SlR RP G (.slice p n c) l) (fun G v=>∃ b,v = .func (.func 153) #[] #[.pointer (some ⟨b,0,none⟩)]/\G b 0=some (.slice p n c)/\SlR RP G (.slice p n c) l):=by
  refine Ctr.enter (args:=[_]) (N:=4) func98 rfl rfl rfl (fun w0 G0 hL0 hsl=>?_)
  refine sr<|WL.boxF 1 rfl Zd rfl rfl (fun b=>?_)
  refine sg rfl rfl<|WL.nil<|WE.then ?_
  refine WC.knowBox 1 rfl (by rw[hL0]; rfl) (fun G1 hle hk _=>?_)
  refine sr<|yy (Y0.makeFunc rfl rfl) rfl<|sg rfl rfl<|nx<|WC.ret ?_
  exact WE.ret1 rfl rfl ⟨_,rfl,hk 0 _ rfl,hsl.mono hle⟩
def EP(l:List (List Za))(j:Nat)(u:Value)(G:Mem):Prop:=∃ x,l[j]? = some x/\∃ p c,u = .slice p x.length c/\SlR Zj G u x
theorem Zkf(b:Nat)(l:List (List Za))(p:Option Addr)(n c:Nat):IterOk prog 153 #[.pointer (some ⟨b,0,none⟩)] l.length (EP l) (fun G=>G b 0=some (.slice p n c)/\SlR RP G (.slice p n c) l):=by
  intro σ yl I Lc pre hlow hmono hY s0 hI0 hz
  refine CtrL.enter (args:=[_,_]) (N:=16) func153 rfl rfl rfl (fun w0 G0 hL0 hp=>?_)
  obtain⟨⟨hb,hsl⟩,hpre⟩:=hp
  have hz0:w0.L.zero:=by rw[hL0]; exact hz
  have hlen:l.length<=9223372036854775807:=by obtain⟨_,_,_,_,h,_⟩:=hsl; omega
  rw[hsl.eqv] at hb
  have hsl:=hsl.std
  refine sr<|yy (Y0.loadG sc25 rfl hb) rfl<|yy (Y0.lenC underlying25 rfl) rfl<|mv rfl rfl<|nx<|WC.block ?_
  refine WC.loopH (X:=Nat×σ×Mem) (fun gx=>match gx with|⟨k,_,_⟩=>[(0,.func (.yield yl) #[] #[]),(5,.slice p l.length c),(6,.int .i64 (l.length:Int)),(7,.int .i64 (k:Int))])
    (fun gx=>match gx with|⟨k,s,G⟩=>k<=l.length/\Mem.le G0 G/\I k s/\pre s G)
    (fun gx=>match gx with|⟨_,s,G⟩=>St w0 G0 G (Lc s)) (fun gx=>l.length-gx.1) ⟨0,s0,G0⟩ (fc rfl (fc rfl (fc rfl (fc rfl fn)))) ⟨Nat.zero_le _,Mem.le_refl _,hI0,hpre⟩ (fun w hs=>hs) ?_
  rintro⟨k,s,G⟩ ⟨hk,hle,hI,hp⟩
  refine sr<|yy (Y0.lss rfl rfl) rfl<|nx<|WC.seq ?_
  refine WC.condD (p:=(k:Int)<(l.length:Int)) rfl (fun hc=>?_) (fun hc=>?_)
  . have hkl:k<l.length:=by omega
    have hx:(0:Int)<=(k:Int)/\l[(k:Int).toNat]? = some l[k]:=⟨by omega,by simp[hkl]⟩
    obtain⟨q,qc,qe,qh⟩:=AtK.sl (SlR.at hsl hx)
    have hw:i64.wrap ((k:Int)+1)=((k+1:Nat):Int):=by rw[IntKind.wrap_i64]; omega
    refine WC.skip<|WE.then<|WC.seq<|WC.block<|sr<|yy (Y0.idxR underlying25 sz65 (hsl.mono hle) rfl rfl hx) rfl<|yy (Y0.loadG sc65 rfl (hle _ _ _ qe)) rfl<|sg rfl rfl<|nx<|WC.seq<|WC.regionI<|WLI.y0 Zd (Y0.move rfl) (fun c h=>by cases h) rfl<|WLI.y0 Zd (Y0.move rfl) (fun c h=>by cases h) rfl ?_
    refine WLI.callZ (R:=[]) Zd rfl rfl rfl (hY k _ s hkl hI) ⟨hp,l[k],by simp[hkl],q,qc,rfl,qh.mono hle⟩ hz0 (fun i hi=>by cases hi) (fun b G1 L1 hle1 hpost=>?_)
    obtain⟨rfl,s',hI',rfl,hp'⟩:=hpost
    refine WLI.y0 Zd (Y0.not rfl) (fun c h=>by cases h) rfl<|WLI.nil<|WE.then<|WC.condF rfl<|WC.skip ?_
    refine WE.inBlock<|WE.then<|WC.region<|yy (Y0.add rfl rfl) rfl ?_
    rw[hw]
    exact mv rfl rfl<|WL.nil<|WE.backH (x:=(k,s,G)) (k+1,s',G1) ⟨by omega,Mem.le_trans hle hle1,hI',hp'⟩ (fc rfl (fc rfl (fc rfl (fc rfl fn)))) (fun w hs=>hs) (by show l.length-(k+1)<l.length-k; omega)
  have:k=l.length:=by omega
  subst this
  refine WC.exit<|WE.thenExit<|WE.thenExit<|WE.exitHere<|WE.retN ?_
  exact WE.ret0 rfl ⟨rfl,s,hI,rfl,hp⟩
theorem Zk3(b:Nat)(l:List (List Za))(p:Option Addr)(n c:Nat)(hl:l.length<=1000000):CtrL prog 185 #[.slice none 0 0,.func (.func 153) #[] #[.pointer (some ⟨b,0,none⟩)]] [] (fun G=>G b 0=some (.slice p n c)/\SlR RP G (.slice p n c) l)
    (fun G L v=>∃ q qc tk,L=[(7000,tk)]/\v = .slice q l.length qc/\RowR RP 65 G v l tk):=by
  refine CtrL.enterM (args:=[_,_]) (N:=13) func185 rfl rfl rfl (fun w0 G0 hL0 hpre=>?_)
  refine sr<|WL.boxF 2 rfl Zd rfl rfl (fun b2=>?_)
  refine sg rfl rfl<|nx<|WC.seq<|sr<|mv rfl rfl<|nx ?_
  refine WC.rangeAll (t:=7) (f:=153) rfl E153 (fun ac d lp r ha hst hpe htm hps has hbo=>?_)
  let Lc:Nat×Option Addr×Nat×Option Ow->Lo:=fun s=>[(8001,some ⟨lp,.loop r,0⟩),(8002,some ⟨d,.deferred (some []),0⟩),(2,some ⟨b2,.cells #[.slice s.2.1 s.1 s.2.2.1] 25 (0,0),0⟩),(7000,s.2.2.2)]
  refine⟨_,Lc (0,none,0,none),_,lc rfl (lc rfl (lc rfl (lw ln))),fun i _=>by rw[hL0]; rfl,
    Zkf b l p n c lp (fun j s=>s.1=j/\j<=l.length) Lc (fun s G=>RowR RP 65 G (.slice s.2.1 s.1 s.2.2.1) (l.take s.1) s.2.2.2) (fun s i hi=>?_) (fun G G' s hle h=>h.mono hle) (fun j u s hj hI=>?_) _ ⟨rfl,Nat.zero_le _⟩ ?_,⟨hpre,RowR.nil⟩,fun G' L' v hle hpost=>?_⟩
  . simp only[Lc]
    rw[Lo.Zh,if_neg (by omega),Lo.Zh,if_neg (by omega),Lo.Zh,if_neg (by omega),Lo.Zh,if_neg (by omega)]; rfl
  . obtain⟨k,q,qc,tk⟩:=s
    obtain⟨rfl,hk⟩:=hI
    dsimp only at hj hk ⊢
    refine YCtr.ZiV (N:=13) rfl hst hpe hps (by rw[htm]; exact ha.round (by decide)) (fun w0' G hL' hG=>?_)
    obtain⟨hrow,x,hx,up,uc,rfl,hux⟩:=hG
    refine Zht has ?_
    refine WCI.region Zge rfl (sg rfl rfl<|WL.nil (fun a1 v1 ha1 hs1=>⟨_,_,_,ha1,hs1,rfl,?_⟩))
    refine Zht hbo ?_
    refine WCI.block<|WCI.region (ZaD ZaE) rfl<|yy (Y0.loadL 2 sc25 rfl rfl rfl) rfl<|mv rfl rfl ?_
    refine WL.litR (e:=65) (r:=RP) (vs:=#[(0,.slice up x.length uc)]) (cs:=[.slice up x.length uc]) ([x]:List (List Za)) Zd rfl rfl rfl rfl (by decide) (fun _=>by kernel_rfl) ⟨[.slice up x.length uc],[],rfl,⟨_,rfl,hux⟩,rfl⟩ (key:=999) rfl (by rw[hL']; rfl) (fun p1 G1 hle1 h1=>?_)
    have htl:(l.take k).length=k:=by rw[List.length_take]; omega
    have htk:l.take k++[x]=l.take (k+1):=by
      obtain⟨hk2,rfl⟩:=List.getElem?_eq_some_iff.1 hx
      exact (List.take_succ_eq_append_getElem hk2).symm
    refine WL.appendT (r:=RP) (e:=65) (xs:=l.take k) (ys:=[x]) 7000 Zd rfl underlying25 el65 rfl (by decide) rfl rfl (hrow.mono hle1) rfl h1 (by rw[List.length_append,htl]; show k+1<=small; simp only[small]; omega) (fun p2 c2 tk2 h2=>?_)
    rw[show (l.take k++[x]).length=k+1 by rw[List.length_append,htl]; rfl] at h2 ⊢
    rw[htk] at h2
    refine WL.storeL 2 #[.slice p2 (k+1) c2] Zd sz25 rfl rfl rfl Nat.zero_lt_one rfl rfl<|WL.nil<|WE.inBlock ?_
    exact fun a2 w2 _ hs2=>⟨_,_,Lc (k+1,p2,c2,tk2),hs2,rfl,lc rfl (lc rfl (lc rfl (lc rfl ln))),rfl,(k+1,p2,c2,tk2),⟨rfl,by omega⟩,rfl,h2⟩
  . intro q hq x hx
    simp only[Lc,List.mem_cons,List.not_mem_nil,or_false] at hq
    rcases hq with rfl|rfl|rfl|rfl <;> cases hx <;> rfl
  obtain⟨rfl,⟨k,q,qc,tk⟩,⟨rfl,_⟩,rfl,hrow⟩:=hpost
  dsimp only at hrow
  rw[List.take_length] at hrow
  refine⟨rfl,WCD.seq<|WCD.region<|yy (Y0.loadL 2 sc25 rfl rfl rfl) rfl<|sg rfl rfl<|WL.nil<|WCD.then<|WCD.ret ?_⟩
  refine WE.retD (rvs:=[.tmp 4]) [(7000,tk)] [.slice q l.length qc] rfl rfl rfl (fun i rv v e1 e2=>?_) (lc rfl ln) ⟨_,_,_,rfl,rfl,hrow⟩
  match i with
  | 0=>simp at e1 e2; subst e1 e2; rfl
  | i+1=>simp at e1
theorem Zkd(xs:List (List Za))(hg:xs.all goodP=true)(hlen:xs.length<=1000000)(p:Option Addr)(c n:Nat)(tk:Option Ow):CtrL prog 100 #[.slice p n c,.func (.func 75) #[] #[]] [(5000,tk)] (fun G=>RowR RP 65 G (.slice p n c) xs tk)
    (fun G L v=>∃ zk q qc,L=[(5000,zk)]/\v = .slice q (dedP xs).length qc/\RowR RP 65 G (.slice q (dedP xs).length qc) (dedP xs) zk):=by
  refine CtrL.enter (args:=[_,_]) (N:=66) func100 rfl rfl rfl (fun w0 G0 hL0 hrow=>?_)
  obtain rfl:n=xs.length:=(Value.slice.inj hrow.eqv).2.1
  refine sr<|sg rfl rfl<|nx<|WC.seq<|sr<|mv rfl rfl<|yy (Y0.lenC underlying25 rfl) rfl<|yy (Y0.lss rfl rfl) rfl<|nx ?_
  refine WC.condD (p:=(xs.length:Int)<2) rfl (fun hc=>?_) (fun hc=>?_)
  . refine sr<|mv rfl rfl<|sg rfl rfl<|nx<|WC.ret<|WE.thenRet ?_
    have e:=Zg5 (xs:=xs) (by omega)
    exact WE.ret1 rfl rfl ⟨tk,p,c,rfl,by rw[e],by rw[e]; exact hrow⟩
  have hat:∀ {G:Mem}{ys:List (List Za)}{zk:Option Ow},RowR RP 65 G (.slice p ys.length c) ys zk->∀ i (hi:i<ys.length),∃ q qc,CellT zk (i*1) (.slice q ys[i].length qc)/\SlR Zj G (.slice q ys[i].length qc) ys[i]:=fun {G ys zk} h i hi=>by
    have:=AtK.sl (RowR.at h (i:=(i:Int)) (x:=ys[i]) ⟨by omega,by simp[hi]⟩)
    rw[Int.toNat_natCast] at this
    exact this
  have good:∀ i (hi:i<xs.length),goodP xs[i]=true:=fun i hi=>List.all_eq_true.1 hg _ (List.getElem_mem hi)
  obtain⟨b,rfl⟩:∃ b,p=some ⟨b,0,none⟩:=by
    cases tk with
    | none=>obtain⟨rfl,_⟩:=hrow; simp at hc
    | some y=>obtain⟨cap,cs,rest,h1,_⟩:=hrow; exact⟨y.b,(Value.slice.inj h1).1⟩
  have hcap:xs.length<=c:=by
    cases tk with
    | none=>obtain⟨rfl,_⟩:=hrow; simp at hc
    | some y=>obtain⟨cap,cs,rest,h1,_,_,_,_,_,h7⟩:=hrow; rw[(Value.slice.inj h1).2.2]; exact h7
  refine WC.skip<|WE.then<|WC.seq<|sr<|sg rfl rfl<|nx<|WC.block ?_
  refine WC.loopH (X:=Nat×Mem) (fun gx=>match gx with|⟨k,_⟩=>[(0,.slice (some ⟨b,0,none⟩) xs.length c),(1,.func (.func 75) #[] #[]),(5,.int .i64 (k:Int))])
    (fun gx=>match gx with|⟨k,G⟩=>1<=k/\k<=xs.length/\Mem.le G0 G/\dedP (xs.take k)=xs.take k)
    (fun gx=>match gx with|⟨_,G⟩=>St w0 G0 G [(5000,tk)]) (fun gx=>xs.length-gx.1) ⟨1,G0⟩ (fc rfl (fc rfl (fc rfl fn))) ⟨Nat.le_refl _,by omega,Mem.le_refl _,Zg5 (by rw[List.length_take]; omega)⟩ (fun w hs=>hs) ?_
  rintro⟨k,G⟩ ⟨h1k,hk,hle,hded⟩
  dsimp only at h1k hk hle hded ⊢
  have hrow:=hrow.mono hle
  refine WC.seq<|sr<|mv rfl rfl<|mv rfl rfl<|yy (Y0.lenC underlying25 rfl) rfl<|yy (Y0.lss rfl rfl) rfl<|nx ?_
  refine WC.condD (p:=(k:Int)<(xs.length:Int)) rfl (fun hc2=>?_) (fun hc2=>?_)
  . have hkl:k<xs.length:=by omega
    have hw1:i64.wrap ((k:Int)-1)=((k-1:Nat):Int):=by rw[IntKind.wrap_i64]; omega
    have hw2:i64.wrap ((k:Int)+1)=((k+1:Nat):Int):=by rw[IntKind.wrap_i64]; omega
    obtain⟨q1,c1,e1,s1⟩:=hat hrow k hkl
    obtain⟨q2,c2,e2,s2⟩:=hat hrow (k-1) (by omega)
    have hsnoc:=ZhN h1k hkl
    refine WC.skip<|WE.then<|WC.seq<|WC.block<|WC.seq ?_
    refine WC.drawn [false,false,false,false,false,false,false,false,false,false] mix (by kernel_rfl) (fun hb=>?_)
    refine cn (fun _ hle=>Y0.move rfl)<|cn (fun _ hle=>Y0.move rfl)<|cn (fun _ hle=>Y0.move rfl)<|cn (fun _ hle=>Y0.idxSlN underlying25 sz65 rfl rfl hkl)<|cn (fun _ hle=>Y0.loadT sc65 (hrow.mono hle) (key:=5000) rfl rfl (by simpa using e1)) ?_
    refine cn (fun _ hle=>Y0.move rfl)<|cn (fun _ hle=>Y0.move rfl)<|cn (fun _ hle=>Y0.eq (Y0.sub rfl rfl) (congrArg (Value.int .i64) hw1))<|cn (fun _ hle=>Y0.idxSlN underlying25 sz65 rfl rfl (show k-1<xs.length by omega))<|cn (fun _ hle=>Y0.loadT sc65 (hrow.mono hle) (key:=5000) rfl rfl (by simpa using e2)) ?_
    refine Chain.tail0 hb<|WL.call0 Zd rfl (YC.ofV E75 rfl rfl) (ZbH _ _ _ _ _ _ _ (Ze7 (good k hkl) (good (k-1) (by omega)))) rfl ⟨s1,s2⟩<|WL.nil<|WE.nx<|WE.then ?_
    refine WC.condD (p:=cmpP xs[k] xs[k-1]=0) rfl (fun hc3=>?_) (fun hc3=>?_)
    . rw[if_pos hc3,hded] at hsnoc
      by_cases hck:c=k
      . omega
      refine sr<|mv rfl rfl<|mv rfl rfl<|yy (Y0.slcN underlying25 sz65 rfl rfl hk hcap hck) rfl<|sg rfl rfl<|nx<|WC.seq<|sr<|sg rfl rfl<|nx<|WC.block ?_
      refine WC.loopH (X:=Nat×List (List Za)×Option Ow×Mem) (fun gx=>match gx with|⟨m,_,_,_⟩=>[(0,.slice (some ⟨b,0,none⟩) xs.length c),(1,.func (.func 75) #[] #[]),(5,.int .i64 ((dedP (xs.take (k+m))).length:Int)),(6,.slice (some ⟨b,k*1,none⟩) (xs.length-k) (c-k)),(7,.int .i64 (m:Int))])
        (fun gx=>match gx with|⟨m,ys,zk,G'⟩=>1<=m/\k+m<=xs.length/\Mem.le G G'/\RowR RP 65 G' (.slice (some ⟨b,0,none⟩) xs.length c) ys zk/\ys.length=xs.length/\ys.take (dedP (xs.take (k+m))).length=dedP (xs.take (k+m))/\(dedP (xs.take (k+m))).length<=k+m-1/\∀ t,k+m-1<=t->ys[t]? = xs[t]?)
        (fun gx=>match gx with|⟨_,_,zk,G'⟩=>St w0 G0 G' [(5000,zk)]) (fun gx=>xs.length-(k+gx.1)) ⟨1,xs,tk,G⟩ (fc rfl (fc rfl (fc (by rw[hsnoc,List.length_take,Nat.min_eq_left hk]; rfl) (fc rfl (fc rfl fn))))) ⟨Nat.le_refl _,by omega,Mem.le_refl _,hrow,rfl,by rw[hsnoc,List.length_take,Nat.min_eq_left hk],by rw[hsnoc,List.length_take]; omega,fun _ _=>rfl⟩ (fun w hs=>hs) ?_
      rintro⟨m,ys,zk,G'⟩ ⟨h1m,hm,hle2,hr2,hyl,htk,hdl,hsame⟩
      dsimp only at h1m hm hle2 hr2 hyl htk hdl hsame ⊢
      refine WC.seq<|sr<|mv rfl rfl<|mv rfl rfl<|yy (Y0.lenC underlying25 rfl) rfl<|yy (Y0.lss rfl rfl) rfl<|nx ?_
      refine WC.condD (p:=(m:Int)<((xs.length-k:Nat):Int)) rfl (fun hc4=>?_) (fun hc4=>?_)
      . have hml:k+m<xs.length:=by omega
        have hw3:i64.wrap ((m:Int)-1)=((m-1:Nat):Int):=by rw[IntKind.wrap_i64]; omega
        have hw4:i64.wrap ((m:Int)+1)=((m+1:Nat):Int):=by rw[IntKind.wrap_i64]; omega
        have hr2':RowR RP 65 G' (.slice (some ⟨b,0,none⟩) ys.length c) ys zk:=by rw[hyl]; exact hr2
        have y1:ys[k+m]'(by omega)=xs[k+m]:=by have:=hsame (k+m) (by omega); rw[List.getElem?_eq_getElem (by omega),List.getElem?_eq_getElem (by omega)] at this; exact Option.some.inj this
        have y2:ys[k+m-1]'(by omega)=xs[k+m-1]'(by omega):=by have:=hsame (k+m-1) (by omega); rw[List.getElem?_eq_getElem (by omega),List.getElem?_eq_getElem (by omega)] at this; exact Option.some.inj this
        obtain⟨q3,c3,e3,s3⟩:=hat hr2' (k+m) (by omega)
        obtain⟨q4,c4,e4,s4⟩:=hat hr2' (k+m-1) (by omega)
        rw[y1] at e3 s3
        rw[y2] at e4 s4
        have a3:CellT zk (k*1+m*1) (.slice q3 xs[k+m].length c3):=by rw[<- Nat.add_mul]; exact e3
        have a4:CellT zk (k*1+(m-1)*1) (.slice q4 (xs[k+m-1]'(by omega)).length c4):=by rw[<- Nat.add_mul,show k+(m-1)=k+m-1 by omega]; exact e4
        have hsn:=ZhN (xs:=xs) (j:=k+m) (by omega) hml
        refine WC.skip<|WE.then<|WC.seq<|WC.block<|WC.seq ?_
        refine WC.drawn [false,false,false,false,false,false,false,false,false,false] mix (by kernel_rfl) (fun hb=>?_)
        refine cn (fun _ hle=>Y0.move rfl)<|cn (fun _ hle=>Y0.move rfl)<|cn (fun _ hle=>Y0.move rfl)<|cn (fun _ hle=>Y0.idxSlN underlying25 sz65 rfl rfl (show m<xs.length-k by omega))<|cn (fun _ hle=>Y0.loadT sc65 (hr2.mono hle) (key:=5000) rfl rfl a3) ?_
        refine cn (fun _ hle=>Y0.move rfl)<|cn (fun _ hle=>Y0.move rfl)<|cn (fun _ hle=>Y0.eq (Y0.sub rfl rfl) (congrArg (Value.int .i64) hw3))<|cn (fun _ hle=>Y0.idxSlN underlying25 sz65 rfl rfl (show m-1<xs.length-k by omega))<|cn (fun _ hle=>Y0.loadT sc65 (hr2.mono hle) (key:=5000) rfl rfl a4) ?_
        refine Chain.tail0 hb<|WL.call0 Zd rfl (YC.ofV E75 rfl rfl) (ZbH _ _ _ _ _ _ _ (Ze7 (good (k+m) hml) (good (k+m-1) (by omega)))) rfl ⟨s3,s4⟩<|yy (Y0.notD rfl) rfl<|WL.nil<|WE.nx<|WE.then ?_
        refine WC.condD (p:=¬ cmpP xs[k+m] (xs[k+m-1]'(by omega))=0) rfl (fun hc5=>?_) (fun hc5=>?_)
        . rw[if_neg hc5] at hsn
          have hlen2:(dedP (xs.take (k+(m+1)))).length=(dedP (xs.take (k+m))).length+1:=by rw[<- Nat.add_assoc,hsn,List.length_append]; rfl
          have hw5:i64.wrap (((dedP (xs.take (k+m))).length:Int)+1)=(((dedP (xs.take (k+m))).length+1:Nat):Int):=by rw[IntKind.wrap_i64]; omega
          refine sr<|mv rfl rfl<|mv rfl rfl<|mv rfl rfl<|mv rfl rfl<|yy (Y0.idxSlN underlying25 sz65 rfl rfl (show m<xs.length-k by omega)) rfl<|yy (Y0.loadT sc65 hr2 (key:=5000) rfl rfl a3) rfl ?_
          have hz:(0:Int)<=((dedP (xs.take (k+m))).length:Int)/\ys[((dedP (xs.take (k+m))).length:Int).toNat]? = some (ys[(dedP (xs.take (k+m))).length]'(by omega)):=⟨by omega,by rw[Int.toNat_natCast,List.getElem?_eq_getElem]⟩
          refine yy (Y0.idxRow underlying25 sz65 hr2 rfl rfl hz) rfl ?_
          refine WL.storeT (r:=RP) (e:=65) (cs':=[.slice q3 xs[k+m].length c3]) (i:=((dedP (xs.take (k+m))).length:Int)) (z':=xs[k+m]) 5000 Zd sz65 rfl hr2 rfl rfl rfl rfl ⟨_,rfl,s3⟩ hz (fun tk3 h3=>?_)
          rw[Int.toNat_natCast] at h3
          refine nx<|WC.region<|mv rfl rfl<|yy (Y0.add rfl rfl) rfl ?_
          rw[hw5]
          refine sg rfl rfl<|WL.nil<|WE.inBlock<|WE.then<|WC.region<|mv rfl rfl<|yy (Y0.add rfl rfl) rfl ?_
          rw[hw4]
          refine sg rfl rfl<|WL.nil<|WE.backH (x:=(m,ys,zk,G')) (m+1,ys.set (dedP (xs.take (k+m))).length xs[k+m],tk3,G') ⟨by omega,by omega,hle2,h3,by rw[List.length_set]; exact hyl,?_,by show (dedP (xs.take (k+(m+1)))).length<=k+(m+1)-1; omega,fun t ht=>?_⟩ (fc rfl (fc rfl (fc (by rw[hlen2]; rfl) (fc rfl (fc rfl fn))))) (fun w hs=>hs.weaken (lc rfl ln)) (by show xs.length-(k+(m+1))<xs.length-(k+m); omega)
          . rw[hlen2,<- Nat.add_assoc,hsn,List.take_succ_eq_append_getElem (by rw[List.length_set]; omega),List.getElem_set_self]
            rw[List.take_set_of_le (Nat.le_refl _),htk]
          rw[List.getElem?_set_ne (by omega)]
          exact hsame t (by omega)
        rw[if_pos (Classical.not_not.1 hc5)] at hsn
        refine WC.skip<|WE.inBlock<|WE.then<|WC.region<|mv rfl rfl<|yy (Y0.add rfl rfl) rfl ?_
        rw[hw4]
        exact sg rfl rfl<|WL.nil<|WE.backH (x:=(m,ys,zk,G')) (m+1,ys,zk,G') ⟨by omega,by omega,hle2,hr2,hyl,by rw[<- Nat.add_assoc,hsn]; exact htk,by rw[<- Nat.add_assoc,hsn]; omega,fun t ht=>hsame t (by omega)⟩ (fc rfl (fc rfl (fc (by rw[<- Nat.add_assoc,hsn]; rfl) (fc rfl (fc rfl fn))))) (fun w hs=>hs) (by show xs.length-(k+(m+1))<xs.length-(k+m); omega)
      have hend:k+m=xs.length:=by omega
      rw[hend,List.take_length] at htk hdl
      refine WC.exit<|WE.thenExit<|WE.thenExit<|WE.exitHere<|WE.then<|sr<|mv rfl rfl<|mv rfl rfl ?_
      rw[<- hyl] at hr2
      refine WL.clearTail (r:=RP) (e:=65) (xs:=ys) (lo:=((dedP (xs.take (k+m))).length:Int)) (zx:=([]:List Za)) 5000 rfl underlying25 el65 rfl rfl (List.all_eq_true.1 rfl) (by decide) ⟨_,rfl,SlR.nil _ _⟩ hr2 rfl (by rw[hyl]; rfl) rfl (by rw[hend,List.take_length]; omega) (fun v5 tk5 h5=>?_)
      rw[hend,List.take_length,Int.toNat_natCast,htk] at h5
      rw[hyl] at h5
      have hdl2:=ZiD (xs:=xs)
      refine nx<|sr<|mv rfl rfl<|mv rfl rfl ?_
      refine WL.takeRow (r:=RP) (e:=65) (hi:=((dedP (xs.take (k+m))).length:Int)) Zd rfl underlying25 sz65 rfl h5 rfl rfl ⟨by omega,by omega,by rw[hend,List.take_length,List.length_append,List.length_replicate]; omega⟩ (fun h6=>?_)
      rw[hend,List.take_length,Int.toNat_natCast,List.take_left] at h6
      rw[Int.toNat_natCast]
      refine sg rfl rfl<|nx<|WC.ret<|WE.inBlockRet<|WE.thenRet<|WE.thenRet<|WE.inBlockRet<|WE.thenRet ?_
      refine WE.conseq (S':=St w0 G0 G' [(5000,tk5)]) (fun w hs=>hs.weaken (lc rfl ln)) (WE.ret1 rfl rfl ⟨tk5,_,c,rfl,?_,h6⟩)
      rw[hend,List.take_length]
    rw[if_neg hc3,hded] at hsnoc
    refine WC.skip<|WE.inBlock<|WE.then<|WC.region<|mv rfl rfl<|yy (Y0.add rfl rfl) rfl ?_
    rw[hw2]
    exact sg rfl rfl<|WL.nil<|WE.backH (x:=(k,G)) (k+1,G) ⟨by omega,by omega,hle,by rw[hsnoc]; exact (List.take_succ_eq_append_getElem hkl).symm⟩ (fc rfl (fc rfl (fc rfl fn))) (fun w hs=>hs) (by show xs.length-(k+1)<xs.length-k; omega)
  have hke:k=xs.length:=by omega
  subst hke
  rw[List.take_length] at hded
  refine WC.exit<|WE.thenExit<|WE.thenExit<|WE.exitHere<|WE.then<|sr<|mv rfl rfl<|sg rfl rfl<|nx<|WC.ret ?_
  exact WE.ret1 rfl rfl ⟨tk,_,c,rfl,by rw[hded],by rw[hded]; exact hrow⟩
theorem Zil(b:Nat)(l:List (List Za))(hg:l.all goodP=true)(hl:l.length<=100)(p:Option Addr)(n c:Nat):CtrL prog 97 #[.func (.func 153) #[] #[.pointer (some ⟨b,0,none⟩)],.func (.func 99) #[] #[]] [] (fun G=>G b 0=some (.slice p n c)/\SlR RP G (.slice p n c) l)
    (fun G L v=>∃ q qc tk,L=[(5000,tk)]/\v = .slice q (ordP l).length qc/\RowR RP 65 G v (ordP l) tk):=by
  refine CtrL.enter (args:=[_,_]) (N:=12) func97 rfl rfl rfl (fun w0 G0 hL0 hpre=>?_)
  have hz:w0.L.zero:=by rw[hL0]; intro p hp; cases hp
  have h0:∀ i,w0.L.get i=none:=fun i=>by rw[hL0]; rfl
  have hsort:(ZO l).Ret (ordP l):=by
    obtain⟨v,h1,h2,h3⟩:=ZlW hl
    exact⟨v,h1,ordP l,⟨⟨rfl,rfl,⟨h2,h3⟩,by omega,hg⟩,rfl⟩,rfl⟩
  have hol:(ordP l).length=l.length:=(ZaO l).length_eq
  have collect:CtrL prog 151 #[.func (.func 153) #[] #[.pointer (some ⟨b,0,none⟩)]] [] (fun G=>G b 0=some (.slice p n c)/\SlR RP G (.slice p n c) l)
      (fun G L v=>∃ q qc tk,L=[(7000,tk)]/\v = .slice q l.length qc/\RowR RP 65 G v l tk):=by
    refine CtrL.enter (args:=[_]) (N:=5) func151 rfl rfl rfl (fun w1 G1 hL1 hpre1=>?_)
    have hz1:w1.L.zero:=by rw[hL1]; intro p hp; cases hp
    refine sr<|sg rfl rfl<|nx<|sr<|mv rfl rfl ?_
    refine WL.callT Zd rfl (YC.of E185 rfl) (Zk3 b l p n c (by omega)) rfl hpre1 (Lo.Zt _) hz1 (fun v G2 L2 hle2 hpost=>?_)
    obtain⟨q,qc,tk,rfl,rfl,hrow⟩:=hpost
    refine sg rfl rfl<|nx<|WC.ret ?_
    exact WE.conseq (S':=St w1 G1 G2 [(7000,tk)]) (fun w hs=>hs.weaken (lc rfl ln)) (WE.ret1 rfl rfl ⟨q,qc,tk,rfl,rfl,hrow⟩)
  refine sr<|sg rfl rfl<|nx<|sr<|mv rfl rfl ?_
  refine WL.callT Zd rfl (YC.of E151 rfl) collect rfl hpre (Lo.Zt _) hz (fun v G2 L2 hle2 hpost=>?_)
  obtain⟨q,qc,tk,rfl,rfl,hrow⟩:=hpost
  refine sg rfl rfl<|nx<|sr<|mv rfl rfl<|mv rfl rfl ?_
  refine WL.conseq (fun w hs=>hs.rekey (i:=7000) (j:=5000) rfl (h0 _)) ?_
  refine WL.callT Zd rfl (YC.of E152 rfl) (Zae _ _ _ _ _ _ hsort) rfl hrow (lc rfl ln) hz (fun v G3 L3 hle3 hpost=>?_)
  obtain⟨tk3,rfl,rfl,hrow3⟩:=hpost
  refine nx<|sr<|mv rfl rfl<|sg rfl rfl<|nx<|WC.ret ?_
  rw[<- hol] at hrow3
  refine WE.conseq (S':=St w0 G0 G3 [(5000,tk3)]) (fun w hs=>hs.weaken (lc rfl ln)) (WE.ret1 rfl rfl ⟨q,qc,tk3,rfl,?_,?_⟩)
  . rw[hol]
  rw[<- hol]; exact hrow3
theorem ZdU(l:List (List Za))(p:Option Addr)(c:Nat)(r:List (List Za))(hr:(Zb0 l).Ret r):Ctr prog 49 #[.slice p l.length c] (fun G=>SlR RP G (.slice p l.length c) l) (fun G v=>∃ q qc,v = .slice q r.length qc/\SlR RP G (.slice q r.length qc) r):=by
  obtain⟨⟨hl,hg⟩,hr⟩:=hr
  replace hr:_=r:=hr
  subst hr
  have hz:∀ {w0:Bs},w0.L=[]->w0.L.zero:=fun h=>by rw[h]; intro p hp; cases hp
  have hol:(ordP l).length=l.length:=(ZaO l).length_eq
  have hog:(ordP l).all goodP=true:=List.all_eq_true.2 fun x hx=>List.all_eq_true.1 hg x ((ZaO l).mem_iff.1 hx)
  refine Ctr.enter (args:=[_]) (N:=9) func49 rfl rfl rfl (fun w0 G0 hL0 hsl=>?_)
  refine sr<|sg rfl rfl<|nx<|sr<|mv rfl rfl ?_
  refine WL.call Zd rfl (YC.of E98 rfl) (Zk5 l p l.length c) rfl hsl (fun v G1 hle1 hpost=>?_)
  obtain⟨b,rfl,hb,hsl1⟩:=hpost
  refine WL.callT Zd rfl (YC.of E97 rfl) (Zil b l hg hl p l.length c) rfl ⟨hb,hsl1⟩ (Lo.Zt _) (hz hL0) (fun v G2 L2 hle2 hpost=>?_)
  obtain⟨q,qc,tk,rfl,rfl,hrow⟩:=hpost
  refine sg rfl rfl<|nx<|sr<|mv rfl rfl ?_
  refine WL.callT Zd rfl (YC.of E100 rfl) (Zkd (ordP l) hog (by omega) q qc _ tk) rfl hrow (lc rfl ln) (hz hL0) (fun v G3 L3 hle3 hpost=>?_)
  obtain⟨tk3,q3,qc3,rfl,rfl,hrow3⟩:=hpost
  refine sg rfl rfl<|nx<|WC.ret ?_
  refine WE.freezeT 5000 hrow3 rfl (by rw[hL0]; rfl) (fun tk4 G4 hle4 hsl4 _=>?_)
  exact WE.ret1 rfl rfl ⟨_,_,rfl,hsl4⟩
theorem dB'{e c d r}(hr:(ZbW e).Ret r):Ctr prog 141 #[.slice c e.length d] (fun G=>sl (Rp.int .u32) G c d e) (wl' (Rp.int .u32) r):=by
 refine H' (args:=[_]) (N:=5) func141 z z z (fun q s i g=>?_)
 have h:=g
 refine sr<|sg z z<|nr<|mv z z ?_
 obtain⟨f,hr⟩:=hr
 refine bb' (r:=(Rp.int .u32)) 2004 z z p' el182 z (by decide) z z (ay' (Rp.int .u32) _) z (by rw[i]; rfl) cb' h f fun p n l o k j m=>sx0 z z<|k' ?_
 obtain rfl:_=r:=hr
 exact j' z z ⟨_,_,z,j⟩
theorem ek'{m k n r}(hr:(ZbX m).Ret r):Ctr prog 143 #[.slice k m.length n] (fun G=>sl (Rp.int .u32) G k n m) (fun G v=>v = .int .u64 r):=by
 refine H' (args:=[_]) (N:=22) func143 z z z (fun s j E p=>?_)
 have i:=p
 refine sr<|sg z z<|nr<|sx0 z z<|g'<|sr<|mv z z<|yy (O' p' i z) z<|mv z z<|nx<|ab' (fun (⟨h,g⟩:Int×Mem)=>[(3,.int .u64 h)]) (fun ⟨h,g⟩=>Mem.le j g/\(Zb3 h).Ret r) (fun ⟨h,g⟩=>St s j g []) ?_ ?_
 .refine y' ?_
  let l:Int->Prop:=fun A=>((fun x=>match x with|h=>Zb3 h:Int->Cq Int) A).wp (fun a=>a=r)
  replace hr:(Cq.loop _ _).wp l:=hr
  refine ac' (Φ:=l) (fun (⟨f,c,d⟩:Int×Int×Mem)=>((f,c):Int×Int)) (fun ⟨f,c,d⟩=>[(0,.slice k m.length n),(3,.int .u64 f),(6,i' (m.length:Int)),(7,i' c)]) (fun ⟨f,c,d⟩=>Mem.le j d) (fun ⟨f,c,d⟩=>St s j d []) ⟨0,0,j⟩ hr (f4 z z z z) mr (wk ln) ?_
  .intro D y B hr
   obtain⟨f,c,d⟩:=y
   have e:=B
   refine sr<|yy (aa' z z) z<|nx<|g'<|P' hr z (fun t hr=>?_) (fun t hr=>?_)
   .refine n'<|b'<|g'<|y'<|sr<|mv z z<|sx0 z z<|x'<|mv z z<|mv z z<|mv z z ?_
    obtain⟨C,o,hr⟩:=hr
    refine yy (V' p' aP' (i.mono e) z z o) z<|yy (aj' bu' z (aJ' (J' (Z' i o) e))) z<|yy (av' ag' ad' z) z<|mv z z<|yy (dd' z z) z ?_
    obtain⟨q,hr⟩:=hr
    refine yy (Y0.shl z z q) z<|yy (Y0.or z z) z<|sg z z<|q'<|F'<|b'<|x'<|yy (W' z z) z<|mv z z<|q'<|T' ⟨u64.wrap (BitVec.ofInt u64.bits f ||| BitVec.ofInt u64.bits (u64.wrap ((u64.wrap C)*2 ^ (min (i64.wrap (32*c)).toNat u64.bits)))).toNat,i64.wrap (c+1),d⟩ hr e (f4 z z z z) (wk ln)
   refine ae'<|h'<|h'<|I'<|af' ⟨f,d⟩ ⟨e,hr⟩ (f1 z) (wk ln)
 rintro⟨h,g⟩ ⟨u,hr⟩
 refine b'<|sr<|mv z z<|sx0 z z<|k' (k0' hr z z)
theorem eq'{f q A D r}(hr:(ZcB f q).Ret r):Ctr prog 180 #[.slice A f.length D,.int .u64 q] (fun G=>sl (Rp.int .u32) G A D f) (fun G v=>∃ y x,v = .tuple #[.slice y r.1.length x,.int .u64 r.2]/\sl (Rp.int .u32) G y x r.1):=by
 refine H' (args:=[_,_]) (N:=41) func180 z z z (fun W u T M=>?_)
 have s:=M
 refine sr<|sg z z<|sg z z<|nr<|mv z z<|yy (O' p' s z) z ?_
 obtain⟨R,hr⟩:=hr
 refine cS' (r:=(Rp.int .u32)) (e:=182) (n:=(f.length:Int)) (zx:=0) 4012 z z p' el182 z (by decide) (by decide) z z z R fun F L X=>sg z z<|nr<|sx0 z z<|g'<|sr<|mv z z<|yy (O' p' s z) z<|yy (ba' z z) z<|sx0 z z<|ab' (fun (⟨p,j,k,l⟩:(List Int)×Option Ow×Int×Mem)=>[(6,.slice F (f.length:Int).toNat ((f.length:Int).toNat)),(7,.int .u64 k)]) (fun ⟨p,j,k,l⟩=>Mem.le u l/\RowR (Rp.int .u32) 182 l (.slice F (f.length:Int).toNat ((f.length:Int).toNat)) p j/\(ZaB p k).Ret r) (fun ⟨p,j,k,l⟩=>St W u l [(4012,j)]) ?_ ?_
 .refine y' ?_
  let C:(((List Int)×Int))->Prop:=fun oo=>((fun ov=>match ov with|(p,k)=>ZaB p k:(((List Int)×Int))->Cq ((List Int)×Int)) oo).wp (fun a=>a=r)
  replace hr:(Cq.loop _ _).wp C:=hr
  refine ac' (Φ:=C) (fun (⟨o,d,c,m,g⟩:(List Int)×Option Ow×Int×Int×Mem)=>((o,c,m):(List Int)×Int×Int)) (fun ⟨o,d,c,m,g⟩=>[(0,.slice A f.length D),(1,.int .u64 q),(6,.slice F (f.length:Int).toNat ((f.length:Int).toNat)),(7,.int .u64 c),(8,i' m)]) (fun ⟨o,d,c,m,g⟩=>Mem.le u g/\RowR (Rp.int .u32) 182 g (.slice F (f.length:Int).toNat ((f.length:Int).toNat)) o d) (fun ⟨o,d,c,m,g⟩=>St W u g [(4012,d)]) ⟨(List.replicate (f.length:Int).toNat 0),L,0,i64.wrap ((f.length:Int)-1),u⟩ hr (f5 z z z z z) ⟨mr,X⟩ (w1 z) ?_
  .intro an gx hx hr
   obtain⟨o,d,c,m,g⟩:=gx
   obtain⟨h,B⟩:=hx
   refine g'<|sr<|mv z z<|yy (bH' z z) z<|nx<|P' hr z (fun Y hr=>?_) (fun Y hr=>?_)
   .refine n'<|b'<|g'<|y'<|sr<|mv z z<|yy (Y0.shl z z (by decide)) z<|mv z z<|mv z z ?_
    obtain⟨H,J,hr⟩:=hr
    refine yy (V' p' aP' (s.mono h) z z J) z<|yy (aj' bu' z (aJ' (J' (Z' s J) h))) z<|yy (av' ag' ad' z) z<|yy (Y0.or z z) z<|sg z z<|nr<|mv z z<|mv z z<|mv z z<|mv z z ?_
    obtain⟨U,hr⟩:=hr
    refine yy (cV' z z U) z<|yy (av' ad' ag' z) z ?_
    obtain⟨x2,I,hr⟩:=hr
    refine yy (bs' p' aP' B z z I) z<|bT' (r:=(Rp.int .u32)) (e:=182) (cs':=[.int .u32 (u32.wrap (u64.wrap (Int.tdiv (u64.wrap (BitVec.ofInt u64.bits (u64.wrap (c*2 ^ (min (32:Int).toNat u64.bits))) ||| BitVec.ofInt u64.bits (u64.wrap H)).toNat) q)))]) (i:=m) (z':=u32.wrap (u64.wrap (Int.tdiv (u64.wrap (BitVec.ofInt u64.bits (u64.wrap (c*2 ^ (min (32:Int).toNat u64.bits))) ||| BitVec.ofInt u64.bits (u64.wrap H)).toNat) q))) 4012 z aP' z B z z z z z I fun S P=>nx<|x'<|mv z z<|mv z z ?_
    obtain⟨Q,hr⟩:=hr
    refine yy (bP' z z Q) z<|sg z z<|q'<|F'<|b'<|x'<|mv z z<|yy (ba' z z) z<|sg z z<|q'<|T' ⟨(o.set m.toNat (u32.wrap (u64.wrap (Int.tdiv (u64.wrap (BitVec.ofInt u64.bits (u64.wrap (c*2 ^ (min (32:Int).toNat u64.bits))) ||| BitVec.ofInt u64.bits (u64.wrap H)).toNat) q)))),S,Int.tmod (u64.wrap (BitVec.ofInt u64.bits (u64.wrap (c*2 ^ (min (32:Int).toNat u64.bits))) ||| BitVec.ofInt u64.bits (u64.wrap H)).toNat) q,i64.wrap (m-1),g⟩ hr ⟨h,P⟩ (f5 z z z z z) (w1 z)
   refine ae'<|h'<|h'<|I'<|af' ⟨o,d,c,g⟩ ⟨h,B,hr⟩ (f2 z z) (w1 z)
 rintro⟨p,j,k,l⟩ ⟨Z,V,hr⟩
 refine b'<|sr<|mv z z<|bV' (r:=(Rp.int .u32)) (e:=182) 4012 V z (by rw[T]; rfl) (fun al ak ac E aa=>?_)
 obtain⟨am,O,hr⟩:=hr
 refine N' z z (m' E142 z) (bI' O) (by rw[cX' E]) ((cY' E)) (fun ad ao ab t=>?_)
 obtain⟨af,ae,rfl,K⟩:=t
 refine mv z z<|sg z z<|sx0 z z<|k' ?_
 obtain rfl:_=r:=hr
 exact bd' z z z ⟨_,_,z,K⟩
theorem ee'{d e i f g j r}(hr:(ZbD d e).Ret r):Ctr prog 144 #[.slice i d.length f,.slice g e.length j] (fun G=>sl (Rp.int .u32) G i f d/\sl (Rp.int .u32) G g j e) (fun G v=>∃ t s p u,v = .tuple #[.slice t r.1.length s,.slice p r.2.length u]/\sl (Rp.int .u32) G t s r.1/\sl (Rp.int .u32) G p u r.2):=by
 refine H' (args:=[_,_]) (N:=88) func144 z z z (fun w0 G0 ak J=>?_)
 obtain⟨B,x⟩:=J
 refine sr<|sg z z<|sg z z<|nr<|mv z z ?_
 obtain⟨ae,K,hr⟩:=hr
 refine N' z z (m' E142 z) (bI' K) z (B) (fun S ab A l=>?_)
 obtain⟨X,W,rfl,q⟩:=l
 refine mv z z ?_
 obtain⟨ac,D,hr⟩:=hr
 refine N' z z (m' E142 z) (bI' D) z ((x.mono A)) (fun aa ai h n=>?_)
 obtain⟨R,T,rfl,c⟩:=n
 refine sg z z<|sx0 z z<|g'<|sr<|mv z z<|mv z z ?_
 obtain⟨ah,I,hr⟩:=hr
 refine K' z z (m' E179 z) (cN' I) z (⟨(q.mono h),c⟩)<|yy (aa' z z) z<|nx<|P' hr z (fun P hr=>?_) (fun P hr=>?_)
 .exact (show False from hr).elim
 refine n'<|b'<|g'<|sr<|mv z z<|yy (O' p' c z) z<|yy (aH' z z) z<|nx<|P' hr z (fun M hr=>?_) (fun M hr=>?_)
 .refine sr<|mv z z<|mv z z ?_
  obtain⟨x1,C,hr⟩:=hr
  refine yy (V' p' aP' c z z C) z<|yy (aj' bu' z (aJ' (Z' c C))) z<|yy (av' ag' ad' z) z ?_
  obtain⟨ad,H,hr⟩:=hr
  refine N' z z (m' E180 z) (eq' H) z ((q.mono h)) (fun U ag Q m=>?_)
  obtain⟨O,L,rfl,o⟩:=m
  refine mv z z<|yy (R' z z) z<|yy (R' z z) z<|sg z z<|sg z z<|nr<|mv z z<|mv z z ?_
  obtain⟨af,E,hr⟩:=hr
  refine N' z z (m' E140 z) (dA' E) z (trivial) (fun Y aj y k=>?_)
  obtain⟨V,Z,rfl,F⟩:=k
  refine sg z z<|sx0 z z<|k'<|f' ?_
  obtain rfl:_=r:=hr
  exact bd' z z z ⟨_,_,_,_,z,(o.mono y),F⟩
 exact (show False from hr).elim
theorem du'{a1 b1 M L V O r}(hr:(ZJ a1 b1).Ret r):Ctr prog 88 #[.agg ((v57' a1 M L)).toArray,.agg ((v57' b1 V O)).toArray] (fun G=>sl (Rp.int .u32) G M L a1.mag/\sl (Rp.int .u32) G V O b1.mag) (w57' r):=by
 refine H' (args:=[_,_]) (N:=53) func88 z z z (fun w0 G0 bP a4=>?_)
 obtain⟨aA,az⟩:=a4
 refine sr<|ai' 2 z z z fun b2=>ai' 3 z z z fun b3=>X' 4 z z57 z fun F=>nx<|g'<|ak' [ff,ff,ff,ff,ff,ff] mix (by kernel_rfl) fun hb=>cn (fun _ g=>as' z)<|cn (fun _ g=>o' 2 be' z z z) ?_
 obtain⟨ax,aS,hr⟩:=hr
 refine az' (post:=wl' (Rp.int .u32) ax) (fun _=>z) (fun _ _=>m' E142 z) (bI' aS) z (fun G' g=>(aA.mono g)) (fun v G1 G2 g h=>?_) ?_
 .obtain⟨aB,ap,rfl,J⟩:=h
  exact⟨_,_,z,J.mono g⟩
 obtain⟨ar,aT,hr⟩:=hr
 refine bJ' (f:=141) (φ:=wl' (Rp.int .u32) ar) (fun _=>z) (fun v G1 G2 g h=>?_) (fun u G' g hu=>?_) ?_
 .obtain⟨aw,ao,rfl,aa⟩:=h
  exact⟨_,_,z,aa.mono g⟩
 .obtain⟨⟨aB,ap,aE,J⟩,_⟩:=(show (wl' (Rp.int .u32) ax) G'.m (u 13)/\True from hu)
  exact⟨_,_,_,fun _=>m' E141 z,dB' aT,(by simp only[aE] <;> rfl),J⟩
 refine cu (fun _ _ g=>as' z)<|cu (fun _ _ g=>o' 3 be' z z z)<|cD' (d:=14) (post:=wl' (Rp.int .u32) ar) (d':=13) (post':=wl' (Rp.int .u32) ax) (fun bE bG bS aI an af=>?_)
 obtain⟨aw,ao,rfl,aa⟩:=an
 obtain⟨aB,ap,rfl,J⟩:=af
 obtain⟨bR,a0,hr⟩:=hr
 refine N' z z (m' E142 z) (bI' a0) z ((az.mono aI)) (fun bz bO aD am=>?_)
 obtain⟨bw,bI,rfl,aN⟩:=am
 obtain⟨bg,aJ,hr⟩:=hr
 refine N' z z (m' E141 z) (dB' aJ) z (aN) (fun bC au aG ag=>?_)
 obtain⟨aY,aW,rfl,aV⟩:=ag
 refine sg z z<|sg z z<|q'<|am'<|b'<|g'<|ab' (fun (⟨S,R,U,H,j,k,C⟩:(List Int)×Option Addr×Nat×Zb×Option Addr×Nat×Mem)=>[(4,pt0 F),(5,.slice R S.length U)]) (fun ⟨S,R,U,H,j,k,C⟩=>Mem.le au C/\sl (Rp.int .u32) C R U S/\sl (Rp.int .u32) C j k H.mag/\(ZbA S).Ret r) (fun ⟨S,R,U,H,j,k,C⟩=>St w0 G0 C [(4,bk0 F (v57' H j k) 57)]) ?_ ?_
 .refine y' ?_
  let B:(Zb⊕((List Int)×Zb))->Prop:=fun oo=>((fun ov=>match ov with | .inl rv1=>Cq.ret rv1 | .inr (S,H)=>ZbA S:(Zb⊕((List Int)×Zb))->Cq Zb) oo).wp (fun a=>a=r)
  replace hr:(Cq.loop _ _).wp B:=hr
  refine ac' (Φ:=B) (fun (⟨E,y,t,o,q,p,l,e,c,m⟩:(List Int)×Option Addr×Nat×(List Int)×Option Addr×Nat×Zb×Option Addr×Nat×Mem)=>((E,o,l):(List Int)×(List Int)×Zb)) (fun ⟨E,y,t,o,q,p,l,e,c,m⟩=>[(4,pt0 F),(5,.slice y E.length t),(6,.slice q o.length p)]) (fun ⟨E,y,t,o,q,p,l,e,c,m⟩=>Mem.le au m/\sl (Rp.int .u32) m y t E/\sl (Rp.int .u32) m q p o/\sl (Rp.int .u32) m e c l.mag) (fun ⟨E,y,t,o,q,p,l,e,c,m⟩=>St w0 G0 m [(4,bk0 F (v57' l e c) 57)]) ⟨ar,aw,ao,bg,aY,aW,(Zb.mk false []),none,0,au⟩ hr (f3 z z z) ⟨mr,(aa.mono (mx aD aG)),aV,(ay' _ _)⟩ (w1 z) ?_
  .intro aq gx hx hr
   obtain⟨E,y,t,o,q,p,l,e,c,m⟩:=gx
   obtain⟨ac,ab,D,I⟩:=hx
   refine g'<|sr<|mv z z<|yy (O' p' D z) z<|yy (aS' z z) z<|nx<|P' hr z (fun bo hr=>?_) (fun bo hr=>?_)
   .refine n'<|b'<|y'<|g'<|aO' (fun (⟨s,A⟩:Bool×Mem)=>[(4,pt0 F),(5,.slice y E.length t),(6,.slice q o.length p),(29,.bool s)]) (fun ⟨s,A⟩=>Mem.le m A/\(ZbB E o l s).wp (Out aq B)) (fun ⟨s,A⟩=>St w0 G0 A [(4,bk0 F (v57' l e c) 57)]) ?_ ?_
    .refine x'<|mv z z<|yy (O' p' ab z) z<|aE' hr z (bW' z z) z (fun bn hr=>?_) (fun bn hr=>?_)
     .refine mv z z<|gy z z (c' z) z<|gy z z (O' p' D z) z<|gy z z (bW' z z) z<|yy (w' z z) z<|q'<|ax' ⟨decide ((o.length:Int)<=2),m⟩ ⟨mr,hr⟩ (f4 z z z z) (w1 z)
     refine mv z z<|sn3 z<|yy (t' z z) z<|q'<|ax' ⟨false,m⟩ ⟨mr,hr⟩ (f4 z z z z) (w1 z)
    rintro⟨s,A⟩ ⟨n,hr⟩
    refine aK' hr z (fun bh hr=>?_) (fun bh hr=>?_)
    .refine sr<|mv z z ?_
     obtain⟨bl,a3,hr⟩:=hr
     refine K' z z (m' E143 z) (ek' a3) z ((ab.mono n))<|mv z z ?_
     obtain⟨bf,a6,hr⟩:=hr
     refine K' z z (m' E143 z) (ek' a6) z ((D.mono n))<|sg z z<|sx0 z z<|g'<|ab' (fun (⟨Z,P⟩:Int×Mem)=>[(4,pt0 F),(7,.int .u64 Z)]) (fun ⟨Z,P⟩=>Mem.le A P/\(ZcJ Z).wp (Out aq B)) (fun ⟨Z,P⟩=>St w0 G0 P [(4,bk0 F (v57' l e c) 57)]) ?_ ?_
     .refine y' ?_
      let av:Int->Prop:=fun oo=>((fun ov=>match ov with|Z=>ZcJ Z:Int->Cq (((List Int)×(List Int)×Zb)⊕(Zb⊕((List Int)×Zb)))) oo).wp (Out aq B)
      replace hr:(Cq.loop _ _).wp av:=hr
      refine ac' (Φ:=av) (fun (⟨T,Q,x⟩:Int×Int×Mem)=>((T,Q):Int×Int)) (fun ⟨T,Q,x⟩=>[(4,pt0 F),(7,.int .u64 T),(8,.int .u64 Q)]) (fun ⟨T,Q,x⟩=>Mem.le A x) (fun ⟨T,Q,x⟩=>St w0 G0 x [(4,bk0 F (v57' l e c) 57)]) ⟨bl,bf,A⟩ hr (f3 z z z) mr (w1 z) ?_
      .intro bL gx hx hr
       obtain⟨T,Q,x⟩:=gx
       have ad:=hx
       refine g'<|sr<|mv z z<|yy (aS' z z) z<|nx<|P' hr z (fun bi hr=>?_) (fun bi hr=>?_)
       .refine n'<|b'<|y'<|ak' [ff,ff,ff,ff,ff] mix (by kernel_rfl) fun hb=>cn (fun _ g=>c' z)<|cn (fun _ g=>c' z)<|cn (fun _ g=>c' z) ?_
        obtain⟨bk,hr⟩:=hr
        refine cn (fun _ g=>bP' z z bk)<|cn (fun _ g=>Y0.assign z)<|ah' hb<|sg z z<|q'<|am'<|F'<|T' ⟨Q,Int.tmod T Q,x⟩ hr ad (f3 z z z) (w1 z)
       refine ae'<|h'<|h'<|I'<|af' ⟨T,x⟩ ⟨ad,hr⟩ (f2 z z) (w1 z)
     rintro⟨Z,P⟩ ⟨bu,hr⟩
     refine b'<|sr<|mv z z ?_
     obtain⟨bT,aQ,hr⟩:=hr
     refine N' z z (m' E140 z) (dA' aQ) z (trivial) (fun bF bN bv ai=>?_)
     obtain⟨bK,bA,rfl,aR⟩:=ai
     obtain⟨bD,aH,hr⟩:=hr
     refine N' z z (m' E139 z) (bZ' aH) z (aR) (fun bq bQ bp W=>?_)
     obtain⟨aU,a2,rfl,X⟩:=W
     refine B' 4 z bn' z z z z z (List.all_eq_true.1 z)<|nx<|k'<|f'<|A'<|f'<|A'<|an'<|f' ?_
     obtain rfl:_=r:=hr
     exact j' z (aw' (i:=4) at' z z z) ⟨_,_,z,X⟩
    refine n'<|b'<|sr<|mv z z<|mv z z ?_
    obtain⟨aX,aF,hr⟩:=hr
    refine N' z z (m' E144 z) (ee' aF) z (⟨(ab.mono n),(D.mono n)⟩) (fun bs bj K Y=>?_)
    obtain⟨a7,ba,al,ak,rfl,a8,ae⟩:=Y
    refine mv z z<|yy (R' z z) z<|yy (R' z z) z<|sg z z<|sx0 z z<|x'<|mv z z<|mv z z<|sg z z<|sg z z<|q'<|F'<|T' ⟨o,q,p,aX.2,al,ak,l,e,c,bj⟩ hr ⟨(mx (mx ac n) K),(D.mono (mx n K)),ae,(I.mono (mx n K))⟩ (f3 z z z) (w1 z)
   refine ae'<|h'<|h'<|I'<|af' ⟨E,y,t,l,e,c,m⟩ ⟨ac,ab,I,hr⟩ (f2 z z) (w1 z)
 rintro⟨S,R,U,H,j,k,C⟩ ⟨br,bm,a9,hr⟩
 refine b'<|sr<|mv z z ?_
 obtain⟨bU,aZ,hr⟩:=hr
 refine N' z z (m' E139 z) (bZ' aZ) z (bm) (fun bx bM bt ah=>?_)
 obtain⟨bc,bb,rfl,aj⟩:=ah
 refine B' 4 z bn' z z z z z (List.all_eq_true.1 z)<|nx<|k' ?_
 obtain rfl:_=r:=hr
 exact j' z (aw' (i:=4) at' z z z) ⟨_,_,z,aj⟩
theorem el'{g e d r}(hr:(Za1 g).Ret r):Ctr prog 177 #[.agg ((v57' g e d)).toArray] (fun G=>sl (Rp.int .u32) G e d g.mag) (fun G v=>v = .bool r):=by
 refine H' (args:=[_]) (N:=19) func177 z z z (fun l n j h=>?_)
 have c:=h
 refine sr<|ai' 1 z z z fun k=>sg z z<|nr<|yy (as' z) z<|yy (o' 1 be' z z z) z<|yy (O' p' c z) z<|sx0 z z<|g'<|sr<|mv z z<|yy (aH' z z) z<|nx<|P' hr z (fun i hr=>?_) (fun i hr=>?_)
 .refine sr<|yy (aQ' z) z<|yy (o' 1 sc4 z z z) z<|yy (aA' z) z<|sx0 z z<|k'<|f' (k0' hr z z)
 refine n'<|b'<|sr<|yy (as' z) z<|yy (o' 1 be' z z z) z<|mv z z<|yy (ba' z z) z ?_
 obtain⟨m,f,hr⟩:=hr
 refine yy (V' p' aP' c z z f) z<|yy (aj' bu' z (aJ' (Z' c f))) z<|yy (bp' z z) z<|sx0 z z<|k' (k0' hr z z)
theorem fa'{g f e d c r}(hr:(ZaK g).Ret r):Ctr prog 135 #[.agg ((v59' g f e d c)).toArray] (fun G=>sl (Rp.int .u32) G f e g.num.mag/\sl (Rp.int .u32) G d c g.den.mag) (fun G v=>v = .bool r):=by
 refine H' (args:=[_]) (N:=30) func135 z z z (fun J u Q x=>?_)
 obtain⟨i,h⟩:=x
 refine sr<|ai' 1 z z z fun C=>sx0 z z<|aO' (fun (n:Mem)=>match n with|k=>[(1,pt0 C)]) (fun (n:Mem)=>match n with|k=>Mem.le u k/\(Zdk g).Ret r) (fun (n:Mem)=>match n with|k=>St J u k [(1,bk0 C (v59' g f e d c) 59)]) ?_ ?_
 .refine sr<|yy (bk' z) z<|yy (al' ((v57' g.num f e)).toArray 1 at' z z z (ap' ([]) ((v57' g.num f e)) ((v57' g.den d c)))) z ?_
  obtain⟨D,q,hr⟩:=hr
  refine K' z z (m' E177 z) (el' q) z (i) ?_
  cases D
  .refine yy (aA' z) z<|mv z z<|sn4 z<|yy (w' z z) z<|mv z z<|sn4 z<|yy (w' z z) z<|nx<|aB' z<|sr<|sx0 z z<|k'<|f' (k0' hr z z)
  refine yy (aA' z) z<|mv z z<|gy z z (aY' z) z<|gy z z (al' ((v57' g.den d c)).toArray 1 at' z z z (ap' ((v57' g.num f e)) ((v57' g.den d c)) ([]))) z ?_
  obtain⟨F,p,hr⟩:=hr
  refine K' (E' z z) z (m' E177 z) (el' p) z (h) ?_
  cases F
  .refine gy z z (aA' z) z<|yy (t' z z) z<|mv z z<|sn4 z<|yy (w' z z) z<|nx<|aB' z<|sr<|sx0 z z<|k'<|f' (k0' hr z z)
  refine gy z z (aA' z) z<|yy (t' z z) z<|mv z z<|gy z z (aY' z) z<|gy z z (al' ((v57' g.den d c)).toArray 1 at' z z z (ap' ((v57' g.num f e)) ((v57' g.den d c)) ([]))) z ?_
  obtain⟨M,s,hr⟩:=hr
  refine K' (E' z z) z (m' E148 z) (cC' s) z (h)<|gy z z (bW' z z) z<|yy (t' z z) z<|nx<|P' hr z (fun H hr=>?_) (fun H hr=>?_)
  .exact (show False from hr).elim
  refine n'<|ax' u ⟨mr,hr⟩ (f1 z) (w1 z)
 rintro k ⟨j,hr⟩
 refine sr<|yy (aY' z) z<|yy (al' ((v57' g.den d c)).toArray 1 at' z z z (ap' ((v57' g.num f e)) ((v57' g.den d c)) ([]))) z ?_
 obtain⟨E,y,hr⟩:=hr
 refine K' z z (m' E178 z) (cq' y) z ((h.mono j)) ?_
 cases E
 .refine mv z z<|gy z z (bk' z) z<|gy z z (al' ((v57' g.num f e)).toArray 1 at' z z z (ap' ([]) ((v57' g.num f e)) ((v57' g.den d c)))) z<|gy z z (aY' z) z<|gy z z (al' ((v57' g.den d c)).toArray 1 at' z z z (ap' ((v57' g.num f e)) ((v57' g.den d c)) ([]))) z ?_
  obtain⟨L,o,hr⟩:=hr
  refine N' (E' z z) z (m' E88 z) (du' o) z (⟨(i.mono j),(h.mono j)⟩) (fun K P I m=>?_)
  obtain⟨B,A,rfl,l⟩:=m
  obtain⟨O,t,hr⟩:=hr
  refine K' (E' z z) z (m' E178 z) (cq' t) z (l)<|yy (t' z z) z<|sx0 z z<|k' (k0' hr z z)
 refine mv z z<|sn6 z<|yy (w' z z) z<|sx0 z z<|k' (k0' hr z z)
theorem ef'{k r}(hr:(ZbF k).Ret r):Ctr prog 136 #[.agg (vecG (Value.int .i64) 8 k).toArray] (fun G=>True) (fun G v=>v = .bool r):=by
 refine H' (args:=[_]) (N:=16) func136 z z z fun m h y q=>sr<|ai' 1 z z z fun A=>sx0 z z<|g'<|sr<|yy (D' 1 bo' z z (Q' _ _ _)) z<|mv z z<|nx<|ab' (fun (f:Mem)=>match f with|e=>[]) (fun (f:Mem)=>match f with|e=>Mem.le h e/\(ZbK).Ret r) (fun (f:Mem)=>match f with|e=>St m h e []) ?_ ?_
 .refine y' ?_
  let i:(Bool⊕Unit)->Prop:=fun t=>((fun s=>match s with | .inl rv1=>Cq.ret rv1 | .inr ()=>ZbK:(Bool⊕Unit)->Cq Bool) t).wp (fun a=>a=r)
  replace hr:(Cq.loop _ _).wp i:=hr
  refine ac' (Φ:=i) (fun (⟨c,d⟩:Int×Mem)=>(c:Int)) (fun ⟨c,d⟩=>[(5,.agg (vecG (Value.int .i64) 8 k).toArray),(6,i' c)]) (fun ⟨c,d⟩=>Mem.le h d) (fun ⟨c,d⟩=>St m h d []) ⟨0,h⟩ hr (f2 z z) mr (wk ln) ?_
  .intro x f u hr
   obtain⟨c,d⟩:=f
   have g:=u
   refine sr<|yy (aa' z z) z<|nx<|g'<|P' hr z (fun o hr=>?_) (fun o hr=>?_)
   .refine n'<|b'<|g'<|y'<|sr ?_
    obtain⟨j,hr⟩:=hr
    refine yy (Y0.index ar' sc3 sz3 z z j (bh' _ _ _ j)) z<|sg z z<|nr<|mv z z<|aE' hr z (aa' z z) z (fun n hr=>?_) (fun n hr=>?_)
    .refine mv z z<|sn2 z<|yy (w' z z) z<|nx<|aB' z<|sr<|sx0 z z<|k'<|A'<|f'<|f'<|A'<|an'<|f' (k0' hr z z)
    refine mv z z<|gy z z (c' z) z<|gy z z (aS' z z) z<|yy (t' z z) z<|nx<|P' hr z (fun l hr=>?_) (fun l hr=>?_)
    .exact (show False from hr).elim
    refine n'<|F'<|b'<|x'<|yy (W' z z) z<|mv z z<|q'<|T' ⟨i64.wrap (c+1),d⟩ hr g (f2 z z) (wk ln)
   refine ae'<|h'<|h'<|I'<|af' d ⟨g,hr⟩ fn (wk ln)
 rintro e ⟨p,hr⟩
 refine b'<|sr<|sx0 z z<|k' (k0' hr z z)
theorem dN'{q t s r}(hr:(Zam q).Ret r):Ctr prog 85 #[.slice t q.length s] (fun G=>sl a' G t s q) (fun G v=>v = .bool r):=by
 refine H' (args:=[_]) (N:=43) func85 z z z (fun J C af K=>?_)
 have A:=K
 refine sr<|sx0 z z<|g'<|sr<|mv z z<|yy (O' C' A z) z<|mv z z<|nx<|ab' (fun (n:Mem)=>match n with|y=>[]) (fun (n:Mem)=>match n with|y=>Mem.le C y/\(Za7).Ret r) (fun (n:Mem)=>match n with|y=>St J C y []) ?_ ?_
 .refine y' ?_
  let B:(Bool⊕Unit)->Prop:=fun oo=>((fun ov=>match ov with | .inl rv1=>Cq.ret rv1 | .inr ()=>Za7:(Bool⊕Unit)->Cq Bool) oo).wp (fun a=>a=r)
  replace hr:(Cq.loop _ _).wp B:=hr
  refine ac' (Φ:=B) (fun (⟨h,m⟩:Int×Mem)=>(h:Int)) (fun ⟨h,m⟩=>[(0,.slice t q.length s),(5,.slice t q.length s),(6,i' (q.length:Int)),(7,i' h)]) (fun ⟨h,m⟩=>Mem.le C m) (fun ⟨h,m⟩=>St J C m []) ⟨0,C⟩ hr (f4 z z z z) mr (wk ln) ?_
  .intro Q n Z hr
   obtain⟨h,m⟩:=n
   have l:=Z
   refine sr<|yy (aa' z z) z<|nx<|g'<|P' hr z (fun X hr=>?_) (fun X hr=>?_)
   .refine n'<|b'<|g'<|y'<|sr<|mv z z ?_
    obtain⟨g,E,hr⟩:=hr
    refine yy (V' C' aW' (A.mono l) z z E) z ?_
    obtain⟨d,f,e,c,T,j,k⟩:=bM' (J' (Z' A E) l)
    refine yy (ao' _ cF' z z T) z<|X' 4 z z119 z fun M=>sg z z<|B' 4 z aW' z z z z z (fun u S=>Rp.one a' (G:=m) (x:=g) (cs:=((v59' g.c d f e c):List Value)++(vecG (Value.int .i64) 8 g.m)) ⟨(v59' g.c d f e c),vecG (Value.int .i64) 8 g.m,z,⟨(v57' g.c.num d f),(v57' g.c.den e c),z,⟨[.bool g.c.num.neg],[.slice d g.c.num.mag.length f],z,z,⟨_,z,j⟩⟩,⟨[.bool g.c.den.neg],[.slice e g.c.den.mag.length c],z,z,⟨_,z,k⟩⟩⟩,z⟩ u (by first|simpa using S|simpa [Value.cells] using S))<|nx<|aO' (fun (n:Mem)=>match n with|p=>[(0,.slice t q.length s),(3,i' h),(4,pt0 M),(5,.slice t q.length s),(6,i' (q.length:Int)),(7,i' h)]) (fun (n:Mem)=>match n with|p=>Mem.le m p/\(ZX q h g).wp (Out Q B)) (fun (n:Mem)=>match n with|p=>St J C p [(4,bk0 M (((v59' g.c d f e c):List Value)++(vecG (Value.int .i64) 8 g.m)) 119)]) ?_ ?_
    .refine sr<|yy (aV' z) z<|yy (al' ((v59' g.c d f e c)).toArray 4 bc' z z z (ap' ([]) ((v59' g.c d f e c)) ((vecG (Value.int .i64) 8 g.m)))) z ?_
     obtain⟨O,F,hr⟩:=hr
     refine K' z z (m' E135 z) (fa' F) z (⟨j,k⟩) ?_
     cases O
     .refine yy (aA' z) z<|mv z z<|sn4 z<|yy (w' z z) z<|mv z z<|sn4 z<|yy (w' z z) z<|nx<|aB' z<|sr<|sx0 z z<|k'<|f'<|A'<|f'<|f'<|A'<|an'<|f' (k0' hr z z)
     refine yy (aA' z) z<|mv z z<|gy z z (aV' z) z<|gy z z (al' ((v59' g.c d f e c)).toArray 4 bc' z z z (ap' ([]) ((v59' g.c d f e c)) ((vecG (Value.int .i64) 8 g.m)))) z ?_
     obtain⟨ae,I,hr⟩:=hr
     refine K' (E' z z) z (m' E91 z) (cm' I) z (⟨j,k⟩)<|aE' hr (E' z z) (aH' z z) z (fun U hr=>?_) (fun U hr=>?_)
     .refine yy (t' z z) z<|mv z z<|sn4 z<|yy (w' z z) z<|nx<|aB' z<|sr<|sx0 z z<|k'<|f'<|A'<|f'<|f'<|A'<|an'<|f' (k0' hr z z)
     refine yy (t' z z) z<|mv z z<|gy z z (aM' z) z<|gy z z (al' (vecG (Value.int .i64) 8 g.m).toArray 4 bo' z z (Q' _ _ _) (ap' ((v59' g.c d f e c)) (vecG (Value.int .i64) 8 g.m) ([]))) z ?_
     obtain⟨ac,H,hr⟩:=hr
     refine K' (E' z z) z (m' E136 z) (ef' H) z (trivial)<|gy z z (aA' z) z<|yy (t' z z) z<|nx<|aK' hr z (fun W hr=>?_) (fun W hr=>?_)
     .refine sr<|sx0 z z<|k'<|f'<|A'<|f'<|f'<|A'<|an'<|f' (k0' hr z z)
     refine n'<|ax' m ⟨mr,hr⟩ (f6 z z z z z z) (w1 z)
    rintro p ⟨o,hr⟩
    refine g'<|ak' [ff,ff,ff,ff,ff,ff,ff,ff,ff,ff,ff] mix (by kernel_rfl) fun P=>cn (fun _ i=>c' z)<|bG' hr z (fun _ i=>aS' z z) (fun V hr=>?_) (fun V hr=>?_)
    .refine cn (fun _ i=>c' z)<|cy z z (fun _ i=>c' z)<|cy z z (fun _ i=>c' z)<|cy z z (fun _ i=>ba' z z) ?_
     obtain⟨x2,D,hr⟩:=hr
     refine cy z z (fun _ i=>V' C' aW' ((A.mono (mx l o)).mono i) z z D)<|cy z z (fun _ i=>aM' z)<|cy z z (fun _ i=>ao' _ bo' z (Q' _ _ _) (bK' (J' (J' (bq' (aG' (Z' A D))) (mx l o)) i)))<|cy z z (fun _ i=>aM' z)<|cy z z (fun _ i=>al' (vecG (Value.int .i64) 8 g.m).toArray 4 bo' z z (Q' _ _ _) (ap' ((v59' g.c d f e c)) (vecG (Value.int .i64) 8 g.m) ([])))<|ah' P ?_
     obtain⟨ad,L,hr⟩:=hr
     refine K' (E' z z) z (m' E137 z) (dH' L) z (trivial)<|gy z z (bW' z z) z<|yy (w' z z) z<|q'<|am'<|b'<|P' hr z (fun R hr=>?_) (fun R hr=>?_)
     .exact (show False from hr).elim
     refine n'<|F'<|b'<|x'<|yy (W' z z) z<|mv z z<|q'<|T' ⟨i64.wrap (h+1),p⟩ hr (mx l o) (f4 z z z z) (wk ln)
    refine cn (fun _ i=>c' z)<|ct z z<|ct z z<|ct z z<|ct z z<|ct z z<|ct z z<|ct z z<|ct z z<|ah' P<|sn2 z<|yy (t' z z) z<|q'<|am'<|b'<|bw' z<|n'<|F'<|b'<|x'<|yy (W' z z) z<|mv z z<|q'<|T' ⟨i64.wrap (h+1),p⟩ hr (mx l o) (f4 z z z z) (wk ln)
   refine ae'<|h'<|h'<|I'<|af' m ⟨l,hr⟩ fn (wk ln)
 rintro y ⟨Y,hr⟩
 refine b'<|sr<|sx0 z z<|k' (k0' hr z z)
theorem eF'{l r}(hr:(Zb5 l).Ret r):Ctr prog 138 #[.agg (vecG (Value.int .i64) 8 l).toArray] (fun G=>True) (fun G v=>v = .int .u8 r):=by
 refine H' (args:=[_]) (N:=19) func138 z z z fun o i B t=>sr<|ai' 1 z z z fun C=>sg z z<|nr<|sx0 z z<|g'<|sr<|yy (D' 1 bo' z z (Q' _ _ _)) z<|mv z z<|nx<|ab' (fun (⟨h,g⟩:Int×Mem)=>[(3,.int .u8 h)]) (fun ⟨h,g⟩=>Mem.le i g/\(Za4 h).Ret r) (fun ⟨h,g⟩=>St o i g []) ?_ ?_
 .refine y' ?_
  let j:Int->Prop:=fun x=>((fun s=>match s with|h=>Za4 h:Int->Cq Int) x).wp (fun a=>a=r)
  replace hr:(Cq.loop _ _).wp j:=hr
  refine ac' (Φ:=j) (fun (⟨e,c,d⟩:Int×Int×Mem)=>((e,c):Int×Int)) (fun ⟨e,c,d⟩=>[(3,.int .u8 e),(6,.agg (vecG (Value.int .i64) 8 l).toArray),(7,i' c)]) (fun ⟨e,c,d⟩=>Mem.le i d) (fun ⟨e,c,d⟩=>St o i d []) ⟨0,0,i⟩ hr (f3 z z z) mr (wk ln) ?_
  .intro A u y hr
   obtain⟨e,c,d⟩:=u
   have f:=y
   refine sr<|yy (aa' z z) z<|nx<|g'<|P' hr z (fun p hr=>?_) (fun p hr=>?_)
   .refine n'<|b'<|g'<|y'<|sr<|mv z z ?_
    obtain⟨k,hr⟩:=hr
    refine yy (Y0.index ar' sc3 sz3 z z k (bh' _ _ _ k)) z<|sg z z<|sg z z<|nr<|mv z z<|yy (aS' z z) z<|nx<|P' hr z (fun n hr=>?_) (fun n hr=>?_)
    .refine x'<|mv z z<|mv z z ?_
     obtain⟨m,hr⟩:=hr
     refine yy (Y0.shl z z m) z<|yy (Y0.or z z) z<|sg z z<|q'<|F'<|b'<|x'<|yy (W' z z) z<|mv z z<|q'<|T' ⟨u8.wrap (BitVec.ofInt u8.bits e ||| BitVec.ofInt u8.bits (u8.wrap (1*2 ^ (min (c).toNat u8.bits)))).toNat,i64.wrap (c+1),d⟩ hr f (f3 z z z) (wk ln)
    refine n'<|F'<|b'<|x'<|yy (W' z z) z<|mv z z<|q'<|T' ⟨e,i64.wrap (c+1),d⟩ hr f (f3 z z z) (wk ln)
   refine ae'<|h'<|h'<|I'<|af' ⟨e,d⟩ ⟨f,hr⟩ (f1 z) (wk ln)
 rintro⟨h,g⟩ ⟨q,hr⟩
 refine b'<|sr<|mv z z<|sx0 z z<|k' (k0' hr z z)
theorem dX'{q t s r}(hr:(Zba q).Ret r):Ctr prog 86 #[.slice t q.length s] (fun G=>sl a' G t s q) (fun G v=>v = .int .u8 r):=by
 refine H' (args:=[_]) (N:=19) func86 z z z (fun F p R C=>?_)
 have y:=C
 refine sr<|sg z z<|nr<|sx0 z z<|g'<|sr<|mv z z<|yy (O' C' y z) z<|mv z z<|nx<|ab' (fun (⟨o,n⟩:Int×Mem)=>[(3,.int .u8 o)]) (fun ⟨o,n⟩=>Mem.le p n/\(Zbq o).Ret r) (fun ⟨o,n⟩=>St F p n []) ?_ ?_
 .refine y' ?_
  let A:Int->Prop:=fun P=>((fun M=>match M with|o=>Zbq o:Int->Cq Int) P).wp (fun a=>a=r)
  replace hr:(Cq.loop _ _).wp A:=hr
  refine ac' (Φ:=A) (fun (⟨m,g,h⟩:Int×Int×Mem)=>((m,g):Int×Int)) (fun ⟨m,g,h⟩=>[(3,.int .u8 m),(6,.slice t q.length s),(7,i' (q.length:Int)),(8,i' g)]) (fun ⟨m,g,h⟩=>Mem.le p h) (fun ⟨m,g,h⟩=>St F p h []) ⟨0,0,p⟩ hr (f4 z z z z) mr (wk ln) ?_
  .intro Q L O hr
   obtain⟨m,g,h⟩:=L
   have j:=O
   refine sr<|yy (aa' z z) z<|nx<|g'<|P' hr z (fun J hr=>?_) (fun J hr=>?_)
   .refine n'<|b'<|g'<|y'<|sr ?_
    obtain⟨i,B,hr⟩:=hr
    refine yy (V' C' aW' (y.mono j) z z B) z ?_
    obtain⟨d,f,e,c,I,k,l⟩:=bM' (J' (Z' y B) j)
    refine yy (ao' _ cF' z z I) z<|X' 5 z z119 z fun S=>B' 5 z aW' z z z z z (fun u H=>Rp.one a' (G:=h) (x:=i) (cs:=((v59' i.c d f e c):List Value)++(vecG (Value.int .i64) 8 i.m)) ⟨(v59' i.c d f e c),vecG (Value.int .i64) 8 i.m,z,⟨(v57' i.c.num d f),(v57' i.c.den e c),z,⟨[.bool i.c.num.neg],[.slice d i.c.num.mag.length f],z,z,⟨_,z,k⟩⟩,⟨[.bool i.c.den.neg],[.slice e i.c.den.mag.length c],z,z,⟨_,z,l⟩⟩⟩,z⟩ u (by first|simpa using H|simpa [Value.cells] using H))<|nx<|x'<|mv z z<|yy (aM' z) z<|yy (al' (vecG (Value.int .i64) 8 i.m).toArray 5 bo' z z (Q' _ _ _) (ap' ((v59' i.c d f e c)) (vecG (Value.int .i64) 8 i.m) ([]))) z ?_
    obtain⟨E,D,hr⟩:=hr
    refine K' z z (m' E138 z) (eF' D) z (trivial)<|yy (Y0.or z z) z<|sg z z<|q'<|F'<|b'<|x'<|yy (W' z z) z<|mv z z<|q'<|T' ⟨u8.wrap (BitVec.ofInt u8.bits m ||| BitVec.ofInt u8.bits E).toNat,i64.wrap (g+1),h⟩ hr j (f4 z z z z) (wk ln)
   refine ae'<|h'<|h'<|I'<|af' ⟨m,h⟩ ⟨j,hr⟩ (f1 z) (wk ln)
 rintro⟨o,n⟩ ⟨K,hr⟩
 refine b'<|sr<|mv z z<|sx0 z z<|k' (k0' hr z z)
theorem eP'{k r}(hr:(Zcr k).Ret r):Ctr prog 96 #[.agg (vecG (Value.int .i64) 8 k).toArray] (fun G=>True) (fun G v=>v=i' r):=by
 refine H' (args:=[_]) (N:=15) func96 z z z fun m i y p=>sr<|ai' 1 z z z fun A=>sg z z<|nr<|sx0 z z<|g'<|sr<|yy (D' 1 bo' z z (Q' _ _ _)) z<|mv z z<|nx<|ab' (fun (⟨g,f⟩:Int×Mem)=>[(3,i' g)]) (fun ⟨g,f⟩=>Mem.le i f/\(Zbn g).Ret r) (fun ⟨g,f⟩=>St m i f []) ?_ ?_
 .refine y' ?_
  let j:Int->Prop:=fun t=>((fun q=>match q with|g=>Zbn g:Int->Cq Int) t).wp (fun a=>a=r)
  replace hr:(Cq.loop _ _).wp j:=hr
  refine ac' (Φ:=j) (fun (⟨e,c,d⟩:Int×Int×Mem)=>((e,c):Int×Int)) (fun ⟨e,c,d⟩=>[(3,i' e),(6,.agg (vecG (Value.int .i64) 8 k).toArray),(7,i' c)]) (fun ⟨e,c,d⟩=>Mem.le i d) (fun ⟨e,c,d⟩=>St m i d []) ⟨0,0,i⟩ hr (f3 z z z) mr (wk ln) ?_
  .intro x s u hr
   obtain⟨e,c,d⟩:=s
   have h:=u
   refine sr<|yy (aa' z z) z<|nx<|g'<|P' hr z (fun n hr=>?_) (fun n hr=>?_)
   .refine n'<|b'<|g'<|y'<|sr ?_
    obtain⟨l,hr⟩:=hr
    refine yy (Y0.index ar' sc3 sz3 z z l (bh' _ _ _ l)) z<|sx0 z z<|x'<|mv z z<|mv z z<|yy (W' z z) z<|sg z z<|q'<|F'<|b'<|x'<|yy (W' z z) z<|mv z z<|q'<|T' ⟨i64.wrap (e+(getF k c)),i64.wrap (c+1),d⟩ hr h (f3 z z z) (wk ln)
   refine ae'<|h'<|h'<|I'<|af' ⟨e,d⟩ ⟨h,hr⟩ (f1 z) (wk ln)
 rintro⟨g,f⟩ ⟨o,hr⟩
 refine b'<|sr<|mv z z<|sx0 z z<|k' (k0' hr z z)
theorem cG'{q t s r}(hr:(ZK q).Ret r):Ctr prog 48 #[.slice t q.length s] (fun G=>sl a' G t s q) (fun G v=>v=i' r):=by
 refine H' (args:=[_]) (N:=19) func48 z z z (fun F p R D=>?_)
 have y:=D
 refine sr<|sg z z<|nr<|sx0 z z<|g'<|sr<|mv z z<|yy (O' C' y z) z<|mv z z<|nx<|ab' (fun (⟨o,n⟩:Int×Mem)=>[(3,i' o)]) (fun ⟨o,n⟩=>Mem.le p n/\(ZaU o).Ret r) (fun ⟨o,n⟩=>St F p n []) ?_ ?_
 .refine y' ?_
  let A:Int->Prop:=fun P=>((fun M=>match M with|o=>ZaU o:Int->Cq Int) P).wp (fun a=>a=r)
  replace hr:(Cq.loop _ _).wp A:=hr
  refine ac' (Φ:=A) (fun (⟨k,g,h⟩:Int×Int×Mem)=>((k,g):Int×Int)) (fun ⟨k,g,h⟩=>[(3,i' k),(6,.slice t q.length s),(7,i' (q.length:Int)),(8,i' g)]) (fun ⟨k,g,h⟩=>Mem.le p h) (fun ⟨k,g,h⟩=>St F p h []) ⟨(-1),0,p⟩ hr (f4 z z z z) mr (wk ln) ?_
  .intro Q L O hr
   obtain⟨k,g,h⟩:=L
   have j:=O
   refine sr<|yy (aa' z z) z<|nx<|g'<|P' hr z (fun J hr=>?_) (fun J hr=>?_)
   .refine n'<|b'<|g'<|y'<|sr ?_
    obtain⟨i,C,hr⟩:=hr
    refine yy (V' C' aW' (y.mono j) z z C) z ?_
    obtain⟨d,f,e,c,I,l,m⟩:=bM' (J' (Z' y C) j)
    refine yy (ao' _ cF' z z I) z<|X' 5 z z119 z fun S=>B' 5 z aW' z z z z z (fun u H=>Rp.one a' (G:=h) (x:=i) (cs:=((v59' i.c d f e c):List Value)++(vecG (Value.int .i64) 8 i.m)) ⟨(v59' i.c d f e c),vecG (Value.int .i64) 8 i.m,z,⟨(v57' i.c.num d f),(v57' i.c.den e c),z,⟨[.bool i.c.num.neg],[.slice d i.c.num.mag.length f],z,z,⟨_,z,l⟩⟩,⟨[.bool i.c.den.neg],[.slice e i.c.den.mag.length c],z,z,⟨_,z,m⟩⟩⟩,z⟩ u (by first|simpa using H|simpa [Value.cells] using H))<|nx<|x'<|mv z z<|yy (aM' z) z<|yy (al' (vecG (Value.int .i64) 8 i.m).toArray 5 bo' z z (Q' _ _ _) (ap' ((v59' i.c d f e c)) (vecG (Value.int .i64) 8 i.m) ([]))) z ?_
    obtain⟨B,E,hr⟩:=hr
    refine K' z z (m' E96 z) (eP' E) z (trivial)<|yy (Y0.max2 z z) z<|sg z z<|q'<|F'<|b'<|x'<|yy (W' z z) z<|mv z z<|q'<|T' ⟨if k<B then B else k,i64.wrap (g+1),h⟩ hr j (f4 z z z z) (wk ln)
   refine ae'<|h'<|h'<|I'<|af' ⟨k,h⟩ ⟨j,hr⟩ (f1 z) (wk ln)
 rintro⟨o,n⟩ ⟨K,hr⟩
 refine b'<|sr<|mv z z<|sx0 z z<|k' (k0' hr z z)
theorem dv'{h p x g f d e k j r}(hr:(_eliminant_claim_rules_bounded h p x).Ret r):Ctr prog 163 #[.agg ((v28' h.k g f d e)).toArray,.slice k p.length j,i' x] (fun G=>sl (Rp.sl a') G g f h.k.eqs/\sl (Rp.sl a') G d e h.k.neqs/\sl a' G k j p) (fun G v=>v = .bool r):=by
 refine H' (args:=[_,_,_]) (N:=25) func163 z z z (fun I H E s=>?_)
 obtain⟨q,l,i⟩:=s
 refine sr<|ai' 3 z z z fun F=>sx0 z z<|g'<|ak' [ff,ff,ff,ff,ff,ff,ff,ff,ff,ff,ff,ff,ff,ff,ff,ff] mix (by kernel_rfl) fun n=>cn (fun _ c=>c' z) ?_
 obtain⟨y,t,hr⟩:=hr
 refine bL' z (fun _=>m' E85 z) (dN' t) z (fun u c=>(i.mono c)) ?_
 cases y
 .refine cn (fun _ c=>c' z)<|ct z z<|ct z z<|ct z z<|ct z z<|ct z z<|ct z z<|ct z z<|ct z z<|cn (fun _ c=>t' z z)<|cn (fun _ c=>c' z)<|ct z z<|ct z z<|ct z z<|ah' n<|sk z z z<|yy (t' z z) z<|sg z z<|q'<|am'<|b'<|k' (k0' hr z z)
 refine cn (fun _ c=>c' z)<|cy z z (fun _ c=>c' z) ?_
 obtain⟨C,m,hr⟩:=hr
 refine bL' (E' z z) (fun _=>m' E86 z) (dX' m) z (fun u c=>(i.mono c))<|cy z z (fun _ c=>av' aL' aD' z)<|cy z z (fun _ c=>eb' z)<|cy z z (fun _ c=>co' z)<|cy z z (fun _ c=>o' 3 sc3 z z z) ?_
 obtain⟨A,hr⟩:=hr
 refine cy z z (fun _ c=>Y0.shr z z A)<|bG' hr (E' z z) (fun _ c=>aH' z z) (fun B hr=>?_) (fun B hr=>?_)
 .refine cn (fun _ c=>w' z z)<|cn (fun _ c=>c' z)<|cy z z (fun _ c=>c' z) ?_
  obtain⟨D,o,hr⟩:=hr
  refine bL' (E' z z) (fun _=>m' E48 z) (cG' o) z (fun u c=>(i.mono c))<|cy z z (fun _ c=>c' z)<|ah' n<|gy z z (bW' z z) z<|yy (w' z z) z<|sg z z<|q'<|am'<|b'<|k' (k0' hr z z)
 refine cn (fun _ c=>w' z z)<|cn (fun _ c=>c' z)<|ct z z<|ct z z<|ct z z<|ah' n<|sk z z z<|yy (t' z z) z<|sg z z<|q'<|am'<|b'<|k' (k0' hr z z)
theorem dw'{H F d c g e r}(hr:(ZI H F).Ret r):Ctr prog 89 #[.agg ((v57' H d c)).toArray,.agg ((v57' F g e)).toArray] (fun G=>sl (Rp.int .u32) G d c H.mag/\sl (Rp.int .u32) G g e F.mag) (fun G v=>∃ p s o n,v = .tuple #[.agg ((v57' r.1 p s)).toArray,.agg ((v57' r.2.1 o n)).toArray,i' r.2.2]/\sl (Rp.int .u32) G p s r.1.mag/\sl (Rp.int .u32) G o n r.2.1.mag):=by
 refine H' (args:=[_,_]) (N:=47) func89 z z z (fun w0 G0 aD ag=>?_)
 obtain⟨T,C⟩:=ag
 refine sr<|ai' 2 z z z fun Y=>ai' 3 z z z fun U=>X' 4 z z57 z fun Z=>X' 5 z z57 z fun V=>sx0 z z<|g'<|sr<|yy (as' z) z<|yy (o' 3 be' z z z) z ?_
 obtain⟨aH,ab,hr⟩:=hr
 refine N' z z (m' E142 z) (bI' ab) z (C) (fun az aG J L=>?_)
 obtain⟨aA,av,rfl,ad⟩:=L
 refine yy (O' p' ad z) z<|yy (aH' z z) z<|nx<|P' hr z (fun aq hr=>?_) (fun aq hr=>?_)
 .exact (show False from hr).elim
 refine n'<|b'<|sr<|yy (as' z) z<|yy (o' 2 be' z z z) z<|yy (as' z) z<|yy (o' 3 be' z z z) z ?_
 obtain⟨l,ac,hr⟩:=hr
 refine N' z z (m' E144 z) (ee' ac) z (⟨(T.mono J),(C.mono J)⟩) (fun ay I ar R=>?_)
 obtain⟨E,x,y,D,rfl,S,u⟩:=R
 refine mv z z<|yy (R' z z) z<|yy (R' z z) z<|sg z z<|sx0 z z<|aO' (fun (⟨O,A,B,m,j,h,k⟩:(List Int)×Option Addr×Nat×(List Int)×Option Addr×Nat×Mem)=>[(2,pt0 Y),(3,pt0 U),(4,pt0 Z),(5,pt0 V),(7,.slice A O.length B),(8,.slice j m.length h)]) (fun ⟨O,A,B,m,j,h,k⟩=>Mem.le I k/\sl (Rp.int .u32) k A B O/\sl (Rp.int .u32) k j h m/\(ZbI H F O m).Ret r) (fun ⟨O,A,B,m,j,h,k⟩=>St w0 G0 k [(2,bk0 Y (v57' H d c) 57),(3,bk0 U (v57' F g e) 57),(4,bk0 Z ([.bool false,.slice none 0 0]) 57),(5,bk0 V ([.bool false,.slice none 0 0]) 57)]) ?_ ?_
 .refine aO' (fun (⟨f,q⟩:Bool×Mem)=>[(2,pt0 Y),(3,pt0 U),(4,pt0 Z),(5,pt0 V),(7,.slice E l.1.length x),(8,.slice y l.2.length D),(30,.bool f)]) (fun ⟨f,q⟩=>Mem.le I q/\(ZbJ H F l f).Ret r) (fun ⟨f,q⟩=>St w0 G0 q [(2,bk0 Y (v57' H d c) 57),(3,bk0 U (v57' F g e) 57),(4,bk0 Z ([.bool false,.slice none 0 0]) 57),(5,bk0 V ([.bool false,.slice none 0 0]) 57)]) ?_ ?_
  .refine x'<|yy (aQ' z) z<|aE' hr z (db' (o' 2 sc4 z z z) (congrArg Value.bool (bdec _))) z (fun ap hr=>?_) (fun ap hr=>?_)
   .refine mv z z<|gy z z (c' z) z<|gy z z (O' p' u z) z<|gy z z (aS' z z) z<|yy (w' z z) z<|q'<|ax' ⟨decide (0<(l.2.length:Int)),I⟩ ⟨mr,hr⟩ (f7 z z z z z z z) (w4 z z z z)
   refine mv z z<|sn3 z<|yy (t' z z) z<|q'<|ax' ⟨false,I⟩ ⟨mr,hr⟩ (f7 z z z z z z z) (w4 z z z z)
  rintro⟨f,q⟩ ⟨t,hr⟩
  refine aK' hr z (fun al hr=>?_) (fun al hr=>?_)
  .exact (show False from hr).elim
  refine n'<|ax' ⟨l.1,E,x,l.2,y,D,q⟩ ⟨t,(S.mono t),(u.mono t),hr⟩ (f6 z z z z z z) (w4 z z z z)
 rintro⟨O,A,B,m,j,h,k⟩ ⟨au,an,af,hr⟩
 refine sr<|yy (aQ' z) z<|yy (o' 2 sc4 z z z) z<|yy (aQ' z) z<|yy (o' 3 sc4 z z z) z<|yy (Y0.neqB bf' z z) z<|mv z z ?_
 obtain⟨aE,ae,hr⟩:=hr
 refine N' z z (m' E139 z) (bZ' ae) z (an) (fun aw aF X P=>?_)
 obtain⟨aj,ah,rfl,Q⟩:=P
 refine mv z z ?_
 obtain⟨aB,aa,hr⟩:=hr
 refine N' z z (m' E139 z) (bZ' aa) z ((af.mono X)) (fun ax aC W M=>?_)
 obtain⟨ai,ak,rfl,K⟩:=M
 refine B' 4 z bn' z z z z z (List.all_eq_true.1 z)<|B' 5 z bn' z z z z z (List.all_eq_true.1 z)<|sx0 z z<|k' ?_
 obtain rfl:_=r:=hr
 exact WE.ret3 z (aw' (i:=4) at' z z z) (aw' (i:=5) at' z z z) z ⟨_,_,_,_,z,(Q.mono W),K⟩
theorem cO'{q p e c f d r}(hr:(Zaw q p).Ret r):Ctr prog 149 #[.agg ((v57' q e c)).toArray,.agg ((v57' p f d)).toArray] (fun G=>sl (Rp.int .u32) G e c q.mag/\sl (Rp.int .u32) G f d p.mag) (w59' r):=by
 refine H' (args:=[_,_]) (N:=36) func149 z z z (fun w0 G0 af Q=>?_)
 obtain⟨h,g⟩:=Q
 refine sr<|ai' 2 z z z fun b1=>ai' 3 z z z fun b2=>X' 4 z z59 z fun b3=>nx<|g'<|sr<|yy (D' 3 at' z z z) z ?_
 obtain⟨aa,R,hr⟩:=hr
 refine K' z z (m' E178 z) (cq' R) z (g)<|nx<|aK' hr z (fun V hr=>?_) (fun V hr=>?_)
 .refine sr<|yy (D' 2 at' z z z) z<|yy (D' 3 at' z z z) z<|yy (au' (vs:=#[(0,.agg ((v57' q e c)).toArray),(1,.agg ((v57' p f d)).toArray)]) (v:=.agg ([.bool q.neg,.slice e q.mag.length c,.bool p.neg,.slice f p.mag.length d]).toArray) z z (fun _=>by kernel_rfl)) z<|B' 4 z ch' z z z z z (List.all_eq_true.1 z)<|nx<|k'<|f' ?_
  obtain rfl:_=r:=hr
  exact j' z (aw' (i:=4) bc' z z z) ⟨_,_,_,_,z,h,g⟩
 refine n'<|b'<|sr<|yy (D' 2 at' z z z) z<|yy (D' 3 at' z z z) z ?_
 obtain⟨Z,L,hr⟩:=hr
 refine N' z z (m' E88 z) (du' L) z (⟨h,g⟩) (fun Y ad o A=>?_)
 obtain⟨T,S,rfl,j⟩:=A
 refine X' 5 z z57 z fun b4=>B' 5 z bn' z z z z z (List.all_eq_true.1 z)<|nx<|g'<|sr<|yy (D' 5 at' z z z) z ?_
 obtain⟨ac,P,hr⟩:=hr
 refine K' z z (m' E178 z) (cq' P) z (j)<|nx<|aK' hr z (fun U hr=>?_) (fun U hr=>?_)
 .refine sr<|yy (D' 2 at' z z z) z<|yy (D' 3 at' z z z) z<|yy (au' (vs:=#[(0,.agg ((v57' q e c)).toArray),(1,.agg ((v57' p f d)).toArray)]) (v:=.agg ([.bool q.neg,.slice e q.mag.length c,.bool p.neg,.slice f p.mag.length d]).toArray) z z (fun _=>by kernel_rfl)) z<|B' 4 z ch' z z z z z (List.all_eq_true.1 z)<|nx<|k'<|f' ?_
  obtain rfl:_=r:=hr
  exact j' z (aw' (i:=4) bc' z z z) ⟨_,_,_,_,z,(h.mono o),(g.mono o)⟩
 refine n'<|b'<|sr<|yy (D' 2 at' z z z) z<|yy (D' 5 at' z z z) z ?_
 obtain⟨B,O,hr⟩:=hr
 refine N' z z (m' E89 z) (dw' O) z (⟨(h.mono o),j⟩) (fun W ab u y=>?_)
 obtain⟨n,m,I,J,rfl,s,K⟩:=y
 refine mv z z<|yy (R' z z) z<|yy (R' z z) z<|yy (R' z z) z<|B' 2 z bn' z z z z z (List.all_eq_true.1 z)<|nr<|yy (D' 3 at' z z z) z<|yy (D' 5 at' z z z) z ?_
 obtain⟨C,M,hr⟩:=hr
 refine N' z z (m' E89 z) (dw' M) z (⟨(g.mono (mx o u)),(j.mono u)⟩) (fun X ae D x=>?_)
 obtain⟨l,k,E,H,rfl,t,F⟩:=x
 refine mv z z<|yy (R' z z) z<|yy (R' z z) z<|yy (R' z z) z<|B' 3 z bn' z z z z z (List.all_eq_true.1 z)<|nr<|yy (D' 2 at' z z z) z<|yy (D' 3 at' z z z) z<|yy (au' (vs:=#[(0,.agg ((v57' B.1 n m)).toArray),(1,.agg ((v57' C.1 l k)).toArray)]) (v:=.agg ([.bool B.1.neg,.slice n B.1.mag.length m,.bool C.1.neg,.slice l C.1.mag.length k]).toArray) z z (fun _=>by kernel_rfl)) z<|B' 4 z ch' z z z z z (List.all_eq_true.1 z)<|nx<|k' ?_
 obtain rfl:_=r:=hr
 exact j' z (aw' (i:=4) bc' z z z) ⟨_,_,_,_,z,(s.mono D),t⟩
theorem fm'{v t h f j g r}(hr:(Zbt v t).Ret r):Ctr prog 93 #[.agg ((v57' v h f)).toArray,.agg ((v57' t j g)).toArray] (fun G=>sl (Rp.int .u32) G h f v.mag/\sl (Rp.int .u32) G j g t.mag) (w59t' r):=by
 refine H' (args:=[_,_]) (N:=21) func93 z z z (fun M L I u=>?_)
 obtain⟨l,c⟩:=u
 refine sr<|ai' 2 z z z fun J=>ai' 3 z z z fun O=>X' 4 z z59 z fun K=>sx0 z z<|g'<|sr<|yy (D' 3 at' z z z) z ?_
 obtain⟨E,x,hr⟩:=hr
 refine K' z z (m' E148 z) (cC' x) z (c)<|yy (aH' z z) z<|nx<|P' hr z (fun A hr=>?_) (fun A hr=>?_)
 .exact (show False from hr).elim
 refine n'<|b'<|g'<|sr<|yy (D' 3 at' z z z) z ?_
 obtain⟨D,q,hr⟩:=hr
 refine K' z z (m' E148 z) (cC' q) z (c)<|yy (aa' z z) z<|nx<|P' hr z (fun y hr=>?_) (fun y hr=>?_)
 .exact (show False from hr).elim
 refine n'<|b'<|sr<|yy (D' 2 at' z z z) z<|yy (D' 3 at' z z z) z ?_
 obtain⟨F,s,hr⟩:=hr
 refine N' z z (m' E149 z) (cO' s) z (⟨l,c⟩) (fun C H B k=>?_)
 obtain⟨p,n,o,m,rfl,e,d⟩:=k
 refine B' 4 z ch' z z z z z (List.all_eq_true.1 z)<|sx0 z z<|k' ?_
 obtain rfl:_=r:=hr
 exact bd' z (aw' (i:=4) bc' z z z) z ⟨_,_,_,_,z,e,d⟩
theorem fn'{s k r}(hr:(ZdJ s k).Ret r):Ctr prog 150 #[.agg (vecG (Value.int .i64) 8 s).toArray,.agg (vecG (Value.int .i64) 8 k).toArray] (fun G=>True) (fun G v=>v = .tuple #[.agg (vecG (Value.int .i64) 8 r.1).toArray,i' r.2]):=by
 refine H' (args:=[_,_]) (N:=24) func150 z z z fun B l Q I=>sr<|ai' 2 z z z fun n=>ai' 3 z z z fun y=>X' 4 z z68 z fun o=>sx0 z z<|g'<|sr<|mv z z<|nx<|ab' (fun (⟨e,g⟩:(Fin 8->Int)×Mem)=>[(2,pt0 n),(4,pt0 o)]) (fun ⟨e,g⟩=>Mem.le l g/\(Zcs e).Ret r) (fun ⟨e,g⟩=>St B l g [(2,bk0 n (vecG (Value.int .i64) 8 e) 68),(4,bk0 o (vecG (Value.int .i64) 8 (fun _=>0)) 68)]) ?_ ?_
 .refine y' ?_
  let m:(Fin 8->Int)->Prop:=fun L=>((fun J=>match J with|e=>Zcs e:(Fin 8->Int)->Cq ((Fin 8->Int)×Int)) L).wp (fun a=>a=r)
  replace hr:(Cq.loop _ _).wp m:=hr
  refine ac' (Φ:=m) (fun (⟨c,d,f⟩:Int×(Fin 8->Int)×Mem)=>((c,d):Int×(Fin 8->Int))) (fun ⟨c,d,f⟩=>[(2,pt0 n),(3,pt0 y),(4,pt0 o),(7,i' c)]) (fun ⟨c,d,f⟩=>Mem.le l f) (fun ⟨c,d,f⟩=>St B l f [(2,bk0 n (vecG (Value.int .i64) 8 d) 68),(3,bk0 y (vecG (Value.int .i64) 8 k) 68),(4,bk0 o (vecG (Value.int .i64) 8 (fun _=>0)) 68)]) ⟨0,s,l⟩ hr (f4 z z z z) mr (w3 z z z) ?_
  .intro P K M hr
   obtain⟨c,d,f⟩:=K
   have j:=M
   refine sr<|yy (aa' z z) z<|nx<|g'<|P' hr z (fun A hr=>?_) (fun A hr=>?_)
   .refine n'<|b'<|g'<|y'<|sr<|mv z z<|sx0 z z<|ak' [ff,ff,ff,ff,ff,ff] mix (by kernel_rfl) fun H=>cn (fun _ h=>c' z) ?_
    obtain⟨p,hr⟩:=hr
    refine cn (fun _ h=>aT' ar' sz3 z z p)<|cn (fun _ h=>o' 2 sc3 z z (bh' _ _ _ p))<|cn (fun _ h=>c' z) ?_
    obtain⟨q,hr⟩:=hr
    refine cn (fun _ h=>aT' ar' sz3 z z q)<|cn (fun _ h=>o' 3 sc3 z z (bh' _ _ _ q))<|ah' H<|yy (W' z z) z ?_
    obtain⟨D,hr⟩:=hr
    refine yy (aT' ar' sz3 z z D) z<|by' 2 (vecG (Value.int .i64) 8 (setF d c.toNat (i64.wrap ((getF d c)+(getF k c))))).toArray z sz3 z z z (by first|(rw[Q']; omega)|(show _<(vecG _ _ _).toArray.size; rw[Q']; omega)) z (cL' _ _ _ _ _)<|q'<|am'<|F'<|b'<|x'<|yy (W' z z) z<|mv z z<|q'<|T' ⟨i64.wrap (c+1),setF d c.toNat (i64.wrap ((getF d c)+(getF k c))),f⟩ hr j (f4 z z z z) (w3 z z z)
   refine ae'<|h'<|h'<|I'<|af' ⟨d,f⟩ ⟨j,hr⟩ (f2 z z) (w2 z z)
 rintro⟨e,g⟩ ⟨F,hr⟩
 refine b'<|g'<|sr<|yy (D' 2 bo' z z (Q' _ _ _)) z ?_
 obtain⟨O,t,hr⟩:=hr
 refine K' z z (m' E136 z) (ef' t) z (trivial)<|yy (aA' z) z<|nx<|aK' hr z (fun E hr=>?_) (fun E hr=>?_)
 .exact (show False from hr).elim
 refine n'<|b'<|sr<|yy (D' 2 bo' z z (Q' _ _ _)) z<|B' 4 z sz68 z z z (Q' _ _ _) (Q' _ _ _) (fun u C=>Rp.one (bD' .i64 8) (G:=g) (x:=e) (cs:=vecG (Value.int .i64) 8 e) z u (by first|simpa using C|simpa [Value.cells] using C))<|sx0 z z<|k' ?_
 obtain rfl:_=r:=hr
 exact bd' z (aw' (i:=4) bo' z z (Q' _ _ _)) z z
theorem dI'{K J t C x D s A y B r}(hr:(ZY K J).Ret r):Ctr prog 132 #[.agg ((v59' K t C x D)).toArray,.agg ((v59' J s A y B)).toArray] (fun G=>sl (Rp.int .u32) G t C K.num.mag/\sl (Rp.int .u32) G x D K.den.mag/\sl (Rp.int .u32) G s A J.num.mag/\sl (Rp.int .u32) G y B J.den.mag) (w59' r):=by
 refine H' (args:=[_,_]) (N:=30) func132 z z z (fun w0 G0 aH aw=>?_)
 obtain⟨T,W,U,V⟩:=aw
 refine sr<|ai' 2 z z z fun b2=>ai' 3 z z z fun b3=>X' 4 z z59 z fun b4=>nr<|yy (bk' z) z<|yy (al' ((v57' K.num t C)).toArray 2 at' z z z (ap' ([]) ((v57' K.num t C)) ((v57' K.den x D)))) z<|yy (aY' z) z<|yy (al' ((v57' J.den y B)).toArray 3 at' z z z (ap' ((v57' J.num s A)) ((v57' J.den y B)) ([]))) z ?_
 obtain⟨q,ar,hr⟩:=hr
 refine N' z z (m' E149 z) (cO' ar) z (⟨T,V⟩) (fun aE aJ aa ac=>?_)
 obtain⟨o,n,l,m,rfl,P,O⟩:=ac
 refine X' 5 z z59 z fun b5=>B' 5 z ch' z z z z z (List.all_eq_true.1 z)<|nr<|yy (bk' z) z<|yy (al' ((v57' J.num s A)).toArray 3 at' z z z (ap' ([]) ((v57' J.num s A)) ((v57' J.den y B)))) z<|yy (aY' z) z<|yy (al' ((v57' K.den x D)).toArray 2 at' z z z (ap' ((v57' K.num t C)) ((v57' K.den x D)) ([]))) z ?_
 obtain⟨p,au,hr⟩:=hr
 refine N' z z (m' E149 z) (cO' au) z (⟨(U.mono aa),(W.mono aa)⟩) (fun aD aG Z ah=>?_)
 obtain⟨c,j,g,k,rfl,R,Q⟩:=ah
 refine X' 6 z z59 z fun b6=>B' 6 z ch' z z z z z (List.all_eq_true.1 z)<|nx<|g'<|ak' [ff,ff,ff,ff,ff,ff,ff,ff,ff,ff,ff] mix (by kernel_rfl) fun hb=>cn (fun _ E=>bk' z)<|cn (fun _ E=>al' ((v57' q.num o n)).toArray 5 at' z z z (ap' ([]) ((v57' q.num o n)) ((v57' q.den l m))))<|cn (fun _ E=>bk' z)<|cn (fun _ E=>al' ((v57' p.num c j)).toArray 6 at' z z z (ap' ([]) ((v57' p.num c j)) ((v57' p.den g k))))<|cu' (r:=bC') (e:=57) ([q.num,p.num]:List Zb) (fun _=>z) z (by decide) (fun u G' E hu=>?_) ?_
 .exact⟨#[(0,.agg ((v57' q.num o n)).toArray),(1,.agg ((v57' p.num c j)).toArray)],(v57' q.num o n)++((v57' p.num c j)++([])),z,z,fun _=>by kernel_rfl,⟨(v57' q.num o n),(v57' p.num c j)++([]),z,⟨[.bool q.num.neg],[.slice o q.num.mag.length n],z,z,⟨_,z,((P.mono Z).mono E)⟩⟩,⟨(v57' p.num c j),[],z,⟨[.bool p.num.neg],[.slice c p.num.mag.length j],z,z,⟨_,z,(R.mono E)⟩⟩,z⟩⟩⟩
 obtain⟨S,ap,hr⟩:=hr
 refine bJ' (f:=175) (φ:=w57' S) (fun _=>z) (fun v G1 G2 E h=>?_) (fun u G' E hu=>?_) ?_
 .obtain⟨H,I,rfl,F⟩:=h
  exact⟨_,_,z,F.mono E⟩
 .obtain⟨⟨Y,X,aj,al⟩,_⟩:=(show (fun G v=>∃ Y X,v = .slice Y 2 2/\SlRd bC' G (.slice Y 2 2) X [q.num,p.num]) G'.m (u 21)/\True from hu)
  exact⟨_,_,_,fun _=>m' E175 z,ca' ap,(by simp only[aj] <;> rfl),al⟩
 refine cu (fun _ _ E=>aY' z)<|cu (fun _ _ E=>al' ((v57' q.den l m)).toArray 5 at' z z z (ap' ((v57' q.num o n)) ((v57' q.den l m)) ([])))<|cu (fun _ _ E=>aY' z)<|cu (fun _ _ E=>al' ((v57' p.den g k)).toArray 6 at' z z z (ap' ((v57' p.num c j)) ((v57' p.den g k)) ([])))<|cu' (r:=bC') (e:=57) ([q.den,p.den]:List Zb) (fun _=>z) z (by decide) (fun u G' E hu=>?_) ?_
 .exact⟨#[(0,.agg ((v57' q.den l m)).toArray),(1,.agg ((v57' p.den g k)).toArray)],(v57' q.den l m)++((v57' p.den g k)++([])),z,z,fun _=>by kernel_rfl,⟨(v57' q.den l m),(v57' p.den g k)++([]),z,⟨[.bool q.den.neg],[.slice l q.den.mag.length m],z,z,⟨_,z,((O.mono Z).mono E)⟩⟩,⟨(v57' p.den g k),[],z,⟨[.bool p.den.neg],[.slice g p.den.mag.length k],z,z,⟨_,z,(Q.mono E)⟩⟩,z⟩⟩⟩
 refine cx' (d:=27) (post:=fun G v=>∃ p2 am,v = .slice p2 2 2/\SlRd bC' G (.slice p2 2 2) am [q.den,p.den]) (d':=22) (post':=w57' S) (d'':=21) (post'':=fun G v=>∃ Y X,v = .slice Y 2 2/\SlRd bC' G (.slice Y 2 2) X [q.num,p.num]) (fun aA aC aB aI ay ae ad ag=>?_)
 obtain⟨p2,am,rfl,ax⟩:=ae
 obtain⟨H,I,rfl,F⟩:=ad
 obtain⟨Y,X,rfl,al⟩:=ag
 obtain⟨ai,aq,hr⟩:=hr
 refine N' z z (m' E175 z) (ca' aq) z (ax) (fun az aF ak ab=>?_)
 obtain⟨L,M,rfl,af⟩:=ab
 refine yy (au' (vs:=#[(0,.agg ((v57' S H I)).toArray),(1,.agg ((v57' ai L M)).toArray)]) (v:=.agg ([.bool S.neg,.slice H S.mag.length I,.bool ai.neg,.slice L ai.mag.length M]).toArray) z z (fun _=>by kernel_rfl)) z<|B' 4 z ch' z z z z z (List.all_eq_true.1 z)<|q'<|am'<|b'<|k' ?_
 obtain rfl:_=r:=hr
 exact j' z (aw' (i:=4) bc' z z z) ⟨_,_,_,_,z,(F.mono ak),af⟩
theorem eG'{c1 m1 p1 D F C J aj am r}(hr:(Zb6 c1 m1 p1).Ret r):Ctr prog 94 #[.agg ((v59' c1 D F C J)).toArray,.agg (vecG (Value.int .i64) 8 m1).toArray,.slice aj p1.length am] (fun G=>sl (Rp.int .u32) G D F c1.num.mag/\sl (Rp.int .u32) G C J c1.den.mag/\sl a' G aj am p1) (wlt' a' r):=by
 refine H' (args:=[_,_,_]) (N:=46) func94 z z z (fun w0 G0 Z aB=>?_)
 obtain⟨X,W,ac⟩:=aB
 refine sr<|ai' 3 z z z fun b1=>ai' 4 z z z fun b2=>sg z z<|sx0 z z<|g'<|sr<|yy (D' 3 bc' z z z) z ?_
 obtain⟨a5,av,hr⟩:=hr
 refine K' z z (m' E91 z) (cm' av) z (⟨X,W⟩)<|yy (aH' z z) z<|nx<|P' hr z (fun aS hr=>?_) (fun aS hr=>?_)
 .exact (show False from hr).elim
 refine n'<|b'<|sr<|mv z z<|yy (O' C' ac z) z ?_
 obtain⟨aE,hr⟩:=hr
 refine WL.makeC (r:=a') (e:=119) (n:=(p1.length:Int)) 4018 z z C' el119 z (by decide) z z aE fun p2 aN a1 aL=>bV' (r:=a') (e:=119) 4018 aL z (by rw[Z]; rfl) fun aD ag R ay ao=>sx0 z z<|g'<|sr<|mv z z<|yy (O' C' (ac.mono R) z) z<|mv z z<|nx<|ab' (fun (⟨O,V,U,Q,Y⟩:(List Za)×Option Addr×Nat×Option Ow×Mem)=>[(8,.slice V O.length U)]) (fun ⟨O,V,U,Q,Y⟩=>Mem.le ag Y/\sl a' Y V U O/\Tok 12 119 (.slice V O.length U) O.length Q/\(Za6 O).Ret r) (fun ⟨O,V,U,Q,Y⟩=>St w0 G0 Y [(1008,Q)]) ?_ ?_
 .refine y' ?_
  let ak:(((List Za)×Int)⊕(List Za))->Prop:=fun oo=>((fun ov=>match ov with | .inl rv3=>Cq.ret rv3 | .inr O=>Za6 O:(((List Za)×Int)⊕(List Za))->Cq ((List Za)×Int)) oo).wp (fun a=>a=r)
  replace hr:(Cq.loop _ _).wp ak:=hr
  refine ac' (Φ:=ak) (fun (⟨B,I,H,s,t,P⟩:(List Za)×Option Addr×Nat×Option Ow×Int×Mem)=>((B,t):(List Za)×Int)) (fun ⟨B,I,H,s,t,P⟩=>[(3,pt0 b1),(4,pt0 b2),(8,.slice I B.length H),(19,.slice aj p1.length am),(20,i' (p1.length:Int)),(21,i' t)]) (fun ⟨B,I,H,s,t,P⟩=>Mem.le ag P/\sl a' P I H B/\Tok 12 119 (.slice I B.length H) B.length s) (fun ⟨B,I,H,s,t,P⟩=>St w0 G0 P [(3,bk0 b1 (v59' c1 D F C J) 59),(4,bk0 b2 (vecG (Value.int .i64) 8 m1) 68),(1008,s)]) ⟨([]:List Za),p2,aN,aD,0,ag⟩ hr (f6 z z z z z z) ⟨mr,ay,ao⟩ ?_ ?_
  .intro w hs
   have hs:=hs.rekey (i:=4018) (j:=1008) z (by rw[Z]; rfl)
   exact hs.weaken (lc z (lc z (lc z ln)))
  intro a3 gx hx hr
  obtain⟨B,I,H,s,t,P⟩:=gx
  obtain⟨L,ai,aa⟩:=hx
  refine sr<|yy (aa' z z) z<|nx<|g'<|P' hr z (fun aJ hr=>?_) (fun aJ hr=>?_)
  .refine n'<|b'<|g'<|y'<|sr ?_
   obtain⟨K,ap,hr⟩:=hr
   refine yy (V' C' aW' (ac.mono (mx R L)) z z ap) z ?_
   obtain⟨l,o,p,m,aF,S,T⟩:=bM' (J' (Z' ac ap) (mx R L))
   refine yy (ao' _ cF' z z aF) z<|X' 10 z z119 z fun b3=>B' 10 z aW' z z z z z (fun u hu=>Rp.one a' (G:=P) (x:=K) (cs:=((v59' K.c l o p m):List Value)++(vecG (Value.int .i64) 8 K.m)) ⟨(v59' K.c l o p m),vecG (Value.int .i64) 8 K.m,z,⟨(v57' K.c.num l o),(v57' K.c.den p m),z,⟨[.bool K.c.num.neg],[.slice l K.c.num.mag.length o],z,z,⟨_,z,S⟩⟩,⟨[.bool K.c.den.neg],[.slice p K.c.den.mag.length m],z,z,⟨_,z,T⟩⟩⟩,z⟩ u (by first|simpa using hu|simpa [Value.cells] using hu))<|nr<|yy (D' 4 bo' z z (Q' _ _ _)) z<|yy (aM' z) z<|yy (al' (vecG (Value.int .i64) 8 K.m).toArray 10 bo' z z (Q' _ _ _) (ap' ((v59' K.c l o p m)) (vecG (Value.int .i64) 8 K.m) ([]))) z ?_
   obtain⟨M,aw,hr⟩:=hr
   refine K' z z (m' E150 z) (fn' aw) z (trivial)<|mv z z<|yy (R' z z) z<|yy (R' z z) z<|X' 11 z z68 z fun b4=>B' 11 z sz68 z z z (Q' _ _ _) (Q' _ _ _) (fun u hu=>Rp.one (bD' .i64 8) (G:=P) (x:=M.1) (cs:=vecG (Value.int .i64) 8 M.1) z u (by first|simpa using hu|simpa [Value.cells] using hu))<|sx0 z z<|g'<|sr<|mv z z<|yy (bp' z z) z<|nx<|P' hr z (fun aM hr=>?_) (fun aM hr=>?_)
   .exact (show False from hr).elim
   refine n'<|b'<|ak' [tt,ff,ff,ff,ff,ff] mix (by kernel_rfl) fun hb=>cv' z (c' z)<|cn (fun _ E=>D' 3 bc' z z z)<|cn (fun _ E=>aV' z)<|cn (fun _ E=>al' ((v59' K.c l o p m)).toArray 10 bc' z z z (ap' ([]) ((v59' K.c l o p m)) ((vecG (Value.int .i64) 8 K.m)))) ?_
   obtain⟨q,az,hr⟩:=hr
   refine az' (post:=w59' q) (fun _=>z) (fun _ _=>m' E132 z) (dI' az) z (fun G' E=>⟨((X.mono (mx R L)).mono E),((W.mono (mx R L)).mono E),(S.mono E),(T.mono E)⟩) (fun v G1 G2 E h=>?_) ?_
   .obtain⟨k,c,f,g,rfl,y,A⟩:=h
    exact⟨_,_,_,_,z,y.mono E,A.mono E⟩
   refine cu (fun _ _ E=>D' 11 bo' z z (Q' _ _ _))<|bi' (d:=39) (post:=w59' q) (fun aW a4 ad ae=>?_)
   obtain⟨k,c,f,g,rfl,y,A⟩:=ae
   refine yy (au' (vs:=#[(0,.agg ((v59' q k c f g)).toArray),(1,.agg (vecG (Value.int .i64) 8 M.1).toArray)]) (v:=.agg (((v59' q k c f g):List Value)++(vecG (Value.int .i64) 8 M.1)).toArray) z z (fun _=>by kernel_rfl)) z<|aF' (e:=119) (r:=a') (vs:=#[(0,.agg (((v59' q k c f g):List Value)++(vecG (Value.int .i64) 8 M.1)).toArray)]) (cs:=(((v59' q k c f g):List Value)++(vecG (Value.int .i64) 8 M.1))++([])) ([(Za.mk q M.1)]:List Za) z z z z z (by decide) (fun _=>by kernel_rfl) ⟨((v59' q k c f g):List Value)++(vecG (Value.int .i64) 8 M.1),[],z,⟨(v59' q k c f g),vecG (Value.int .i64) 8 M.1,z,⟨(v57' q.num k c),(v57' q.den f g),z,⟨[.bool q.num.neg],[.slice k q.num.mag.length c],z,z,⟨_,z,y⟩⟩,⟨[.bool q.den.neg],[.slice f q.den.mag.length g],z,z,⟨_,z,A⟩⟩⟩,z⟩,z⟩ (key:=999) z (by rw[Z]; rfl) (fun p3 a6 ab aK=>?_)
   obtain⟨ar,hr⟩:=hr
   refine bb' (r:=a') 1008 z z C' el119 z (by decide) z z (ai.mono (mx ad ab)) z (by rw[Z]; rfl) aa aK ar fun p4 aI aC aP an aG aq=>sg z z<|q'<|am'<|F'<|b'<|x'<|yy (W' z z) z<|mv z z<|q'<|T' ⟨(B++[(Za.mk q M.1)]),p4,aI,aC,i64.wrap (t+1),aP⟩ hr ⟨(mx (mx (mx L ad) ab) an),aG,aq⟩ (f6 z z z z z z) (w3 z z z)
  refine ae'<|h'<|h'<|I'<|af' ⟨B,I,H,s,P⟩ ⟨L,ai,aa,hr⟩ (f1 z) (w1 z)
 rintro⟨O,V,U,Q,Y⟩ ⟨aU,aA,aT,hr⟩
 refine b'<|sr<|mv z z<|sg z z<|sx0 z z<|k' ?_
 obtain rfl:_=r:=hr
 exact bd' z z z ⟨_,_,z,aA⟩
theorem fy'{t f e r}(hr:(Za3 t).Ret r):Ctr prog 92 #[.agg ((v57' t f e)).toArray] (fun G=>sl (Rp.int .u32) G f e t.mag) (w57' r):=by
 refine H' (args:=[_]) (N:=10) func92 z z z (fun P M I s=>?_)
 have m:=s
 refine sr<|ai' 1 z z z fun J=>X' 2 z z57 z fun Q=>nx<|g'<|ak' [ff,ff,ff,ff,ff,ff] mix (by kernel_rfl) fun L=>cn (fun _ c=>aQ' z)<|cn (fun _ c=>o' 1 sc4 z z z)<|cn (fun _ c=>aA' z)<|cn (fun _ c=>as' z)<|cn (fun _ c=>o' 1 be' z z z) ?_
 obtain⟨n,u,hr⟩:=hr
 refine az' (post:=wl' (Rp.int .u32) n) (fun _=>z) (fun _ _=>m' E141 z) (dB' u) z (fun K c=>(m.mono c)) (fun v R O c h=>?_) ?_
 .obtain⟨q,p,rfl,g⟩:=h
  exact⟨_,_,z,g.mono c⟩
 refine bi' (d:=8) (post:=wl' (Rp.int .u32) n) (fun C E B j=>?_)
 obtain⟨q,p,rfl,g⟩:=j
 obtain⟨F,o,hr⟩:=hr
 refine N' z z (m' E139 z) (bZ' o) z (g) (fun D H A l=>?_)
 obtain⟨y,x,rfl,k⟩:=l
 refine B' 2 z bn' z z z z z (List.all_eq_true.1 z)<|q'<|am'<|b'<|k' ?_
 obtain rfl:_=r:=hr
 exact j' z (aw' (i:=2) at' z z z) ⟨_,_,z,k⟩
theorem dV'{p C E r}(hr:(ZaC p).Ret r):Ctr prog 45 #[.slice C p.length E] (fun G=>sl a' G C E p) (wl' a' r):=by
 refine H' (args:=[_]) (N:=71) func45 z z z (fun w0 G0 bS bh=>?_)
 have B:=bh
 refine sr<|sx0 z z<|g'<|sr<|mv z z<|yy (O' C' B z) z<|yy (aH' z z) z<|nx<|P' hr z (fun bx hr=>?_) (fun bx hr=>?_)
 .exact (show False from hr).elim
 refine n'<|b'<|sr ?_
 obtain⟨br,ba,hr⟩:=hr
 refine N' z z (m' E87 z) (dc' ba) z (trivial) (fun bL bW D ar=>?_)
 obtain⟨aD,aj,rfl,ak⟩:=ar
 obtain⟨bo,bb,hr⟩:=hr
 refine N' z z (m' E87 z) (dc' bb) z (trivial) (fun bJ aL y aI=>?_)
 obtain⟨az,aG,rfl,ay⟩:=aI
 refine X' 3 z z57 z fun b1=>X' 4 z z57 z fun b2=>B' 3 z bn' z z z z z (List.all_eq_true.1 z)<|B' 4 z bn' z z z z z (List.all_eq_true.1 z)<|nx<|g'<|sr<|mv z z<|yy (O' C' (B.mono (mx D y)) z) z<|mv z z<|nx<|ab' (fun (⟨H,k,l,J,n,m,K⟩:Zb×Option Addr×Nat×Zb×Option Addr×Nat×Mem)=>[(0,.slice C p.length E),(3,pt0 b1),(4,pt0 b2)]) (fun ⟨H,k,l,J,n,m,K⟩=>Mem.le aL K/\sl (Rp.int .u32) K k l H.mag/\sl (Rp.int .u32) K n m J.mag/\(Z5 p H J).Ret r) (fun ⟨H,k,l,J,n,m,K⟩=>St w0 G0 K [(3,bk0 b1 (v57' H k l) 57),(4,bk0 b2 (v57' J n m) 57)]) ?_ ?_
 .refine y' ?_
  let aN:(Zb×Zb)->Prop:=fun oo=>((fun ov=>match ov with|(H,J)=>Z5 p H J:(Zb×Zb)->Cq (List Za)) oo).wp (fun a=>a=r)
  replace hr:(Cq.loop _ _).wp aN:=hr
  refine ac' (Φ:=aN) (fun (⟨A,P,h,i,O,j,g,F⟩:Int×Zb×Option Addr×Nat×Zb×Option Addr×Nat×Mem)=>((A,P,O):Int×Zb×Zb)) (fun ⟨A,P,h,i,O,j,g,F⟩=>[(0,.slice C p.length E),(3,pt0 b1),(4,pt0 b2),(20,.slice C p.length E),(21,i' (p.length:Int)),(22,i' A)]) (fun ⟨A,P,h,i,O,j,g,F⟩=>Mem.le aL F/\sl (Rp.int .u32) F h i P.mag/\sl (Rp.int .u32) F j g O.mag) (fun ⟨A,P,h,i,O,j,g,F⟩=>St w0 G0 F [(3,bk0 b1 (v57' P h i) 57),(4,bk0 b2 (v57' O j g) 57)]) ⟨0,br,aD,aj,bo,az,aG,aL⟩ hr (f6 z z z z z z) ⟨mr,(ak.mono y),ay⟩ (w2 z z) ?_
  .intro bP gx hx hr
   obtain⟨A,P,h,i,O,j,g,F⟩:=gx
   obtain⟨R,U,M⟩:=hx
   refine sr<|yy (aa' z z) z<|nx<|g'<|P' hr z (fun bq hr=>?_) (fun bq hr=>?_)
   .refine n'<|b'<|g'<|y'<|sr ?_
    obtain⟨o,aU,hr⟩:=hr
    refine yy (V' C' aW' (B.mono (mx (mx D y) R)) z z aU) z ?_
    obtain⟨e,f,c,d,bl,I,t⟩:=bM' (J' (Z' B aU) (mx (mx D y) R))
    refine yy (ao' _ cF' z z bl) z<|X' 6 z z119 z fun b4=>B' 6 z aW' z z z z z (fun u hu=>Rp.one a' (G:=F) (x:=o) (cs:=((v59' o.c e f c d):List Value)++(vecG (Value.int .i64) 8 o.m)) ⟨(v59' o.c e f c d),vecG (Value.int .i64) 8 o.m,z,⟨(v57' o.c.num e f),(v57' o.c.den c d),z,⟨[.bool o.c.num.neg],[.slice e o.c.num.mag.length f],z,z,⟨_,z,I⟩⟩,⟨[.bool o.c.den.neg],[.slice c o.c.den.mag.length d],z,z,⟨_,z,t⟩⟩⟩,z⟩ u (by first|simpa using hu|simpa [Value.cells] using hu))<|nr<|yy (D' 3 at' z z z) z<|yy (aV' z) z<|yy (bk' z) z<|yy (al' ((v57' o.c.num e f)).toArray 6 at' z z z (ap' ([]) ((v57' o.c.num e f)) (((v57' o.c.den c d):List Value)++(vecG (Value.int .i64) 8 o.m)))) z ?_
    obtain⟨bu,bf,hr⟩:=hr
    refine N' z z (m' E88 z) (du' bf) z (⟨U,I⟩) (fun bG bR L aJ=>?_)
    obtain⟨aB,am,rfl,ap⟩:=aJ
    refine B' 3 z bn' z z z z z (List.all_eq_true.1 z)<|nr<|yy (D' 4 at' z z z) z<|yy (aV' z) z<|yy (aY' z) z<|yy (al' ((v57' o.c.den c d)).toArray 6 at' z z z (ap' ((v57' o.c.num e f)) ((v57' o.c.den c d)) ((vecG (Value.int .i64) 8 o.m)))) z ?_
    obtain⟨bN,bi,hr⟩:=hr
    refine N' z z (m' E88 z) (du' bi) z (⟨(M.mono L),(t.mono L)⟩) (fun bB bT Q aw=>?_)
    obtain⟨bk,bj,rfl,ao⟩:=aw
    refine X' 7 z z57 z fun b5=>B' 7 z bn' z z z z z (List.all_eq_true.1 z)<|nr<|yy (aV' z) z<|yy (aY' z) z<|yy (al' ((v57' o.c.den c d)).toArray 6 at' z z z (ap' ((v57' o.c.num e f)) ((v57' o.c.den c d)) ((vecG (Value.int .i64) 8 o.m)))) z<|yy (D' 7 at' z z z) z ?_
    obtain⟨bY,a9,hr⟩:=hr
    refine N' z z (m' E89 z) (dw' a9) z (⟨(t.mono (mx L Q)),ao⟩) (fun bK bX Z aA=>?_)
    obtain⟨a1,aV,a3,aW,rfl,aa,a2⟩:=aA
    refine mv z z<|yy (R' z z) z<|yy (R' z z) z<|yy (R' z z) z<|X' 8 z z57 z fun b6=>X' 9 z z57 z fun b7=>B' 8 z bn' z z z z z (List.all_eq_true.1 z)<|B' 9 z bn' z z z z z (List.all_eq_true.1 z)<|sx0 z z<|x'<|yy (D' 4 at' z z z) z<|yy (D' 8 at' z z z) z ?_
    obtain⟨a8,aT,hr⟩:=hr
    refine N' z z (m' E90 z) (ex' aT) z (⟨(M.mono (mx (mx L Q) Z)),aa⟩) (fun bz a7 ab ae=>?_)
    obtain⟨ag,ah,rfl,af⟩:=ae
    refine B' 4 z bn' z z z z z (List.all_eq_true.1 z)<|q'<|F'<|b'<|x'<|yy (W' z z) z<|mv z z<|q'<|T' ⟨i64.wrap (A+1),bu,aB,am,a8,ag,ah,a7⟩ hr ⟨(mx (mx (mx (mx R L) Q) Z) ab),(ap.mono (mx (mx Q Z) ab)),af⟩ (f6 z z z z z z) (w2 z z)
   refine ae'<|h'<|h'<|I'<|af' ⟨P,h,i,O,j,g,F⟩ ⟨R,U,M,hr⟩ (f3 z z z) (w2 z z)
 rintro⟨H,k,l,J,n,m,K⟩ ⟨Y,au,V,hr⟩
 refine b'<|aO' (fun (⟨X,s,q,W⟩:Zb×Option Addr×Nat×Mem)=>[(0,.slice C p.length E),(3,pt0 b1),(4,pt0 b2)]) (fun ⟨X,s,q,W⟩=>Mem.le K W/\sl (Rp.int .u32) W s q X.mag/\(ZbE p H X).Ret r) (fun ⟨X,s,q,W⟩=>St w0 G0 W [(3,bk0 b1 (v57' H k l) 57),(4,bk0 b2 (v57' X s q) 57)]) ?_ ?_
 .refine sr<|mv z z ?_
  obtain⟨x1,a4,hr⟩:=hr
  refine yy (V' C' aW' (B.mono (mx (mx D y) Y)) z z a4) z<|yy (aV' z) z ?_
  obtain⟨aY,aZ,a0,aX,bn,ad,ac⟩:=ce' (J' (br' (aG' (Z' B a4))) (mx (mx D y) Y))
  refine yy (ao' _ bc' z z bn) z ?_
  obtain⟨bZ,bd,hr⟩:=hr
  refine K' z z (m' E91 z) (cm' bd) z (⟨ad,ac⟩)<|yy (aa' z z) z<|nx<|P' hr z (fun bp hr=>?_) (fun bp hr=>?_)
  .refine x'<|yy (D' 4 at' z z z) z ?_
   obtain⟨bm,a6,hr⟩:=hr
   refine N' z z (m' E92 z) (fy' a6) z (V) (fun bC bv aR al=>?_)
   obtain⟨aq,aC,rfl,aE⟩:=al
   refine B' 4 z bn' z z z z z (List.all_eq_true.1 z)<|q'<|ax' ⟨bm,aq,aC,bv⟩ ⟨aR,aE,hr⟩ (f3 z z z) (w2 z z)
  refine n'<|ax' ⟨J,n,m,K⟩ ⟨mr,V,hr⟩ (f3 z z z) (w2 z z)
 rintro⟨X,s,q,W⟩ ⟨ai,ax,hr⟩
 refine sr<|yy (D' 4 at' z z z) z<|yy (D' 3 at' z z z) z ?_
 obtain⟨bU,be,hr⟩:=hr
 refine N' z z (m' E93 z) (fm' be) z (⟨ax,(au.mono ai)⟩) (fun bD bV aS aF=>?_)
 obtain⟨aQ,aO,aM,aP,rfl,S,T⟩:=aF
 refine mv z z<|yy (R' z z) z<|yy (R' z z) z<|X' 11 z z59 z fun b3=>B' 11 z ch' z z z z z (List.all_eq_true.1 z)<|sg z z<|nr<|yy (D' 11 bc' z z z) z<|yy (au' (vs:=#[]) (v:=.agg (vecG (Value.int .i64) 8 (fun _=>0)).toArray) z z (fun _=>by kernel_rfl)) z<|mv z z ?_
 obtain⟨bO,a5,hr⟩:=hr
 refine N' z z (m' E94 z) (eG' a5) z (⟨S,T,(B.mono (mx (mx (mx (mx D y) Y) ai) aS))⟩) (fun bH bQ bA av=>?_)
 obtain⟨bw,bs,rfl,aK⟩:=av
 refine mv z z<|yy (R' z z) z<|yy (R' z z) z<|sg z z<|sg z z<|nr<|mv z z<|sx0 z z<|k' ?_
 obtain rfl:_=r:=hr
 exact j' z z ⟨_,_,z,aK⟩
theorem cH'{m y j i h e f u t r}(hr:(_eliminant_claim_rules_sorted m y j).Ret r):Ctr prog 105 #[.agg ((v28' m.k i h e f)).toArray,.slice u y.length t,i' j] (fun G=>sl (Rp.sl a') G i h m.k.eqs/\sl (Rp.sl a') G e f m.k.neqs/\sl (Rp.sl a') G u t y) (fun G v=>v = .bool r):=by
 refine H' (args:=[_,_,_]) (N:=47) func105 z z z (fun V A ao L=>?_)
 obtain⟨q,p,l⟩:=L
 refine sr<|ai' 3 z z z fun P=>sx0 z z<|g'<|sr<|mv z z<|yy (O' M' l z) z<|yy (aS' z z) z<|nx<|P' hr z (fun Z hr=>?_) (fun Z hr=>?_)
 .refine sr<|sx0 z z<|k'<|f' (k0' hr z z)
 refine n'<|b'<|g'<|sr<|mv z z<|yy (O' M' l z) z<|mv z z<|nx<|ab' (fun (s:Mem)=>match s with|n=>[]) (fun (s:Mem)=>match s with|n=>Mem.le A n/\(_eliminant_claim_rules_sorted_k1).Ret r) (fun (s:Mem)=>match s with|n=>St V A n []) ?_ ?_
 .refine y' ?_
  let B:(Bool⊕Unit)->Prop:=fun oo=>((fun ov=>match ov with | .inl rv2=>Cq.ret rv2 | .inr ()=>_eliminant_claim_rules_sorted_k1:(Bool⊕Unit)->Cq Bool) oo).wp (fun a=>a=r)
  replace hr:(Cq.loop _ _).wp B:=hr
  refine ac' (Φ:=B) (fun (⟨d,k⟩:Int×Mem)=>(d:Int)) (fun ⟨d,k⟩=>[(1,.slice u y.length t),(2,i' j),(3,pt0 P),(12,.slice u y.length t),(13,i' (y.length:Int)),(14,i' d)]) (fun ⟨d,k⟩=>Mem.le A k) (fun ⟨d,k⟩=>St V A k [(3,bk0 P (v28' m.k i h e f) 103)]) ⟨0,A⟩ hr (f6 z z z z z z) mr (w1 z) ?_
  .intro al s hx hr
   obtain⟨d,k⟩:=s
   have c:=hx
   refine sr<|yy (aa' z z) z<|nx<|g'<|P' hr z (fun U hr=>?_) (fun U hr=>?_)
   .refine n'<|b'<|g'<|y'<|sr<|mv z z ?_
    obtain⟨x1,D,hr⟩:=hr
    refine yy (V' M' cj' (l.mono c) z z D) z ?_
    obtain⟨p1,am,S,o⟩:=bl' (J' (Z' l D) c)
    refine yy (aj' bU' z (S)) z<|sg z z<|sx0 z z<|g'<|sr<|yy (D' 3 ag103 z z z) z<|mv z z ?_
    obtain⟨R,M,hr⟩:=hr
    refine K' z z (m' E163 z) (dv' M) z (⟨(q.mono c),(p.mono c),o⟩) ?_
    cases R
    .refine yy (aA' z) z<|mv z z<|sn4 z<|yy (w' z z) z<|nx<|aB' z<|sr<|sx0 z z<|k'<|f'<|A'<|f'<|f'<|A'<|an'<|f' (k0' hr z z)
    refine yy (aA' z) z<|mv z z<|gy z z (c' z) z ?_
    obtain⟨ah,F,hr⟩:=hr
    refine K' (E' z z) z (m' E48 z) (cG' F) z (o)<|gy z z (c' z) z<|gy z z (aa' z z) z<|yy (t' z z) z<|nx<|P' hr z (fun O hr=>?_) (fun O hr=>?_)
    .refine sr<|sx0 z z<|k'<|f'<|A'<|f'<|f'<|A'<|an'<|f' (k0' hr z z)
    refine n'<|b'<|g'<|sr<|mv z z ?_
    obtain⟨an,K,hr⟩:=hr
    refine N' z z (m' E45 z) (dV' K) z (o) (fun ad E g x=>?_)
    obtain⟨ab,ac,rfl,J⟩:=x
    refine mv z z ?_
    obtain⟨ai,I,hr⟩:=hr
    refine K' z z (m' E75 z) (ZbH _ _ _ _ _ _ _ I) z (⟨J,(o.mono g)⟩)<|yy (aA' z) z<|nx<|aK' hr z (fun T hr=>?_) (fun T hr=>?_)
    .refine sr<|sx0 z z<|k'<|f'<|A'<|f'<|f'<|A'<|an'<|f' (k0' hr z z)
    refine n'<|b'<|sr<|mv z z<|aE' hr z (aS' z z) z (fun X hr=>?_) (fun X hr=>?_)
    .refine mv z z<|gy z z (c' z) z<|gy z z (c' z) z<|gy z z (ba' z z) z ?_
     obtain⟨x2,C,hr⟩:=hr
     refine gy z z (V' M' cj' (l.mono (mx c g)) z z C) z ?_
     obtain⟨p2,aj,W,Y⟩:=bl' (J' (Z' l C) (mx c g))
     refine gy z z (aj' bU' z (W)) z<|gy z z (c' z) z ?_
     obtain⟨ak,H,hr⟩:=hr
     refine K' (E' z z) z (m' E99 z) (Zdw _ _ _ _ _ _ _ H) z (⟨Y,(o.mono g)⟩)<|gy z z (bH' z z) z<|yy (w' z z) z<|nx<|P' hr z (fun Q hr=>?_) (fun Q hr=>?_)
     .refine sr<|sx0 z z<|k'<|A'<|f'<|f'<|A'<|an'<|f' (k0' hr z z)
     refine n'<|F'<|b'<|x'<|yy (W' z z) z<|mv z z<|q'<|T' ⟨i64.wrap (d+1),E⟩ hr (mx c g) (f6 z z z z z z) (w1 z)
    refine mv z z<|sn8 z<|yy (t' z z) z<|nx<|bw' z<|n'<|F'<|b'<|x'<|yy (W' z z) z<|mv z z<|q'<|T' ⟨i64.wrap (d+1),E⟩ hr (mx c g) (f6 z z z z z z) (w1 z)
   refine ae'<|h'<|h'<|I'<|af' k ⟨c,hr⟩ fn (wk ln)
 rintro n ⟨aa,hr⟩
 refine b'<|sr<|sx0 z z<|k' (k0' hr z z)
theorem dC'{i h g e f r}(hr:(_eliminant_claim_rules_valid i).Ret r):Ctr prog 53 #[.agg ((v28' i.k h g e f)).toArray] (fun G=>sl (Rp.sl a') G h g i.k.eqs/\sl (Rp.sl a') G e f i.k.neqs) (fun G v=>v = .bool r):=by
 refine H' (args:=[_]) (N:=27) func53 z z z (fun u t q k=>?_)
 obtain⟨d,c⟩:=k
 refine sr<|ai' 1 z z z fun s=>sg z z<|nr<|yy (eb' z) z<|yy (co' z) z<|yy (o' 1 sc3 z z z) z<|aE' hr z (bH' z z) z (fun o hr=>?_) (fun o hr=>?_)
 .refine mv z z<|gy z z (eb' z) z<|gy z z (co' z) z<|gy z z (o' 1 sc3 z z z) z<|aE' hr (E' z z) (bW' z z) z (fun n hr=>?_) (fun n hr=>?_)
  .refine yy (w' z z) z<|mv z z<|gy z z (D' 1 ag103 z z z) z<|gy z z (eb' z) z<|gy z z (cR' z) z<|gy z z (o' 1 sc25 z z z) z ?_
   obtain⟨m,l,hr⟩:=hr
   refine K' (E' z z) z (m' E105 z) (cH' l) z (⟨d,c,d⟩) ?_
   cases m
   .refine yy (w' z z) z<|mv z z<|sn5 z<|yy (t' z z) z<|sx0 z z<|k' (k0' hr z z)
   refine yy (w' z z) z<|mv z z<|gy z z (D' 1 ag103 z z z) z<|gy z z (eb' z) z<|gy z z (cB' z) z<|gy z z (o' 1 sc25 z z z) z ?_
   obtain⟨p,j,hr⟩:=hr
   refine K' (E' z z) z (m' E105 z) (cH' j) z (⟨d,c,c⟩)<|yy (w' z z) z<|sx0 z z<|k' (k0' hr z z)
  refine yy (w' z z) z<|mv z z<|sn5 z<|yy (t' z z) z<|mv z z<|sn5 z<|yy (t' z z) z<|sx0 z z<|k' (k0' hr z z)
 refine mv z z<|sn4 z<|yy (t' z z) z<|mv z z<|sn5 z<|yy (t' z z) z<|mv z z<|sn5 z<|yy (t' z z) z<|sx0 z z<|k' (k0' hr z z)
theorem ZeY(g:Ze)(e:Option Addr)(f:Nat)(d:Option Addr)(c:Nat)(r:Bool)(hr:(ZcU g).Ret r):Ctr prog 15 #[.agg ((v28' g e f d c)).toArray] (fun G=>sl (Rp.sl a') G e f g.eqs/\sl (Rp.sl a') G d c g.neqs) (fun G v=>v = .bool r):=by
 refine H' (args:=[_]) (N:=6) func15 z z z (fun o p l k=>?_)
 obtain⟨i,h⟩:=k
 refine sr<|ai' 1 z z z fun n=>sg z z<|nr<|yy (D' 1 bj' z z z) z<|yy (au' (vs:=#[(0,.agg ((v28' g e f d c)).toArray)]) (v:=.agg ((v28' g e f d c)).toArray) z z (fun _=>by kernel_rfl)) z ?_
 obtain⟨m,j,hr⟩:=hr
 refine K' z z (m' E53 z) (dC' j) z (⟨i,h⟩)<|sx0 z z<|k' (k0' hr z z)
def WrL(wb:Nat)(s:Option Addr×Nat×Option Ow)(n:Nat):Lo:=[(6000,some ⟨wb,.cells #[.slice s.1 n s.2.1] 158 (0,0),0⟩),(5000,s.2.2)]
abbrev WrR(G:Mem)(s:Option Addr×Nat×Option Ow)(xs:List Int):Prop:=RowR (Rp.int .u8) 5 G (.slice s.1 xs.length s.2.1) xs s.2.2
def WrC(f:Nat)(args:Nat->List Value)(pre:Mem->Prop)(out:List Int):Prop:=∀ (wb:Nat) (xs:List Int) (s:Option Addr×Nat×Option Ow),(xs++out).length<=1000000->
  CtrL prog f (Value.pointer (some ⟨wb,0,none⟩)::args wb).toArray (WrL wb s xs.length) (fun G=>WrR G s xs/\pre G) (fun G L v=>v = .tuple #[]/\∃ s',L=WrL wb s' (xs++out).length/\WrR G s' (xs++out))
section
variable {N:Nat}{Q:Post}{fr:Fr}{ops:Array Oper}{l:List Oper}{dst:Option Nat}{ty:TypeId}{pos:String}{af:Array Edge}{g:Option (Nat×Bool)}{w0:Bs}{G0 G:Mem}
theorem ZbG{wb:Nat}{s:Option Addr×Nat×Option Ow}{n:Nat}{xs:List Int}(h:WrR G s xs):(WrL wb s n).zero:=by
  intro q hq x hx
  simp only[WrL,List.mem_cons,List.not_mem_nil,or_false] at hq
  rcases hq with rfl|rfl
  . cases hx; rfl
  exact h.zero hx
theorem Z2{op:Op}{f:Nat}{args:Nat->List Value}{pre:Mem->Prop}{out xs:List Int}{wb:Nat}{s:Option Addr×Nat×Option Ow}(R:Lo)(hC:WrC f args pre out)(hg:guardOK ops fr ⟨dst,op,ty,pos,af,g⟩ true)(hd:dstOK N dst)
    (hY:YC prog N ⟨dst,op,ty,pos,af,g⟩ fr (St w0 G0 G (WrL wb s xs.length++R)) f (Value.pointer (some ⟨wb,0,none⟩)::args wb).toArray) (hlen:(xs++out).length<=1000000) (hrow:WrR G s xs) (hp:pre G) (hz:w0.L.zero)
    (k:∀ s' G',Mem.le G G'->WrR G' s' (xs++out)->WL prog N ops Q l (putFr dst (.tuple #[]) fr) (St w0 G0 G' (WrL wb s' (xs++out).length++R))):WL prog N ops Q (⟨dst,op,ty,pos,af,g⟩::l) fr (St w0 G0 G (WrL wb s xs.length++R)):=by
  refine WL.callT hg hd hY (hC wb xs s hlen) rfl ⟨hrow,hp⟩ (lc rfl (lc rfl ln)) hz (fun v G' L' hle hpost=>?_)
  obtain⟨rfl,s',rfl,hrow'⟩:=hpost
  refine WL.conseq (fun w hs=>hs.weaken (fun i x hx=>?_)) (k s' G' hle hrow')
  simp only[WrL,Lo.without,List.map_cons,List.map_nil,List.cons_append,List.nil_append,Lo.Zh] at hx ⊢
  split at hx
  . rename_i e; rw[if_pos e]; exact hx
  rename_i e
  rw[if_neg e]
  split at hx
  . rename_i e2; rw[if_pos e2]; exact hx
  rename_i e2; rw[if_neg e2,if_neg e,if_neg e2,if_neg e,if_neg e2]; exact hx
end
theorem u64r(n:Int):0<=u64.wrap n/\u64.wrap n<18446744073709551616:=by rw[IntKind.wrap_u64]; omega
theorem ZcA(n0:Int)(h0:0<=n0/\n0<18446744073709551616):WrC 194 (fun _=>[.int .u64 n0]) (fun _=>True) (natW n0):=by
  intro wb xs s0 hlen
  refine CtrL.enter (args:=[_,_]) (N:=32) func194 rfl rfl rfl (fun w0 G0 hL0 hpre=>?_)
  obtain⟨hrow0,_⟩:=hpre
  refine WC.seq<|WC.block ?_
  refine WC.loopH (X:=Nat×List Int×Int×(Option Addr×Nat×Option Ow)×Mem) (fun gx=>match gx with|⟨_,_,n,_,_⟩=>[(0,.pointer (some ⟨wb,0,none⟩)),(1,.int .u64 n)])
    (fun gx=>match gx with|⟨f,ys,n,s,G⟩=>0<=n/\n<128*128 ^ f/\n<18446744073709551616/\ys++natG f n=xs++natW n0/\WrR G s ys)
    (fun gx=>match gx with|⟨_,ys,_,s,G⟩=>St w0 G0 G (WrL wb s ys.length)) (fun gx=>gx.1) ⟨10,xs,n0,s0,G0⟩ (fc rfl (fc rfl fn)) ⟨h0.1,by omega,h0.2,rfl,hrow0⟩ (fun w hs=>hs) ?_
  rintro⟨f,ys,n,s,G⟩ ⟨h1,h2,h5,h3,h4⟩
  dsimp only at h1 h2 h3 h4 h5 ⊢
  refine WC.seq<|sr<|mv rfl rfl<|yy (Y0.geq rfl rfl) rfl<|nx ?_
  have hyl:(ys++natG f n).length<=1000000:=by rw[h3]; exact hlen
  refine WC.condD (p:=(128:Int)<=n) rfl (fun hc=>?_) (fun hc=>?_)
  . obtain⟨f,rfl⟩:∃ j,f=j+1:=by
      cases f with
      | zero=>have:(128:Int)*128 ^ 0=128:=rfl; omega
      | succ j=>exact⟨j,rfl⟩
    have hng:natG (f+1) n=u8.wrap (u8.wrap (Int.tmod n 128)+128)::natG f (u64.wrap (Int.tdiv n 128)):=by show (if (128:Int)<=n then _ else _)=_; rw[if_pos hc]
    rw[hng] at h3 hyl
    refine WC.skip<|WE.then<|WC.block<|sr<|mv rfl rfl<|mv rfl rfl<|yy (Y0.nilCheck rfl) rfl<|yy (Y0.ZcG rfl) rfl<|yy (Y0.loadL 6000 sc35 rfl rfl rfl) rfl<|mv rfl rfl<|yy (Y0.rem rfl rfl (by decide)) rfl<|yy (Y0.conv underlying164 underlying5 rfl) rfl<|yy (Y0.add rfl rfl) rfl ?_
    refine WL.litR (e:=5) (r:=Rp.int .u8) (vs:=#[(0,.int .u8 (u8.wrap (u8.wrap (Int.tmod n 128)+128)))]) (cs:=[.int .u8 (u8.wrap (u8.wrap (Int.tmod n 128)+128))]) ([u8.wrap (u8.wrap (Int.tmod n 128)+128)]:List Int) Zd rfl rfl rfl rfl (by decide) (fun _=>by kernel_rfl) ⟨[_],[],rfl,rfl,rfl⟩ (key:=999) rfl (by rw[hL0]; rfl) (fun p1 G1 hle1 q1=>?_)
    refine WL.appendT (r:=Rp.int .u8) (e:=5) 5000 Zd rfl underlying35 el5 rfl (by decide) rfl rfl (h4.mono hle1) rfl q1 (by simp only[List.length_append,List.length_cons,List.length_nil] at hyl ⊢; show _<=small; simp only[small]; omega) (fun p2 c2 tk2 q2=>?_)
    refine yy (Y0.nilCheck rfl) rfl<|yy (Y0.ZcG rfl) rfl<|WL.storeL 6000 #[.slice p2 (ys++[u8.wrap (u8.wrap (Int.tmod n 128)+128)]).length c2] Zd sz35 rfl rfl rfl Nat.zero_lt_one rfl rfl ?_
    refine nx<|WC.region<|mv rfl rfl<|yy (Y0.quo rfl rfl (by decide)) rfl<|sg rfl rfl<|WL.nil<|WE.inBlock ?_
    have hd:u64.wrap (Int.tdiv n 128)=n / 128:=by rw[Int.tdiv_eq_ediv_of_nonneg h1,IntKind.wrap_u64]; omega
    have hp:(128:Int)*128 ^ (f+1)=128*(128*128 ^ f):=by rw[Int.pow_succ]; omega
    have hb:0<=u64.wrap (Int.tdiv n 128)/\u64.wrap (Int.tdiv n 128)<128*128 ^ f/\u64.wrap (Int.tdiv n 128)<18446744073709551616:=by rw[hd]; omega
    refine WE.backH (x:=(f+1,ys,n,s,G)) (f,ys++[u8.wrap (u8.wrap (Int.tmod n 128)+128)],u64.wrap (Int.tdiv n 128),(p2,c2,tk2),G1) ⟨hb.1,hb.2.1,hb.2.2,by show (_++[_])++_=_; rw[List.append_assoc]; exact h3,q2⟩ (fc rfl (fc rfl fn)) (fun w hs=>hs.weaken (lc rfl (lc rfl ln))) (Nat.lt_succ_self f)
  have hng:natG f n=[u8.wrap n]:=by cases f with|zero=>rfl|succ f=>show (if (128:Int)<=n then _ else _)=_; rw[if_neg hc]
  rw[hng] at h3 hyl
  refine WC.exit<|WE.thenExit<|WE.thenExit<|WE.exitHere<|WE.then<|WC.region<|mv rfl rfl<|mv rfl rfl<|yy (Y0.nilCheck rfl) rfl<|yy (Y0.ZcG rfl) rfl<|yy (Y0.loadL 6000 sc35 rfl rfl rfl) rfl<|mv rfl rfl<|yy (Y0.conv underlying164 underlying5 rfl) rfl ?_
  refine WL.litR (e:=5) (r:=Rp.int .u8) (vs:=#[(0,.int .u8 (u8.wrap n))]) (cs:=[.int .u8 (u8.wrap n)]) ([u8.wrap n]:List Int) Zd rfl rfl rfl rfl (by decide) (fun _=>by kernel_rfl) ⟨[_],[],rfl,rfl,rfl⟩ (key:=999) rfl (by rw[hL0]; rfl) (fun p1 G1 hle1 q1=>?_)
  refine WL.appendT (r:=Rp.int .u8) (e:=5) 5000 Zd rfl underlying35 el5 rfl (by decide) rfl rfl (h4.mono hle1) rfl q1 (by simp only[List.length_append,List.length_cons,List.length_nil] at hyl ⊢; show _<=small; simp only[small]; omega) (fun p2 c2 tk2 q2=>?_)
  refine yy (Y0.nilCheck rfl) rfl<|yy (Y0.ZcG rfl) rfl<|WL.storeL 6000 #[.slice p2 (ys++[u8.wrap n]).length c2] Zd sz35 rfl rfl rfl Nat.zero_lt_one rfl rfl<|WL.nil<|WE.retN ?_
  rw[h3] at q2 ⊢
  exact WE.conseq (S':=St w0 G0 G1 (WrL wb (p2,c2,tk2) (xs++natW n0).length)) (fun w hs=>hs.weaken (lc rfl (lc rfl ln))) (WE.ret0 rfl ⟨rfl,_,rfl,q2⟩)
theorem ZlK(n:Int)(h:0<=n):WrC 165 (fun _=>[.int .i64 n]) (fun _=>True) (numW n):=by
  intro wb xs s hlen
  refine CtrL.enter (args:=[_,_]) (N:=19) func165 rfl rfl rfl (fun w0 G0 hL0 hpre=>?_)
  obtain⟨hrow,_⟩:=hpre
  refine sr<|mv rfl rfl<|yy (Y0.geq rfl rfl) rfl<|nx ?_
  refine WC.condD (p:=(0:Int)<=n) rfl (fun hc=>?_) (fun hc=>absurd h hc)
  refine WC.region<|mv rfl rfl<|mv rfl rfl<|yy (Y0.conv underlying3 underlying164 rfl) rfl<|yy (Y0.mul rfl rfl) rfl ?_
  refine WL.conseq (S':=St w0 G0 G0 (WrL wb s xs.length++[])) (fun w hs=>hs) ?_
  refine Z2 [] (ZcA _ (u64r _)) Zd rfl (YC.of E194 rfl) hlen hrow trivial (by rw[hL0]; exact ZbG hrow) (fun s' G' hle hrow'=>?_)
  exact WL.nil<|WE.retN<|WE.ret0 rfl ⟨rfl,s',rfl,hrow'⟩
theorem Y0.loadRp{N:Nat}{fr:Fr}{w0:Bs}{G0 G:Mem}{L:Lo}{dst:Option Nat}{ty:TypeId}{pos:String}{af:Array Edge}{g:Option (Nat×Bool)}{α:Type}{r:Rp α}{t:TypeId}{x:Operand}{b off:Nat}{cs:List Value}{a:α}(ht:AggT prog t r.size)(hx:fr.ev x=some (.pointer (some ⟨b,off,none⟩)))
    (hr:r.rep G cs a) (hv:∀ j u,cs[j]? = some u->G b (off+j)=some u):Y0 prog N ⟨dst,.load t x,ty,pos,af,g⟩ fr (St w0 G0 G L) (.agg cs.toArray):=
  Y0.loadGA cs.toArray ht hx (by rw[List.size_toArray]; exact r.len hr) (fun j v h=>hv j v (by rw[List.getElem?_toArray] at h; exact h))
theorem ZfX{wb n:Nat}{s:Option Addr×Nat×Option Ow}{x y:Option Ow}:Lo.sub (WrL wb s n++[]) ((3,x)::(3,y)::WrL wb s n):=
  show Lo.sub [(6000,some ⟨wb,.cells #[.slice s.1 n s.2.1] 158 (0,0),0⟩),(5000,s.2.2)] _ from lc rfl (lc rfl ln)
theorem Zhv(a:Zb)(cs:List Value):WrC 239 (fun _=>[.agg cs.toArray]) (fun G=>Zai.rep G cs a) (intW a):=by
  intro wb xs s hlen
  refine CtrL.enter (args:=[_,_]) (N:=47) func239 rfl rfl rfl (fun w0 G0 hL0 hpre=>?_)
  obtain⟨hrow,hrep⟩:=hpre
  have hz:w0.L.zero:=by rw[hL0]; exact ZbG hrow
  refine sr<|WL.box 3 Zd rfl rfl (fun b3=>nx ?_)
  refine WC.knowBox 3 rfl (by rw[hL0]; rfl) (fun G1 hle1 hk1 _=>?_)
  have hbox:At Zai G1 b3 0 a:=At.box hk1 rfl (Zai.mono hle1 hrep)
  obtain⟨mp,mc,hk,hsl⟩:=Zg1 hbox
  refine WC.conseq (S':=St w0 G0 G1 (WrL wb s xs.length++[])) (fun w hs=>hs.weaken ZfX) ?_
  refine sr<|yy (Y0.ZiK rfl) rfl<|yy (Y0.loadG sc55 rfl (hk 1 _ rfl)) rfl<|yy (Y0.lenC underlying55 rfl) rfl<|yy (Y0.conv underlying3 underlying164 rfl) rfl<|yy (Y0.mul rfl rfl) rfl<|sg rfl rfl<|nx ?_
  refine WC.seqH (X:=Unit) (fun _=>[(0,.pointer (some ⟨wb,0,none⟩)),(3,.pointer (some ⟨b3,0,none⟩)),(4,.int .u64 (if a.neg=true then u64.wrap (u64.wrap (2*u64.wrap (a.mag.length:Int))+1) else u64.wrap (2*u64.wrap (a.mag.length:Int))))]) (fun _=>True) (fun _=>St w0 G0 G1 (WrL wb s xs.length++[])) ?_ (fun _ _=>?_)
  . refine sr<|yy (Y0.ZkS rfl) rfl<|yy (Y0.loadG sc4 rfl (hk 0 _ rfl)) rfl<|nx ?_
    refine WC.cond (b:=a.neg) rfl (fun hc=>?_) (fun hc=>?_)
    . refine WC.region<|mv rfl rfl<|yy (Y0.add rfl rfl) rfl<|sg rfl rfl<|WL.nil<|WE.midH () trivial (fc rfl (fc rfl (fc (by rw[hc]; rfl) fn))) (fun w hs=>hs)
    refine WC.skip<|WE.midH () trivial (fc rfl (fc rfl (fc (by rw[hc]; rfl) fn))) (fun w hs=>hs)
  have hn0:∀ c:Bool,0<=(if c=true then u64.wrap (u64.wrap (2*u64.wrap (a.mag.length:Int))+1) else u64.wrap (2*u64.wrap (a.mag.length:Int)))/\(if c=true then u64.wrap (u64.wrap (2*u64.wrap (a.mag.length:Int))+1) else u64.wrap (2*u64.wrap (a.mag.length:Int)))<18446744073709551616:=fun c=>by split <;> exact u64r _
  unfold intW at hlen ⊢
  generalize hH:natW (if a.neg=true then u64.wrap (u64.wrap (2*u64.wrap (a.mag.length:Int))+1) else u64.wrap (2*u64.wrap (a.mag.length:Int)))=H at hlen ⊢
  have hwd:∀ l:List Int,(l.flatMap wordW).length=4*l.length:=fun l=>by
    induction l with
    | nil=>rfl
    | cons d l ih=>rw[List.flatMap_cons,List.length_append,ih]; show 4+_=_; rw[List.length_cons]; omega
  rw[List.length_append,List.length_append,hwd] at hlen
  refine sr<|mv rfl rfl<|mv rfl rfl ?_
  refine Z2 [] (ZcA _ (hn0 a.neg)) Zd rfl (YC.of E194 rfl) (by rw[hH,List.length_append]; omega) (hrow.mono hle1) trivial hz (fun s1 G2 hle2 hrow1=>?_)
  rw[hH] at hrow1 ⊢
  refine nx<|sr<|yy (Y0.ZiK rfl) rfl<|yy (Y0.loadG sc55 rfl (hle2 _ _ _ (hk 1 _ rfl))) rfl<|yy (Y0.lenC underlying55 rfl) rfl<|mv rfl rfl<|nx<|WC.block ?_
  refine WC.loopH (X:=Nat×(Option Addr×Nat×Option Ow)×Mem) (fun gx=>match gx with|⟨k,_,_⟩=>[(0,.pointer (some ⟨wb,0,none⟩)),(20,.slice mp a.mag.length mc),(21,.int .i64 (a.mag.length:Int)),(22,.int .i64 (k:Int))])
    (fun gx=>match gx with|⟨k,s',G⟩=>k<=a.mag.length/\Mem.le G1 G/\WrR G s' (xs++H++(a.mag.take k).flatMap wordW))
    (fun gx=>match gx with|⟨k,s',G⟩=>St w0 G0 G (WrL wb s' (xs++H++(a.mag.take k).flatMap wordW).length)) (fun gx=>a.mag.length-gx.1) ⟨0,s1,G2⟩ (fc rfl (fc rfl (fc rfl (fc rfl fn)))) ⟨Nat.zero_le _,hle2,by rw[List.take_zero,List.flatMap_nil,List.append_nil]; exact hrow1⟩ (fun w hs=>by show St _ _ _ (WrL wb s1 (xs++H++(a.mag.take 0).flatMap wordW).length) _; rw[List.take_zero,List.flatMap_nil,List.append_nil]; exact hs) ?_
  rintro⟨k,s',G⟩ ⟨hk1',hle,hr⟩
  dsimp only at hk1' hle hr ⊢
  refine sr<|yy (Y0.lss rfl rfl) rfl<|nx<|WC.seq ?_
  refine WC.condD (p:=(k:Int)<(a.mag.length:Int)) rfl (fun hc=>?_) (fun hc=>?_)
  . have hkl:k<a.mag.length:=by omega
    have hx:(0:Int)<=(k:Int)/\a.mag[(k:Int).toNat]? = some a.mag[k]:=⟨by omega,by simp[hkl]⟩
    have hw:i64.wrap ((k:Int)+1)=((k+1:Nat):Int):=by rw[IntKind.wrap_i64]; omega
    have htk:(a.mag.take (k+1)).flatMap wordW=(a.mag.take k).flatMap wordW++wordW a.mag[k]:=by rw[List.take_succ_eq_append_getElem hkl,List.flatMap_append]; simp
    have hsm:(xs++H++(a.mag.take k).flatMap wordW++wordW a.mag[k]).length<=small:=by
      simp only[List.length_append,hwd,List.length_take]
      show _+_+_+4<=small
      simp only[small]; omega
    refine WC.skip<|WE.then<|WC.seq<|WC.block<|sr<|yy (Y0.idxR underlying55 sz182 (hsl.mono hle) rfl rfl hx) rfl<|yy (Y0.loadG sc182 rfl (AtK.int (At.mono (SlR.at hsl hx) hle))) rfl<|sg rfl rfl<|nx<|WC.region<|mv rfl rfl<|mv rfl rfl<|yy (Y0.nilCheck rfl) rfl<|yy (Y0.ZcG rfl) rfl<|yy (Y0.loadL 6000 sc35 rfl rfl rfl) rfl ?_
    refine mv rfl rfl<|yy (Y0.shr rfl rfl (by decide)) rfl<|yy (Y0.conv underlying182 underlying5 rfl) rfl<|mv rfl rfl<|yy (Y0.shr rfl rfl (by decide)) rfl<|yy (Y0.conv underlying182 underlying5 rfl) rfl<|mv rfl rfl<|yy (Y0.shr rfl rfl (by decide)) rfl<|yy (Y0.conv underlying182 underlying5 rfl) rfl<|mv rfl rfl<|yy (Y0.conv underlying182 underlying5 rfl) rfl ?_
    refine WL.litR (e:=5) (r:=Rp.int .u8) (vs:=#[(0,.int .u8 (u8.wrap (Int.fdiv a.mag[k] (2 ^ (min (24:Int).toNat u32.bits))))),(1,.int .u8 (u8.wrap (Int.fdiv a.mag[k] (2 ^ (min (16:Int).toNat u32.bits))))),(2,.int .u8 (u8.wrap (Int.fdiv a.mag[k] (2 ^ (min (8:Int).toNat u32.bits))))),(3,.int .u8 (u8.wrap a.mag[k]))]) (cs:=(wordW a.mag[k]).map (Value.int .u8)) (wordW a.mag[k]) Zd rfl rfl rfl rfl (by decide) (fun _=>by kernel_rfl) (RepL.nums _) (key:=999) rfl (by rw[hL0]; rfl) (fun p1 G3 hle3 q1=>?_)
    refine WL.appendT (r:=Rp.int .u8) (e:=5) 5000 Zd rfl underlying35 el5 rfl (by decide) rfl rfl (hr.mono hle3) rfl q1 hsm (fun p2 c2 tk2 q2=>?_)
    refine yy (Y0.nilCheck rfl) rfl<|yy (Y0.ZcG rfl) rfl<|WL.storeL 6000 #[.slice p2 (xs++H++(a.mag.take k).flatMap wordW++wordW a.mag[k]).length c2] Zd sz35 rfl rfl rfl Nat.zero_lt_one rfl rfl ?_
    refine WL.nil<|WE.inBlock<|WE.then<|WC.region<|yy (Y0.add rfl rfl) rfl ?_
    rw[hw]
    rw[List.append_assoc (xs++H),<- htk] at q2 ⊢
    exact mv rfl rfl<|WL.nil<|WE.backH (x:=(k,s',G)) (k+1,(p2,c2,tk2),G3) ⟨by omega,Mem.le_trans hle hle3,q2⟩ (fc rfl (fc rfl (fc rfl (fc rfl fn)))) (fun w hs=>hs.weaken (lc rfl (lc rfl ln))) (by show a.mag.length-(k+1)<a.mag.length-k; omega)
  have hke:k=a.mag.length:=by omega
  subst hke
  rw[List.take_length,List.append_assoc] at hr ⊢
  refine WC.exit<|WE.thenExit<|WE.thenExit<|WE.exitHere<|WE.retN ?_
  exact WE.ret0 rfl ⟨rfl,s',rfl,hr⟩
theorem ZjB(a:Zf)(cs:List Value):WrC 234 (fun _=>[.agg cs.toArray]) (fun G=>ZaY.rep G cs a) (ratW a):=by
  intro wb xs s hlen
  refine CtrL.enter (args:=[_,_]) (N:=12) func234 rfl rfl rfl (fun w0 G0 hL0 hpre=>?_)
  obtain⟨hrow,hrep⟩:=hpre
  have hz:w0.L.zero:=by rw[hL0]; exact ZbG hrow
  unfold ratW at hlen ⊢
  rw[List.length_append,List.length_append] at hlen
  refine sr<|WL.box 3 Zd rfl rfl (fun b3=>nx ?_)
  refine WC.knowBox 3 rfl (by rw[hL0]; rfl) (fun G1 hle1 hk1 _=>?_)
  have hbox:At ZaY G1 b3 0 a:=At.box hk1 rfl (ZaY.mono hle1 hrep)
  obtain⟨c1,r1,k1⟩:=AtK.fst (AtK.via hbox)
  obtain⟨c2,r2,k2⟩:=AtK.snd (AtK.via hbox)
  refine WC.conseq (S':=St w0 G0 G1 (WrL wb s xs.length++[])) (fun w hs=>hs.weaken ZfX) ?_
  refine sr<|mv rfl rfl<|yy (Y0.ZkT rfl) rfl<|yy (Y0.loadRp ag57 rfl r1 k1) rfl ?_
  refine Z2 [] (Zhv a.num c1) Zd rfl (YC.of E239 rfl) (by rw[List.length_append]; omega) (hrow.mono hle1) r1 hz (fun s1 G2 hle2 hrow1=>?_)
  refine nx<|WC.region<|mv rfl rfl<|yy (Y0.ZkU rfl) rfl<|yy (Y0.loadRp ag57 rfl (Zai.mono hle2 r2) (fun j u h=>hle2 _ _ _ (k2 j u h))) rfl ?_
  refine Z2 [] (Zhv a.den c2) Zd rfl (YC.of E239 rfl) (by rw[List.length_append,List.length_append]; omega) hrow1 (Zai.mono hle2 r2) hz (fun s2 G3 hle3 hrow2=>?_)
  rw[List.append_assoc] at hrow2 ⊢
  exact WL.nil<|WE.retN<|WE.ret0 rfl ⟨rfl,s2,rfl,hrow2⟩
theorem Zna(t:Za)(cs:List Value):WrC 219 (fun _=>[.agg cs.toArray]) (fun G=>Zj.rep G cs t) (termW t):=by
  intro wb xs s hlen
  refine CtrL.enter (args:=[_,_]) (N:=20) func219 rfl rfl rfl (fun w0 G0 hL0 hpre=>?_)
  obtain⟨hrow,hrep⟩:=hpre
  have hz:w0.L.zero:=by rw[hL0]; exact ZbG hrow
  unfold termW at hlen ⊢
  generalize hH:ratW t.c=H at hlen ⊢
  rw[List.length_append,List.length_append] at hlen
  refine sr<|WL.box 3 Zd rfl rfl (fun b3=>nx ?_)
  refine WC.knowBox 3 rfl (by rw[hL0]; rfl) (fun G1 hle1 hk1 _=>?_)
  have hbox:At Zj G1 b3 0 t:=At.box hk1 rfl (Zj.mono hle1 hrep)
  obtain⟨c1,r1,k1⟩:=AtK.fst (AtK.via hbox)
  have hm:=AtK.vec (AtK.snd (AtK.via hbox))
  refine WC.conseq (S':=St w0 G0 G1 (WrL wb s xs.length++[])) (fun w hs=>hs.weaken ZfX) ?_
  refine sr<|mv rfl rfl<|yy (Y0.ZjJ rfl) rfl<|yy (Y0.loadRp ag59 rfl r1 k1) rfl ?_
  refine Z2 [] (ZjB t.c c1) Zd rfl (YC.of E234 rfl) (by rw[hH,List.length_append]; omega) (hrow.mono hle1) r1 hz (fun s1 G2 hle2 hrow1=>?_)
  rw[hH] at hrow1 ⊢
  refine nx<|sr<|yy (Y0.ZjK rfl) rfl<|yy (Y0.loadGA _ ag68 rfl (ZB _ _ _) (fun j v h=>hle2 _ _ _ (hm j v h))) rfl<|mv rfl rfl<|nx<|WC.block ?_
  refine WC.loopH (X:=Nat×(Option Addr×Nat×Option Ow)×Mem) (fun gx=>match gx with|⟨k,_,_⟩=>[(0,.pointer (some ⟨wb,0,none⟩)),(11,.agg (vecG (Value.int .i64) 8 t.m).toArray),(12,.int .i64 (k:Int))])
    (fun gx=>match gx with|⟨k,s',G⟩=>k<=8/\WrR G s' (xs++H++monW t.m k))
    (fun gx=>match gx with|⟨k,s',G⟩=>St w0 G0 G (WrL wb s' (xs++H++monW t.m k).length)) (fun gx=>8-gx.1) ⟨0,s1,G2⟩ (fc rfl (fc rfl (fc rfl fn))) ⟨by omega,by rw[show monW t.m 0=[] from rfl,List.append_nil]; exact hrow1⟩ (fun w hs=>by show St _ _ _ (WrL wb s1 (xs++H++monW t.m 0).length) _; rw[show monW t.m 0=[] from rfl,List.append_nil]; exact hs) ?_
  rintro⟨k,s',G⟩ ⟨hk,hr⟩
  dsimp only at hk hr ⊢
  have hmon:∀ k j,k<=j->(monW t.m k).length<=(monW t.m j).length:=fun k j h=>by
    induction j with
    | zero=>rw[show k=0 by omega]; exact Nat.le_refl _
    | succ j ih=>
      by_cases e:k=j+1
      . rw[e]; exact Nat.le_refl _
      refine Nat.le_trans (ih (by omega)) ?_
      show _<=(monW t.m j++_).length
      rw[List.length_append]; omega
  refine sr<|yy (Y0.lss rfl rfl) rfl<|nx<|WC.seq ?_
  refine WC.condD (p:=(k:Int)<8) rfl (fun hc=>?_) (fun hc=>?_)
  . have hw:i64.wrap ((k:Int)+1)=((k+1:Nat):Int):=by rw[IntKind.wrap_i64]; omega
    have hi:(0:Int)<=(k:Int)/\(k:Int)<(8:Nat):=⟨by omega,by omega⟩
    have h8:=hmon (k+1) 8 (by omega)
    have hs8:(monW t.m (k+1)).length=(monW t.m k).length+(natW (u64.wrap (getF t.m (k:Int)))).length:=List.length_append
    refine WC.skip<|WE.then<|WC.seq<|WC.block<|sr<|yy (Y0.index underlying68 sc3 sz3 rfl rfl hi (ZfW _ _ _ hi)) rfl<|sg rfl rfl<|nx<|WC.region<|mv rfl rfl<|mv rfl rfl<|yy (Y0.conv underlying3 underlying164 rfl) rfl ?_
    refine WL.conseq (S':=St w0 G0 G (WrL wb s' (xs++H++monW t.m k).length++[])) (fun w hs=>hs) ?_
    refine Z2 [] (ZcA _ (u64r _)) Zd rfl (YC.of E194 rfl) (by rw[List.length_append,List.length_append,List.length_append]; omega) hr trivial hz (fun s2 G3 hle3 hr2=>?_)
    refine WL.nil<|WE.inBlock<|WE.then<|WC.region<|yy (Y0.add rfl rfl) rfl ?_
    rw[hw]
    rw[List.append_assoc (xs++H)] at hr2 ⊢
    exact mv rfl rfl<|WL.nil<|WE.backH (x:=(k,s',G)) (k+1,s2,G3) ⟨by omega,hr2⟩ (fc rfl (fc rfl (fc rfl fn))) (fun w hs=>hs) (by show 8-(k+1)<8-k; omega)
  have hke:k=8:=by omega
  subst hke
  rw[List.append_assoc] at hr ⊢
  exact WC.exit<|WE.thenExit<|WE.thenExit<|WE.exitHere<|WE.retN<|WE.ret0 rfl ⟨rfl,s',rfl,hr⟩
theorem Zm9{wb n:Nat}{s:Option Addr×Nat×Option Ow}{x:Ow}{y:Option Ow}:Lo.sub (WrL wb s n++[(7,some x)]) ((7,some x)::(7,y)::(WrL wb s n++[])):=
  show Lo.sub [(6000,some ⟨wb,.cells #[.slice s.1 n s.2.1] 158 (0,0),0⟩),(5000,s.2.2),(7,some x)] _ from lc rfl (lc rfl (lc rfl ln))
theorem ZmE{wb n:Nat}{s:Option Addr×Nat×Option Ow}{x:Option Ow}:Lo.sub (WrL wb s n) (WrL wb s n++[(7,x)]):=
  show Lo.sub [(6000,some ⟨wb,.cells #[.slice s.1 n s.2.1] 158 (0,0),0⟩),(5000,s.2.2)] _ from lc rfl (lc rfl ln)
theorem ZjL{α:Type}(f:α->List Int)(l:List α)(k:Nat):((l.take k).flatMap f).length<=(l.flatMap f).length:=by
  have:=congrArg List.length (congrArg (List.flatMap f) (List.take_append_drop k l))
  rw[List.flatMap_append,List.length_append] at this
  omega
theorem ZdZ{α:Type}(f:α->List Int){l:List α}{k:Nat}(h:k<l.length):(l.take (k+1)).flatMap f=(l.take k).flatMap f++f l[k]:=by
  rw[List.take_succ_eq_append_getElem h,List.flatMap_append]; simp
theorem ZmG(l:List Za)(p:Option Addr)(c:Nat):WrC 218 (fun wb=>[.slice p l.length c,.func (.func 219) #[.pointer (some ⟨wb,0,none⟩)] #[]]) (fun G=>SlR Zj G (.slice p l.length c) l) (polyW l):=by
  intro wb xs s hlen
  refine CtrL.enter (args:=[_,_,_]) (N:=23) func218 rfl rfl rfl (fun w0 G0 hL0 hpre=>?_)
  obtain⟨hrow,hsl⟩:=hpre
  have hz:w0.L.zero:=by rw[hL0]; exact ZbG hrow
  have hll:l.length<=9223372036854775807:=by obtain⟨_,_,_,_,h,_⟩:=hsl; omega
  unfold polyW at hlen ⊢
  generalize hH:natW (u64.wrap (l.length:Int))=H at hlen ⊢
  rw[List.length_append,List.length_append] at hlen
  refine sr<|mv rfl rfl<|mv rfl rfl<|yy (Y0.lenC underlying64 rfl) rfl<|yy (Y0.conv underlying3 underlying164 rfl) rfl ?_
  refine WL.conseq (S':=St w0 G0 G0 (WrL wb s xs.length++[])) (fun w hs=>hs) ?_
  refine Z2 [] (ZcA _ (u64r _)) Zd rfl (YC.of E194 rfl) (by rw[hH,List.length_append]; omega) hrow trivial hz (fun s1 G2 hle2 hrow1=>?_)
  rw[hH] at hrow1 ⊢
  refine nx<|sr<|mv rfl rfl<|yy (Y0.lenC underlying64 rfl) rfl<|mv rfl rfl<|nx<|WC.block ?_
  refine WC.loopH (X:=Nat×(Option Addr×Nat×Option Ow)×Mem) (fun gx=>match gx with|⟨k,_,_⟩=>[(0,.pointer (some ⟨wb,0,none⟩)),(2,.func (.func 219) #[.pointer (some ⟨wb,0,none⟩)] #[]),(13,.slice p l.length c),(14,.int .i64 (l.length:Int)),(15,.int .i64 (k:Int))])
    (fun gx=>match gx with|⟨k,s',G⟩=>k<=l.length/\Mem.le G0 G/\WrR G s' (xs++H++(l.take k).flatMap termW))
    (fun gx=>match gx with|⟨k,s',G⟩=>St w0 G0 G (WrL wb s' (xs++H++(l.take k).flatMap termW).length)) (fun gx=>l.length-gx.1) ⟨0,s1,G2⟩ (fc rfl (fc rfl (fc rfl (fc rfl (fc rfl fn))))) ⟨Nat.zero_le _,hle2,by rw[List.take_zero,List.flatMap_nil,List.append_nil]; exact hrow1⟩ (fun w hs=>by show St _ _ _ (WrL wb s1 (xs++H++(l.take 0).flatMap termW).length) _; rw[List.take_zero,List.flatMap_nil,List.append_nil]; exact hs) ?_
  rintro⟨k,s',G⟩ ⟨hk1',hle,hr⟩
  dsimp only at hk1' hle hr ⊢
  refine sr<|yy (Y0.lss rfl rfl) rfl<|nx<|WC.seq ?_
  refine WC.condD (p:=(k:Int)<(l.length:Int)) rfl (fun hc=>?_) (fun hc=>?_)
  . have hkl:k<l.length:=by omega
    have hx:(0:Int)<=(k:Int)/\l[(k:Int).toNat]? = some l[k]:=⟨by omega,by simp[hkl]⟩
    have hw:i64.wrap ((k:Int)+1)=((k+1:Nat):Int):=by rw[IntKind.wrap_i64]; omega
    have hfl:=ZjL termW l (k+1)
    rw[ZdZ termW hkl,List.length_append] at hfl
    obtain⟨ct,rt,kt⟩:=SlR.at (hsl.mono hle) hx
    refine WC.skip<|WE.then<|WC.seq<|WC.block<|sr<|yy (Y0.idxR underlying64 sz119 (hsl.mono hle) rfl rfl hx) rfl<|yy (Y0.loadRp ag119 rfl rt kt) rfl ?_
    refine WL.alloc 7 Zd z119 rfl (fun b7=>?_)
    refine WL.storeLA 7 Zd sz119 rfl rfl rfl rfl (by rw[List.size_toArray]; exact Zj.len rt) (fun u hu=>Zj.one rt u (by simpa using hu)) ?_
    refine WL.conseq (fun w hs=>hs.weaken Zm9) ?_
    refine nx<|WC.region<|mv rfl rfl<|yy (Y0.loadLA 7 ag119 rfl rfl (by rw[List.size_toArray]; exact Zj.len rt)) rfl ?_
    refine Z2 [(7,_)] (Zna l[k] ct) Zd rfl (YC.ofB E219 rfl rfl) (by simp only[List.length_append]; omega) hr rt hz (fun s2 G3 hle3 hr2=>?_)
    refine WL.nil<|WE.inBlock<|WE.then<|WC.region<|yy (Y0.add rfl rfl) rfl ?_
    rw[hw]
    rw[List.append_assoc (xs++H),<- ZdZ termW hkl] at hr2 ⊢
    exact mv rfl rfl<|WL.nil<|WE.backH (x:=(k,s',G)) (k+1,s2,G3) ⟨by omega,Mem.le_trans hle hle3,hr2⟩ (fc rfl (fc rfl (fc rfl (fc rfl (fc rfl fn))))) (fun w hs=>hs.weaken ZmE) (by show l.length-(k+1)<l.length-k; omega)
  have hke:k=l.length:=by omega
  subst hke
  rw[List.take_length,List.append_assoc] at hr ⊢
  exact WC.exit<|WE.thenExit<|WE.thenExit<|WE.exitHere<|WE.retN<|WE.ret0 rfl ⟨rfl,s',rfl,hr⟩
theorem Zm8(l:List Za)(p:Option Addr)(c:Nat):WrC 196 (fun _=>[.slice p l.length c]) (fun G=>SlR Zj G (.slice p l.length c) l) (polyW l):=by
  intro wb xs s hlen
  refine CtrL.enter (args:=[_,_]) (N:=9) func196 rfl rfl rfl (fun w0 G0 hL0 hpre=>?_)
  obtain⟨hrow,hsl⟩:=hpre
  refine WC.region<|mv rfl rfl<|mv rfl rfl<|mv rfl rfl<|yy (Y0.makeFunc rfl rfl) rfl ?_
  refine WL.conseq (S':=St w0 G0 G0 (WrL wb s xs.length++[])) (fun w hs=>hs) ?_
  refine Z2 [] (ZmG l p c) Zd rfl (YC.of E218 rfl) hlen hrow hsl (by rw[hL0]; exact ZbG hrow) (fun s' G' hle hrow'=>?_)
  exact WL.nil<|WE.retN<|WE.ret0 rfl ⟨rfl,s',rfl,hrow'⟩
theorem ZmF(l:List (List Za))(p:Option Addr)(c:Nat):WrC 195 (fun wb=>[.slice p l.length c,.func (.func 196) #[.pointer (some ⟨wb,0,none⟩)] #[]]) (fun G=>SlR RP G (.slice p l.length c) l) (polysW l):=by
  intro wb xs s hlen
  refine CtrL.enter (args:=[_,_,_]) (N:=23) func195 rfl rfl rfl (fun w0 G0 hL0 hpre=>?_)
  obtain⟨hrow,hsl⟩:=hpre
  have hz:w0.L.zero:=by rw[hL0]; exact ZbG hrow
  have hll:l.length<=9223372036854775807:=by obtain⟨_,_,_,_,h,_⟩:=hsl; omega
  unfold polysW at hlen ⊢
  generalize hH:natW (u64.wrap (l.length:Int))=H at hlen ⊢
  rw[List.length_append,List.length_append] at hlen
  refine sr<|mv rfl rfl<|mv rfl rfl<|yy (Y0.lenC underlying25 rfl) rfl<|yy (Y0.conv underlying3 underlying164 rfl) rfl ?_
  refine WL.conseq (S':=St w0 G0 G0 (WrL wb s xs.length++[])) (fun w hs=>hs) ?_
  refine Z2 [] (ZcA _ (u64r _)) Zd rfl (YC.of E194 rfl) (by rw[hH,List.length_append]; omega) hrow trivial hz (fun s1 G2 hle2 hrow1=>?_)
  rw[hH] at hrow1 ⊢
  refine nx<|sr<|mv rfl rfl<|yy (Y0.lenC underlying25 rfl) rfl<|mv rfl rfl<|nx<|WC.block ?_
  refine WC.loopH (X:=Nat×(Option Addr×Nat×Option Ow)×Mem) (fun gx=>match gx with|⟨k,_,_⟩=>[(0,.pointer (some ⟨wb,0,none⟩)),(2,.func (.func 196) #[.pointer (some ⟨wb,0,none⟩)] #[]),(13,.slice p l.length c),(14,.int .i64 (l.length:Int)),(15,.int .i64 (k:Int))])
    (fun gx=>match gx with|⟨k,s',G⟩=>k<=l.length/\Mem.le G0 G/\WrR G s' (xs++H++(l.take k).flatMap polyW))
    (fun gx=>match gx with|⟨k,s',G⟩=>St w0 G0 G (WrL wb s' (xs++H++(l.take k).flatMap polyW).length)) (fun gx=>l.length-gx.1) ⟨0,s1,G2⟩ (fc rfl (fc rfl (fc rfl (fc rfl (fc rfl fn))))) ⟨Nat.zero_le _,hle2,by rw[List.take_zero,List.flatMap_nil,List.append_nil]; exact hrow1⟩ (fun w hs=>by show St _ _ _ (WrL wb s1 (xs++H++(l.take 0).flatMap polyW).length) _; rw[List.take_zero,List.flatMap_nil,List.append_nil]; exact hs) ?_
  rintro⟨k,s',G⟩ ⟨hk1',hle,hr⟩
  dsimp only at hk1' hle hr ⊢
  refine sr<|yy (Y0.lss rfl rfl) rfl<|nx<|WC.seq ?_
  refine WC.condD (p:=(k:Int)<(l.length:Int)) rfl (fun hc=>?_) (fun hc=>?_)
  . have hkl:k<l.length:=by omega
    have hx:(0:Int)<=(k:Int)/\l[(k:Int).toNat]? = some l[k]:=⟨by omega,by simp[hkl]⟩
    have hw:i64.wrap ((k:Int)+1)=((k+1:Nat):Int):=by rw[IntKind.wrap_i64]; omega
    have hfl:=ZjL polyW l (k+1)
    rw[ZdZ polyW hkl,List.length_append] at hfl
    obtain⟨q,qc,qe,qh⟩:=AtK.sl (SlR.at (hsl.mono hle) hx)
    refine WC.skip<|WE.then<|WC.seq<|WC.block<|sr<|yy (Y0.idxR underlying25 sz65 (hsl.mono hle) rfl rfl hx) rfl<|yy (Y0.loadG sc65 rfl qe) rfl ?_
    refine sg rfl rfl<|nx<|WC.region<|mv rfl rfl<|mv rfl rfl ?_
    refine WL.conseq (S':=St w0 G0 G (WrL wb s' (xs++H++(l.take k).flatMap polyW).length++[])) (fun w hs=>hs) ?_
    refine Z2 [] (Zm8 l[k] q qc) Zd rfl (YC.ofB E196 rfl rfl) (by simp only[List.length_append]; omega) hr qh hz (fun s2 G3 hle3 hr2=>?_)
    refine WL.nil<|WE.inBlock<|WE.then<|WC.region<|yy (Y0.add rfl rfl) rfl ?_
    rw[hw]
    rw[List.append_assoc (xs++H),<- ZdZ polyW hkl] at hr2 ⊢
    exact mv rfl rfl<|WL.nil<|WE.backH (x:=(k,s',G)) (k+1,s2,G3) ⟨by omega,Mem.le_trans hle hle3,hr2⟩ (fc rfl (fc rfl (fc rfl (fc rfl (fc rfl fn))))) (fun w hs=>hs) (by show l.length-(k+1)<l.length-k; omega)
  have hke:k=l.length:=by omega
  subst hke
  rw[List.take_length,List.append_assoc] at hr ⊢
  exact WC.exit<|WE.thenExit<|WE.thenExit<|WE.exitHere<|WE.retN<|WE.ret0 rfl ⟨rfl,s',rfl,hr⟩
theorem Zjg(l:List (List Za))(p:Option Addr)(c:Nat):WrC 166 (fun _=>[.slice p l.length c]) (fun G=>SlR RP G (.slice p l.length c) l) (polysW l):=by
  intro wb xs s hlen
  refine CtrL.enter (args:=[_,_]) (N:=9) func166 rfl rfl rfl (fun w0 G0 hL0 hpre=>?_)
  obtain⟨hrow,hsl⟩:=hpre
  refine WC.region<|mv rfl rfl<|mv rfl rfl<|mv rfl rfl<|yy (Y0.makeFunc rfl rfl) rfl ?_
  refine WL.conseq (S':=St w0 G0 G0 (WrL wb s xs.length++[])) (fun w hs=>hs) ?_
  refine Z2 [] (ZmF l p c) Zd rfl (YC.of E195 rfl) hlen hrow hsl (by rw[hL0]; exact ZbG hrow) (fun s' G' hle hrow'=>?_)
  exact WL.nil<|WE.retN<|WE.ret0 rfl ⟨rfl,s',rfl,hrow'⟩
theorem Zm7(k:Ze)(hn:0<=k.n)(cs:List Value):WrC 109 (fun _=>[.agg cs.toArray]) (fun G=>ZbT.rep G cs k) (coreW k):=by
  intro wb xs s hlen
  refine CtrL.enter (args:=[_,_]) (N:=16) func109 rfl rfl rfl (fun w0 G0 hL0 hpre=>?_)
  obtain⟨hrow,hrep⟩:=hpre
  have hz:w0.L.zero:=by rw[hL0]; exact ZbG hrow
  unfold coreW at hlen ⊢
  simp only[List.length_append] at hlen
  refine sr<|WL.box 3 Zd rfl rfl (fun b3=>nx ?_)
  refine WC.knowBox 3 rfl (by rw[hL0]; rfl) (fun G1 hle1 hk1 _=>?_)
  have hbox:At ZbT G1 b3 0 k:=At.box hk1 rfl (ZbT.mono hle1 hrep)
  obtain⟨p1,c1,p2,c2,hk,h1,h2⟩:=Zjt hbox
  refine WC.conseq (S':=St w0 G0 G1 (WrL wb s xs.length++[])) (fun w hs=>hs.weaken ZfX) ?_
  refine sr<|mv rfl rfl<|yy (Y0.Zg6 rfl) rfl<|yy (Y0.loadG sc3 rfl (hk 0 _ rfl)) rfl ?_
  refine Z2 [] (ZlK k.n hn) Zd rfl (YC.of E165 rfl) (by simp only[List.length_append]; omega) (hrow.mono hle1) trivial hz (fun s1 G2 hle2 hrow1=>?_)
  refine nx<|sr<|mv rfl rfl<|yy (Y0.ZiH rfl) rfl<|yy (Y0.loadG sc25 rfl (hle2 _ _ _ (hk 1 _ rfl))) rfl ?_
  refine Z2 [] (Zjg k.eqs p1 c1) Zd rfl (YC.of E166 rfl) (by simp only[List.length_append]; omega) hrow1 (h1.mono hle2) hz (fun s2 G3 hle3 hrow2=>?_)
  refine nx<|WC.region<|mv rfl rfl<|yy (Y0.ZiI rfl) rfl<|yy (Y0.loadG sc25 rfl (hle3 _ _ _ (hle2 _ _ _ (hk 2 _ rfl)))) rfl ?_
  refine Z2 [] (Zjg k.neqs p2 c2) Zd rfl (YC.of E166 rfl) (by simp only[List.length_append]; omega) hrow2 (h2.mono (Mem.le_trans hle2 hle3)) hz (fun s3 G4 hle4 hrow3=>?_)
  have e:xs++numW k.n++polysW k.eqs++polysW k.neqs=xs++(numW k.n++polysW k.eqs++polysW k.neqs):=by simp only[List.append_assoc]
  rw[e] at hrow3 ⊢
  exact WL.nil<|WE.retN<|WE.ret0 rfl ⟨rfl,s3,rfl,hrow3⟩
theorem Zji(k:Ze)(p1:Option Addr)(c1:Nat)(p2:Option Addr)(c2:Nat)(r:ByteArray)(hr:(Zfg k).Ret r):Ctr prog 56 #[.agg ([.int .i64 k.n,.slice p1 k.eqs.length c1,.slice p2 k.neqs.length c2]).toArray] (fun G=>SlR RP G (.slice p1 k.eqs.length c1) k.eqs/\SlR RP G (.slice p2 k.neqs.length c2) k.neqs) (fun G v=>v = .string r):=by
  refine Ctr.enter (args:=[_]) (N:=12) func56 rfl rfl rfl (fun w0 G0 hL0 hpre=>?_)
  obtain⟨h1,h2⟩:=hpre
  obtain⟨v,hv,hr⟩:=hr
  have h0:∀ i,w0.L.get i=none:=fun i=>by rw[hL0]; rfl
  have hz:w0.L.zero:=by rw[hL0]; intro q hq; cases hq
  refine sr<|WL.box 1 Zd rfl rfl (fun b1=>?_)
  refine sg rfl rfl<|nx ?_
  refine WC.knowBox 1 rfl (h0 _) (fun G1 hle1 hk1 _=>?_)
  have hrep:ZbT.rep G1 [.int .i64 k.n,.slice p1 k.eqs.length c1,.slice p2 k.neqs.length c2] k:=⟨[_],[_,_],rfl,rfl,⟨[_],[_],rfl,⟨_,rfl,h1.mono hle1⟩,⟨_,rfl,h2.mono hle1⟩⟩⟩
  have hk:∀ j u,([.int .i64 k.n,.slice p1 k.eqs.length c1,.slice p2 k.neqs.length c2]:List Value)[j]? = some u->G1 b1 (0+j)=some u:=fun j u h=>by rw[Nat.zero_add]; exact hk1 j u (by simpa [Value.cells] using h)
  refine WC.conseq (S':=St w0 G0 G1 []) (fun w hs=>hs.weaken ln) ?_
  refine WC.seq<|sr<|yy (Y0.loadRp ag28 rfl hrep hk) rfl ?_
  refine WL.call0 Zd rfl (YC.of E15 rfl) (ZeY _ _ _ _ _ _ hv) rfl ⟨h1.mono hle1,h2.mono hle1⟩ ?_
  refine yy (Y0.not rfl) rfl<|nx ?_
  refine WC.cond (b:=!v) rfl (fun hc=>?_) (fun hc=>?_)
  . have hv0:v=false:=by cases v <;> simp_all
    subst hv0
    replace hr:_=r:=hr
    subst hr
    exact sr<|sg rfl rfl<|nx<|WC.ret<|WE.thenRet<|WE.ret1 rfl rfl rfl
  have hv0:v=true:=by cases v <;> simp_all
  subst hv0
  obtain⟨⟨hn,hlen⟩,hr⟩:=hr
  replace hr:_=r:=hr
  subst hr
  refine WC.skip<|WE.then<|sr<|WL.alloc 6000 Zd z158 rfl (fun wb=>?_)
  refine WL.conseq (S':=St w0 G0 G1 (WrL wb (none,0,none) ([]:List Int).length++[])) (fun w hs=>hs.weaken (show Lo.sub [(6000,some ⟨wb,.cells #[.slice none 0 0] 158 (0,0),0⟩),(5000,none)] _ from lc rfl (lw ln))) ?_
  refine nx<|sr<|yy (Y0.loadRp ag28 rfl hrep hk) rfl ?_
  refine Z2 [] (Zm7 k hn _) Zd rfl (YC.of E109 rfl) hlen RowR.nil hrep hz (fun s' G' hle hrow=>?_)
  refine nx<|sr<|yy (Y0.ZcG rfl) rfl<|yy (Y0.loadL 6000 sc35 rfl rfl rfl) rfl ?_
  refine WL.freezeT 5000 hrow rfl (h0 _) (fun tk4 G4 hle4 hsl4 _=>?_)
  refine yy (Y0.convBS underlying35 underlying5 underlying9 hsl4 rfl) rfl<|sg rfl rfl<|nx<|WC.ret ?_
  exact WE.ret1 rfl rfl rfl
theorem cr'{t f e j h r}(hr:(Zz t).Ret r):CtrL prog 192 #[.slice f j e,.func (.func 193) #[] #[]] [(5000,h)] (fun G=>RowR a' 119 G (.slice f j e) t h) (fun G L v=>∃ k,L=[(5000,k)]/\v = .tuple #[]/\RowR a' 119 G (.slice f j e) r k):=by
 refine cd' (args:=[_,_]) (N:=14) func192 z z z (fun q A u m=>?_)
 have d:=m
 have hz:q.L.zero:=by
  rw[u]; intro p o x B
  simp only[List.mem_cons,List.not_mem_nil,or_false] at o
  subst o; exact df' d B
 refine sr<|mv z z<|yy (Y0.lenRow C' d z) z<|sx0 z z<|x'<|mv z z<|mv z z<|mv z z<|yy (av' aD' dg' z) z ?_
 obtain⟨F,n,hr⟩:=hr
 refine K' z z (m' E187 z) (ej' n) z (trivial)<|mv z z ?_
 obtain⟨E,l,hr⟩:=hr
 refine cf' z z (m' E217 z) (cz' l) z (d) (lc z ln) hz (fun D s C y c=>?_)
 obtain⟨i,rfl,rfl,g⟩:=c
 refine q'<|WE.retN ?_
 obtain rfl:_=r:=hr
 refine cg' (S':=St q A s [(5000,i)]) (w1 z)<|WE.ret0 z  ⟨_,z,z,g⟩
theorem eD'{A t h r}(hr:(ZbL A).Ret r):CtrL prog 164 #[.map (some t)] [(5500,h)] (fun G=>MapR ky68 (RvA bE' G) (.map (some t)) A h) (fun G L v=>L=[(5500,h)]/\(∃ zp zc,v = .slice zp r.length zc/\sl a' G zp zc r)):=by
 refine cd' (args:=[_]) (N:=28) func164 z z z (fun w0 U J al=>?_)
 have C:=al
 have hz:w0.L.zero:=by
  rw[J]; intro p hp x hx
  simp only[List.mem_cons,List.not_mem_nil,or_false] at hp
  subst hp; exact MapR.zero C hx
 refine sr<|sg z z<|nr<|mv z z<|yy (Y0.lenM 5500 dO' C z z) z ?_
 obtain⟨am,hr⟩:=hr
 refine WL.makeC (r:=a') (e:=119) (n:=(A.length:Int)) 4008 z z C' el119 z (by decide) z z am fun p1 aC ae aw=>sx0 z z<|g'<|sr<|mv z z<|WL.rangeM 5500 4010 z z dO' C z z fun ac aa ah=>nx<|ab' (fun (⟨B,I,H,y,K⟩:(List Za)×Option Addr×Nat×Option Ow×Mem)=>[(3,.slice I B.length H),(0,.map (some t))]) (fun ⟨B,I,H,y,K⟩=>Mem.le U K/\RowR a' 119 K (.slice I B.length H) B y/\(ZaV B).Ret r) (fun ⟨B,I,H,y,K⟩=>St w0 U K [(4003,y),(5500,h)]) ?_ ?_
 .refine y' ?_
  let X:(List Za)->Prop:=fun oo=>((fun ov=>match ov with|B=>ZaV B:(List Za)->Cq (List Za)) oo).wp (fun a=>a=r)
  replace hr:(Cq.loop _ _).wp X:=hr
  refine ac' (Φ:=X) (fun (⟨m,q,o,l,S,D,s⟩:(List Za)×Option Addr×Nat×Option Ow×List ((Fin 8->Int)×Zf)×Option Ow×Mem)=>((m,S):(List Za)×List ((Fin 8->Int)×Zf))) (fun ⟨m,q,o,l,S,D,s⟩=>[(3,.slice q m.length o),(0,.map (some t)),(10,ac)]) (fun ⟨m,q,o,l,S,D,s⟩=>Mem.le U s/\RowR a' 119 s (.slice q m.length o) m l/\IterR ky68 (RvA bE' s) h ac S none D) (fun ⟨m,q,o,l,S,D,s⟩=>St w0 U s [(4003,l),(5500,h),(4010,D)]) ⟨([]:List Za),p1,aC,ae,A,aa,U⟩ hr (f3 z z z) ⟨mr,aw,(IterR.forget ah)⟩ ?_ ?_
  .intro w Q
   have Q:=Q.rekey (i:=4008) (j:=4003) z (by rw[J]; rfl)
   exact Q.weaken (lc z (lc z (lc z ln)))
  intro aW gx hx hr
  obtain⟨m,q,o,l,S,D,s⟩:=gx
  obtain⟨M,P,an⟩:=hx
  refine sr<|WL.nextM 5500 4010 z z an z z z (fun Ra k Rb V Z R aP aR=>?_) (fun Z=>?_)
  .replace hr:=hr.2 _ _ _ Z
   generalize Ra++Rb=R2 at hr R
   refine yy (R' z z) z<|nx<|g'<|aB' z<|n'<|b'<|y'<|sr<|WL.entryM 5500 4010 z z R z z z (fun u1 aA aV=>?_)
   obtain⟨a0,rfl,aD⟩:=aA
   obtain⟨c,g,f,d,rfl,F,E⟩:=Zj9 aD
   refine yy (R' z z) z<|yy (R' z z) z<|X' 4 z z68 z fun b1=>X' 5 z z59 z fun b2=>B' 4 z sz68 z z z (Q' _ _ _) (Q' _ _ _) (fun u hu=>Rp.one (bD' .i64 8) (G:=s) (x:=k.1) (cs:=vecG (Value.int .i64) 8 k.1) z u (by first|simpa using hu|simpa [Value.cells] using hu))<|B' 5 z ch' z z z z z (List.all_eq_true.1 z)<|nr<|yy (D' 5 bc' z z z) z ?_
   obtain⟨aX,aj,hr⟩:=hr
   refine K' z z (m' E91 z) (cm' aj) z (⟨F,E⟩)<|yy (bp' z z) z<|nx<|P' hr z (fun aE hr=>?_) (fun aE hr=>?_)
   .refine x'<|mv z z<|yy (D' 5 bc' z z z) z<|yy (D' 4 bo' z z (Q' _ _ _)) z<|yy (au' (vs:=#[(0,.agg ((v59' k.2 c g f d)).toArray),(1,.agg (vecG (Value.int .i64) 8 k.1).toArray)]) (v:=.agg (((v59' k.2 c g f d):List Value)++(vecG (Value.int .i64) 8 k.1)).toArray) z z (fun _=>by kernel_rfl)) z<|aF' (e:=119) (r:=a') (vs:=#[(0,.agg (((v59' k.2 c g f d):List Value)++(vecG (Value.int .i64) 8 k.1)).toArray)]) (cs:=(((v59' k.2 c g f d):List Value)++(vecG (Value.int .i64) 8 k.1))++([])) ([(Za.mk k.2 k.1)]:List Za) z z z z z (by decide) (fun _=>by kernel_rfl) ⟨((v59' k.2 c g f d):List Value)++(vecG (Value.int .i64) 8 k.1),[],z,⟨(v59' k.2 c g f d),vecG (Value.int .i64) 8 k.1,z,⟨(v57' k.2.num c g),(v57' k.2.den f d),z,⟨[.bool k.2.num.neg],[.slice c k.2.num.mag.length g],z,z,⟨_,z,F⟩⟩,⟨[.bool k.2.den.neg],[.slice f k.2.den.mag.length d],z,z,⟨_,z,E⟩⟩⟩,z⟩,z⟩ (key:=999) z (by rw[J]; rfl) (fun p2 ao O ay=>?_)
    obtain⟨ag,hr⟩:=hr
    refine dl' (r:=a') (e:=119) 4003 z z C' el119 z (by decide) z z (P.mono O) z ay ag fun p3 au ad ax=>sg z z<|q'<|F'<|T' ⟨(m++[(Za.mk k.2 k.1)]),p3,au,ad,R2,V,ao⟩ hr ⟨(mx M O),ax,(IterR.forget (IterR.monoA R O))⟩ (f3 z z z) (w3 z z z)
   refine n'<|F'<|T' ⟨m,q,o,l,R2,V,s⟩ hr ⟨M,P,(IterR.forget R)⟩ (f3 z z z) (w3 z z z)
  replace hr:=hr.1 Z
  refine yy (R' z z) z<|nx<|g'<|bw' z<|ae'<|h'<|h'<|I'<|af' ⟨m,q,o,l,s⟩ ⟨M,P,hr⟩ (f2 z z) (w2 z z)
 rintro⟨B,I,H,y,K⟩ ⟨aG,ak,hr⟩
 refine b'<|sr<|mv z z ?_
 obtain⟨aZ,ai,hr⟩:=hr
 refine dy' (fun w Q=>Q.rekey (i:=4003) (j:=5000) z (by rw[J]; rfl))<|cf' z z (m' E192 z) (cr' ai) z (ak) (lc z ln) hz (fun aQ aY aM aI T=>?_)
 obtain⟨av,rfl,rfl,W⟩:=T
 refine dy' (fun w Q=>Q.rekey (i:=5000) (j:=4003) z (by rw[J]; rfl))<|nr<|mv z z<|sx0 z z<|k' ?_
 obtain rfl:_=r:=hr
 refine WE.freezeT (r:=a') (e:=119) 4003 W z (by rw[J]; rfl) fun aU ap aF Y aH=>cg' (S':=St w0 U ap [(5500,h)]) (w1 z)<|j' z z ⟨z,⟨_,_,(cX' Y),(cY' Y)⟩⟩
theorem ev'{F g O P r}(hr:(Zbp F g).Ret r):Ctr prog 108 #[.slice O F.length P,.agg (vecG (Value.int .i64) 8 g).toArray] (fun G=>sl a' G O P F) (wlt' a' r):=by
 refine H' (args:=[_,_]) (N:=59) func108 z z z (fun X W ad aA=>?_)
 have ae:=aA
 have hz:X.L.zero:=by rw[ad]; intro p hp; simp at hp
 refine sr<|ai' 3 z z z fun R=>sg z z<|sg z z<|nr<|X' 6 z z111 z fun b2=>nx<|g'<|sr<|yy (D' 3 ag44 z z (Q' _ _ _)) z<|mv z z<|nx<|ab' (fun (o:Mem)=>match o with|D=>[(0,.slice O F.length P),(3,pt0 R)]) (fun (o:Mem)=>match o with|D=>Mem.le W D/\(Z8 F g).Ret r) (fun (o:Mem)=>match o with|D=>St X W D [(3,bk0 R (vecG (Value.int .i64) 8 g) 44)]) ?_ ?_
 .refine y' ?_
  let ah:(((List Za)×Int)⊕Unit)->Prop:=fun oo=>((fun ov=>match ov with | .inl rv1=>Cq.ret rv1 | .inr ()=>Z8 F g:(((List Za)×Int)⊕Unit)->Cq ((List Za)×Int)) oo).wp (fun a=>a=r)
  replace hr:(Cq.loop _ _).wp ah:=hr
  refine ac' (Φ:=ah) (fun (⟨q,I,J⟩:Int×(Fin 8->Bool)×Mem)=>((q,I):Int×(Fin 8->Bool))) (fun ⟨q,I,J⟩=>[(0,.slice O F.length P),(3,pt0 R),(6,pt0 b2),(15,.agg (vecG (Value.int .i64) 8 g).toArray),(16,i' q)]) (fun ⟨q,I,J⟩=>Mem.le W J) (fun ⟨q,I,J⟩=>St X W J [(3,bk0 R (vecG (Value.int .i64) 8 g) 44),(6,bk0 b2 (vecG Value.bool 8 I) 111)]) ⟨0,(fun _=>false),W⟩ hr (f5 z z z z z) mr (w2 z z) ?_
  .intro aX o hx hr
   obtain⟨q,I,J⟩:=o
   have Z:=hx
   refine sr<|yy (aa' z z) z<|nx<|g'<|P' hr z (fun aI hr=>?_) (fun aI hr=>?_)
   .refine n'<|b'<|g'<|y'<|sr ?_
    obtain⟨ap,hr⟩:=hr
    refine yy (Y0.index aZ' sc3 sz3 z z ap (bh' _ _ _ ap)) z<|sx0 z z<|g'<|sr<|mv z z<|aE' hr z (aa' z z) z (fun aO hr=>?_) (fun aO hr=>?_)
    .refine mv z z<|sn2 z<|yy (w' z z) z<|mv z z<|sn3 z<|yy (w' z z) z<|nx<|aB' z<|sr<|sg z z<|sx0 z z<|k'<|f'<|A'<|f'<|f'<|A'<|an'<|f' ?_
     obtain rfl:_=r:=hr
     exact bd' z z z ⟨_,_,z,(ay' a' _)⟩
    refine mv z z<|gy z z (c' z) z<|aE' hr (E' z z) (bH' z z) z (fun aH hr=>?_) (fun aH hr=>?_)
    .refine yy (t' z z) z<|mv z z<|sn3 z<|yy (w' z z) z<|nx<|aB' z<|sr<|sg z z<|sx0 z z<|k'<|f'<|A'<|f'<|f'<|A'<|an'<|f' ?_
     obtain rfl:_=r:=hr
     exact bd' z z z ⟨_,_,z,(ay' a' _)⟩
    refine yy (t' z z) z<|mv z z<|gy z z (c' z) z ?_
    obtain⟨aq,hr⟩:=hr
    refine gy z z (aT' cy' sz4 z z aq) z<|gy z z (o' 6 sc4 z z (bh' _ _ _ aq)) z<|yy (t' z z) z<|nx<|aK' hr z (fun aF hr=>?_) (fun aF hr=>?_)
    .exact (show False from hr).elim
    refine n'<|b'<|x'<|mv z z ?_
    obtain⟨aE,hr⟩:=hr
    refine yy (aT' cy' sz4 z z aE) z<|by' 6 (vecG Value.bool 8 (setF I ((getF g q).toNat) true)).toArray z sz4 z z z (by first|(rw[Q']; omega)|(show _<(vecG _ _ _).toArray.size; rw[Q']; omega)) z (cL' _ _ _ _ _)<|q'<|F'<|b'<|x'<|yy (W' z z) z<|mv z z<|q'<|T' ⟨i64.wrap (q+1),setF I ((getF g q).toNat) true,J⟩ hr Z (f5 z z z z z) (w2 z z)
   refine ae'<|h'<|h'<|I'<|af' J ⟨Z,hr⟩ (f2 z z) (w1 z)
 rintro D ⟨V,hr⟩
 refine b'<|sr<|WL.makeMap (ky:=ky68) (Rv:=RvA bE' D) 4033 z z fun S ak au=>sx0 z z<|g'<|sr<|mv z z<|yy (O' C' (ae.mono V) z) z<|mv z z<|nx<|ab' (fun (o:(List ((Fin 8->Int)×Zf))×Option Ow×Mem)=>match o with|⟨Q,y,T⟩=>[(9,.map (some S))]) (fun (o:(List ((Fin 8->Int)×Zf))×Option Ow×Mem)=>match o with|⟨Q,y,T⟩=>Mem.le D T/\MapR ky68 (RvA bE' T) (.map (some S)) Q y/\(ZaI Q).Ret r) (fun (o:(List ((Fin 8->Int)×Zf))×Option Ow×Mem)=>match o with|⟨Q,y,T⟩=>St X W T [(4033,y)]) ?_ ?_
 .refine y' ?_
  let U:(((List ((Fin 8->Int)×Zf))))->Prop:=fun oo=>((fun ov=>match ov with|Q=>ZaI Q:(((List ((Fin 8->Int)×Zf))))->Cq ((List Za)×Int)) oo).wp (fun a=>a=r)
  replace hr:(Cq.loop _ _).wp U:=hr
  refine ac' (Φ:=U) (fun (o:Int×(List ((Fin 8->Int)×Zf))×Option Ow×Mem)=>match o with|⟨m,v,s,t⟩=>((m,v):Int×(List ((Fin 8->Int)×Zf)))) (fun (o:Int×(List ((Fin 8->Int)×Zf))×Option Ow×Mem)=>match o with|⟨m,v,s,t⟩=>[(3,pt0 R),(34,.slice O F.length P),(35,i' (F.length:Int)),(36,i' m),(9,.map (some S))]) (fun (o:Int×(List ((Fin 8->Int)×Zf))×Option Ow×Mem)=>match o with|⟨m,v,s,t⟩=>Mem.le D t/\MapR ky68 (RvA bE' t) (.map (some S)) v s) (fun (o:Int×(List ((Fin 8->Int)×Zf))×Option Ow×Mem)=>match o with|⟨m,v,s,t⟩=>St X W t [(3,bk0 R (vecG (Value.int .i64) 8 g) 44),(4033,s)]) ⟨0,[],ak,D⟩ hr (f5 z z z z z) ⟨mr,au⟩ (w2 z z) ?_
  .intro an o hx hr
   obtain⟨m,v,s,t⟩:=o
   obtain⟨K,ab⟩:=hx
   refine sr<|yy (aa' z z) z<|nx<|g'<|P' hr z (fun aP hr=>?_) (fun aP hr=>?_)
   .refine n'<|b'<|g'<|y'<|sr ?_
    obtain⟨l,ar,hr⟩:=hr
    refine yy (V' C' aW' (ae.mono (mx V K)) z z ar) z ?_
    obtain⟨c,e,f,d,aD,B,E⟩:=bM' (J' (Z' ae ar) (mx V K))
    refine yy (ao' _ cF' z z aD) z<|X' 11 z z119 z fun b3=>B' 11 z aW' z z z z z (fun u hu=>Rp.one a' (G:=t) (x:=l) (cs:=((v59' l.c c e f d):List Value)++(vecG (Value.int .i64) 8 l.m)) ⟨(v59' l.c c e f d),vecG (Value.int .i64) 8 l.m,z,⟨(v57' l.c.num c e),(v57' l.c.den f d),z,⟨[.bool l.c.num.neg],[.slice c l.c.num.mag.length e],z,z,⟨_,z,B⟩⟩,⟨[.bool l.c.den.neg],[.slice f l.c.den.mag.length d],z,z,⟨_,z,E⟩⟩⟩,z⟩ u (by first|simpa using hu|simpa [Value.cells] using hu))<|nr<|X' 12 z z68 z fun b4=>nx<|g'<|sr<|yy (aM' z) z<|yy (al' (vecG (Value.int .i64) 8 l.m).toArray 11 bo' z z (Q' _ _ _) (ap' ((v59' l.c c e f d)) (vecG (Value.int .i64) 8 l.m) ([]))) z<|mv z z<|nx<|ab' (fun (⟨A,M⟩:(Fin 8->Int)×Mem)=>[(3,pt0 R),(11,pt0 b3),(12,pt0 b4),(34,.slice O F.length P),(35,i' (F.length:Int)),(36,i' m),(9,.map (some S))]) (fun ⟨A,M⟩=>Mem.le t M/\(ZaJ m v l A).wp (Out an U)) (fun ⟨A,M⟩=>St X W M [(3,bk0 R (vecG (Value.int .i64) 8 g) 44),(11,bk0 b3 (((v59' l.c c e f d):List Value)++(vecG (Value.int .i64) 8 l.m)) 119),(12,bk0 b4 (vecG (Value.int .i64) 8 A) 68),(4033,s)]) ?_ ?_
    .refine y' ?_
     let ag:(Fin 8->Int)->Prop:=fun oo=>((fun ov=>match ov with|A=>ZaJ m v l A:(Fin 8->Int)->Cq ((Int×(List ((Fin 8->Int)×Zf)))⊕(((List ((Fin 8->Int)×Zf)))))) oo).wp (Out an U)
     replace hr:(Cq.loop _ _).wp ag:=hr
     refine ac' (Φ:=ag) (fun (⟨n,C,H⟩:Int×(Fin 8->Int)×Mem)=>((n,C):Int×(Fin 8->Int))) (fun ⟨n,C,H⟩=>[(3,pt0 R),(11,pt0 b3),(12,pt0 b4),(34,.slice O F.length P),(35,i' (F.length:Int)),(36,i' m),(41,.agg (vecG (Value.int .i64) 8 l.m).toArray),(42,i' n),(9,.map (some S))]) (fun ⟨n,C,H⟩=>Mem.le t H) (fun ⟨n,C,H⟩=>St X W H [(3,bk0 R (vecG (Value.int .i64) 8 g) 44),(11,bk0 b3 (((v59' l.c c e f d):List Value)++(vecG (Value.int .i64) 8 l.m)) 119),(12,bk0 b4 (vecG (Value.int .i64) 8 C) 68),(4033,s)]) ⟨0,(fun _=>0),t⟩ hr (f9 z z z z z z z z z) mr (w4 z z z z) ?_
     .intro aW o hx hr
      obtain⟨n,C,H⟩:=o
      have Y:=hx
      refine sr<|yy (aa' z z) z<|nx<|g'<|P' hr z (fun aG hr=>?_) (fun aG hr=>?_)
      .refine n'<|b'<|g'<|y'<|sr<|mv z z ?_
       obtain⟨ao,hr⟩:=hr
       refine yy (Y0.index ar' sc3 sz3 z z ao (bh' _ _ _ ao)) z<|sg z z<|sx0 z z<|x'<|mv z z ?_
       obtain⟨am,hr⟩:=hr
       refine yy (aT' aZ' sz3 z z am) z<|yy (o' 3 sc3 z z (bh' _ _ _ am)) z<|mv z z ?_
       obtain⟨aN,hr⟩:=hr
       refine yy (aT' ar' sz3 z z aN) z<|by' 12 (vecG (Value.int .i64) 8 (setF C ((getF g n).toNat) (getF l.m n))).toArray z sz3 z z z (by first|(rw[Q']; omega)|(show _<(vecG _ _ _).toArray.size; rw[Q']; omega)) z (cL' _ _ _ _ _)<|q'<|F'<|b'<|x'<|yy (W' z z) z<|mv z z<|q'<|T' ⟨i64.wrap (n+1),setF C ((getF g n).toNat) (getF l.m n),H⟩ hr Y (f9 z z z z z z z z z) (w4 z z z z)
      refine ae'<|h'<|h'<|I'<|af' ⟨C,H⟩ ⟨Y,hr⟩ (f7 z z z z z z z) (w4 z z z z)
    rintro⟨A,M⟩ ⟨L,hr⟩
    refine b'<|x'<|mv z z<|yy (D' 12 bo' z z (Q' _ _ _)) z<|yy (aV' z) z<|yy (al' ((v59' l.c c e f d)).toArray 11 bc' z z z (ap' ([]) ((v59' l.c c e f d)) ((vecG (Value.int .i64) 8 l.m)))) z ?_
    obtain⟨⟨aL,aB⟩,hr⟩:=hr
    refine WL.mapPut (Rv':=RvA bE' M) (k:=A) (z:=l.c) 4033 z dO' (MapR.monoA ab L) z z z z aL ⟨(v59' l.c c e f d),z,⟨(v57' l.c.num c e),(v57' l.c.den f d),z,⟨[.bool l.c.num.neg],[.slice c l.c.num.mag.length e],z,z,⟨_,z,(B.mono L)⟩⟩,⟨[.bool l.c.den.neg],[.slice f l.c.den.mag.length d],z,z,⟨_,z,(E.mono L)⟩⟩⟩⟩ (fun _ _ _ _ h=>h) aB fun aC az=>q'<|F'<|b'<|x'<|yy (W' z z) z<|mv z z<|q'<|T' ⟨i64.wrap (m+1),(mput v A l.c),aC,M⟩ hr ⟨(mx K L),az⟩ (f5 z z z z z) (w2 z z)
   refine ae'<|h'<|h'<|I'<|af' ⟨v,s,t⟩ ⟨K,ab,hr⟩ (f1 z) (w1 z)
 rintro⟨Q,y,T⟩ ⟨aQ,ax,hr⟩
 refine b'<|sr<|mv z z ?_
 obtain⟨aZ,aw,hr⟩:=hr
 refine dy' (fun w hs=>hs.rekey (i:=4033) (j:=5500) z (by rw[ad]; rfl))<|WL.callRO z z (m' E164 z) (eD' aw) z (ax) (lc z ln) (fun i hi=>by simp only[List.map_cons,List.map_nil,List.mem_cons,List.not_mem_nil,or_false] at hi; subst hi; exact z) hz (fun aT aY aR aa=>?_)
 obtain⟨aV,aS,rfl,ay⟩:=aa
 refine dy' (fun w hs=>hs.rekey (i:=5500) (j:=4033) z (by rw[ad]; rfl))<|sg z z<|sx0 z z<|k' ?_
 obtain rfl:_=r:=hr
 exact bd' z z z ⟨_,_,z,ay⟩
theorem Zdh(f:(List (List Za)))(p:(Fin 8->Int))(E:Option Addr)(D:Nat)(r:(List (List Za)))(hr:(Zbd f p).Ret r):Ctr prog 55 #[.slice E f.length D,.agg (vecG (Value.int .i64) 8 p).toArray] (fun G=>sl (Rp.sl a') G E D f) (wl' (Rp.sl a') r):=by
 refine H' (args:=[_,_]) (N:=29) func55 z z z (fun S B X L=>?_)
 have s:=L
 refine sr<|ai' 3 z z z fun P=>sg z z<|nr<|mv z z<|yy (O' M' s z) z ?_
 obtain⟨Q,hr⟩:=hr
 refine cS' (r:=(Rp.sl a')) (e:=65) (n:=(f.length:Int)) (zx:=[]) 4010 z z M' el65 z (by decide) (by decide) ⟨_,z,(ay' _ _)⟩ z z Q fun F K U=>sx0 z z<|g'<|sr<|mv z z<|yy (O' M' s z) z<|mv z z<|nx<|ab' (fun (⟨l,g,m⟩:(List (List Za))×Option Ow×Mem)=>[(5,.slice F (f.length:Int).toNat ((f.length:Int).toNat))]) (fun ⟨l,g,m⟩=>Mem.le B m/\RowR (Rp.sl a') 65 m (.slice F (f.length:Int).toNat ((f.length:Int).toNat)) l g/\(Zbv l).Ret r) (fun ⟨l,g,m⟩=>St S B m [(4010,g)]) ?_ ?_
 .refine y' ?_
  let C:(((List (List Za))))->Prop:=fun oo=>((fun ov=>match ov with|l=>Zbv l:(((List (List Za))))->Cq ((List (List Za)))) oo).wp (fun a=>a=r)
  replace hr:(Cq.loop _ _).wp C:=hr
  refine ac' (Φ:=C) (fun (⟨j,d,c,h⟩:(List (List Za))×Option Ow×Int×Mem)=>((j,c):(List (List Za))×Int)) (fun ⟨j,d,c,h⟩=>[(3,pt0 P),(5,.slice F (f.length:Int).toNat ((f.length:Int).toNat)),(11,.slice E f.length D),(12,i' (f.length:Int)),(13,i' c)]) (fun ⟨j,d,c,h⟩=>Mem.le B h/\RowR (Rp.sl a') 65 h (.slice F (f.length:Int).toNat ((f.length:Int).toNat)) j d) (fun ⟨j,d,c,h⟩=>St S B h [(3,bk0 P (vecG (Value.int .i64) 8 p) 44),(4010,d)]) ⟨(List.replicate (f.length:Int).toNat []),K,0,B⟩ hr (f5 z z z z z) ⟨mr,U⟩ (w2 z z) ?_
  .intro ak gx hx hr
   obtain⟨j,d,c,h⟩:=gx
   obtain⟨k,q⟩:=hx
   refine sr<|yy (aa' z z) z<|nx<|g'<|P' hr z (fun Y hr=>?_) (fun Y hr=>?_)
   .refine n'<|b'<|g'<|y'<|sr<|mv z z ?_
    obtain⟨x1,I,hr⟩:=hr
    refine yy (V' M' cj' (s.mono k) z z I) z ?_
    obtain⟨p2,aj,T,W⟩:=bl' (J' (Z' s I) k)
    refine yy (aj' bU' z (T)) z<|sg z z<|sx0 z z<|x'<|mv z z<|mv z z<|mv z z<|yy (D' 3 ag44 z z (Q' _ _ _)) z ?_
    obtain⟨A,M,hr⟩:=hr
    refine N' z z (m' E108 z) (ev' M) z (W) (fun ac V o t=>?_)
    obtain⟨x,u,rfl,y⟩:=t
    refine mv z z<|yy (R' z z) z<|yy (R' z z) z ?_
    obtain⟨x2,H,hr⟩:=hr
    refine yy (bs' M' cj' (q.mono o) z z H) z<|bT' (r:=(Rp.sl a')) (e:=65) (cs':=[.slice x A.1.length u]) (i:=c) (z':=A.1) 4010 z cj' z (q.mono o) z z z z ⟨_,z,y⟩ H fun R O=>q'<|F'<|b'<|x'<|yy (W' z z) z<|mv z z<|q'<|T' ⟨(j.set c.toNat A.1),R,i64.wrap (c+1),V⟩ hr ⟨(mx k o),O⟩ (f5 z z z z z) (w2 z z)
   refine ae'<|h'<|h'<|I'<|af' ⟨j,d,h⟩ ⟨k,q,hr⟩ (f1 z) (w1 z)
 rintro⟨l,g,m⟩ ⟨Z,J,hr⟩
 refine b'<|sr<|mv z z<|sx0 z z<|k' ?_
 obtain rfl:_=r:=hr
 refine WE.freezeT (r:=(Rp.sl a')) (e:=65) 4010 J z (by rw[X]; rfl) fun ai ah ab v aa=>j' z z ⟨_,_,(cX' v),(cY' v)⟩
theorem dr'{d o s r}(hr:(ZZ d).Ret r):Ctr prog 43 #[.slice o d.length s] (fun G=>SlR (Rp.sl (Rp.sl a')) G (.slice o d.length s) d) (wl' (Rp.sl a') r):=by
 refine H' (args:=[_]) (N:=36) func43 z z z (fun S K L ag=>?_)
 have q:=ag
 have hz:S.L.zero:=by rw[L]; intro p hp; simp at hp
 refine sr<|sg z z<|nr<|sx0 z z<|g'<|sr<|mv z z<|yy (O' dh' q z) z<|mv z z<|nx<|ab' (fun (⟨u,J⟩:Int×Mem)=>[(0,.slice o d.length s),(3,i' u)]) (fun ⟨u,J⟩=>Mem.le K J/\(ZU d u).Ret r) (fun ⟨u,J⟩=>St S K J []) ?_ ?_
 .refine y' ?_
  let R:Int->Prop:=fun oo=>((fun ov=>match ov with|u=>ZU d u:Int->Cq ((List (List Za)))) oo).wp (fun a=>a=r)
  replace hr:(Cq.loop _ _).wp R:=hr
  refine ac' (Φ:=R) (fun (⟨t,x,B⟩:Int×Int×Mem)=>((t,x):Int×Int)) (fun ⟨t,x,B⟩=>[(0,.slice o d.length s),(3,i' t),(9,.slice o d.length s),(10,i' (d.length:Int)),(11,i' x)]) (fun ⟨t,x,B⟩=>Mem.le K B) (fun ⟨t,x,B⟩=>St S K B []) ⟨0,0,K⟩ hr (f5 z z z z z) mr (wk ln) ?_
  .intro aE X Y hr
   obtain⟨t,x,B⟩:=X
   have D:=Y
   refine sr<|yy (aa' z z) z<|nx<|g'<|P' hr z (fun aj hr=>?_) (fun aj hr=>?_)
   .refine n'<|b'<|g'<|y'<|sr ?_
    obtain⟨x2,U,hr⟩:=hr
    refine yy (V' dh' sz25 (q.mono D) z z U) z ?_
    obtain⟨p3,aH,aq,al⟩:=bl' (J' (Z' q U) D)
    refine yy (aj' sc25 z (aq)) z<|sg z z<|nr<|mv z z<|mv z z<|yy (O' M' al z) z<|yy (W' z z) z<|sg z z<|nr<|mv z z<|yy (aa' z z) z<|nx<|P' hr z (fun an hr=>?_) (fun an hr=>?_)
    .exact (show False from hr).elim
    refine n'<|F'<|b'<|x'<|yy (W' z z) z<|mv z z<|q'<|T' ⟨i64.wrap (t+(x2.length:Int)),i64.wrap (x+1),B⟩ hr D (f5 z z z z z) (wk ln)
   refine ae'<|h'<|h'<|I'<|af' ⟨t,B⟩ ⟨D,hr⟩ (f2 z z) (wk ln)
 rintro⟨u,J⟩ ⟨F,hr⟩
 refine b'<|sr<|mv z z ?_
 obtain⟨ao,ab,hr⟩:=hr
 refine cf' z z (m' E84 z) (dk' ab) z trivial ln hz (fun aA Q az I M=>?_)
 obtain⟨ae,W,T,rfl,rfl,ac⟩:=M
 refine dy' (fun w O=>O.rekey (i:=7000) (j:=4024) z (by rw[L]; rfl))<|sx0 z z<|g'<|sr<|mv z z<|yy (O' dh' (q.mono (mx F I)) z) z<|mv z z<|nx<|ab' (fun (⟨f,m,n,l,E⟩:(List (List Za))×Option Addr×Nat×Option Ow×Mem)=>[(6,.slice m f.length n)]) (fun ⟨f,m,n,l,E⟩=>Mem.le Q E/\RowR (Rp.sl a') 65 E (.slice m f.length n) f l/\(ZT f).Ret r) (fun ⟨f,m,n,l,E⟩=>St S K E [(4006,l)]) ?_ ?_
 .refine y' ?_
  let P:(((List (List Za))))->Prop:=fun oo=>((fun ov=>match ov with|f=>ZT f:(((List (List Za))))->Cq ((List (List Za)))) oo).wp (fun a=>a=r)
  replace hr:(Cq.loop _ _).wp P:=hr
  refine ac' (Φ:=P) (fun (⟨c,k,h,g,v,A⟩:(List (List Za))×Option Addr×Nat×Option Ow×Int×Mem)=>((c,v):(List (List Za))×Int)) (fun ⟨c,k,h,g,v,A⟩=>[(6,.slice k c.length h),(25,.slice o d.length s),(26,i' (d.length:Int)),(27,i' v)]) (fun ⟨c,k,h,g,v,A⟩=>Mem.le Q A/\RowR (Rp.sl a') 65 A (.slice k c.length h) c g) (fun ⟨c,k,h,g,v,A⟩=>St S K A [(4006,g)]) ⟨ao,ae,W,T,0,Q⟩ hr (f4 z z z z) ⟨mr,ac⟩ ?_ ?_
  .intro w O
   have O:=O.rekey (i:=4024) (j:=4006) z (by rw[L]; rfl)
   exact O.weaken (lc z ln)
  intro aF X Y hr
  obtain⟨c,k,h,g,v,A⟩:=X
  obtain⟨C,y⟩:=Y
  refine sr<|yy (aa' z z) z<|nx<|g'<|P' hr z (fun ar hr=>?_) (fun ar hr=>?_)
  .refine n'<|b'<|g'<|y'<|sr ?_
   obtain⟨x1,V,hr⟩:=hr
   refine yy (V' dh' sz25 (q.mono (mx (mx F I) C)) z z V) z ?_
   obtain⟨p1,aI,ai,ak⟩:=bl' (J' (Z' q V) (mx (mx F I) C))
   refine yy (aj' sc25 z (ai)) z<|sx0 z z<|x'<|mv z z<|mv z z ?_
   obtain⟨Z,hr⟩:=hr
   refine dl' (r:=(Rp.sl a')) (e:=65) 4006 z z M' el65 z (by decide) z z y z ak Z fun p2 ap af am=>sg z z<|q'<|F'<|b'<|x'<|yy (W' z z) z<|mv z z<|q'<|T' ⟨(c++x1),p2,ap,af,i64.wrap (v+1),A⟩ hr ⟨C,am⟩ (f4 z z z z) (w1 z)
  refine ae'<|h'<|h'<|I'<|af' ⟨c,k,h,g,A⟩ ⟨C,y,hr⟩ (f1 z) (w1 z)
 rintro⟨f,m,n,l,E⟩ ⟨au,H,hr⟩
 refine b'<|sr<|mv z z<|sx0 z z<|k' ?_
 obtain rfl:_=r:=hr
 refine WE.freezeT (r:=(Rp.sl a')) (e:=65) 4006 H z (by rw[L]; rfl) fun aD aG av ad aw=>j' z z ⟨_,_,z,ad⟩
theorem fb'{m e c r}(hr:(Zet m).Ret r):Ctr prog 95 #[.agg ((v57' m e c)).toArray] (fun G=>sl (Rp.int .u32) G e c m.mag) (w59' r):=by
 refine H' (args:=[_]) (N:=6) func95 z z z (fun E C x q=>?_)
 have n:=q
 refine sr<|ai' 1 z z z fun y=>X' 2 z z59 z fun F=>nx<|g'<|ak' [ff,ff] mix (by kernel_rfl) fun B=>cn (fun _ o=>D' 1 at' z z z) ?_
 obtain⟨k,s,hr⟩:=hr
 refine az' (post:=w57' k) (fun _=>z) (fun _ _=>m' E87 z) (dc' s) z (fun A o=>trivial) (fun v H D o h=>?_) ?_
 .obtain⟨f,g,rfl,j⟩:=h
  exact⟨_,_,z,j.mono o⟩
 refine bi' (d:=4) (post:=w57' k) (fun t u p l=>?_)
 obtain⟨f,g,rfl,j⟩:=l
 refine yy (au' (vs:=#[(0,.agg ((v57' m e c)).toArray),(1,.agg ((v57' k f g)).toArray)]) (v:=.agg ([.bool m.neg,.slice e m.mag.length c,.bool k.neg,.slice f k.mag.length g]).toArray) z z (fun _=>by kernel_rfl)) z<|B' 2 z ch' z z z z z (List.all_eq_true.1 z)<|q'<|am'<|b'<|k' ?_
 obtain rfl:_=r:=hr
 exact j' z (aw' (i:=2) bc' z z z) ⟨_,_,_,_,z,(n.mono p),j⟩
theorem dx'{q r}(hr:(ZcQ q).Ret r):Ctr prog 47 #[i' q] (fun G=>True) (w59' r):=by
 refine H' (args:=[_]) (N:=6) func47 z z z fun H F D v=>sr<|X' 2 z z59 z fun E=>nr<|mv z z ?_
 obtain⟨B,n,hr⟩:=hr
 refine N' z z (m' E87 z) (dc' n) z (trivial) (fun u y t e=>?_)
 obtain⟨o,p,rfl,f⟩:=e
 obtain⟨A,m,hr⟩:=hr
 refine N' z z (m' E95 z) (fb' m) z (f) (fun x C s g=>?_)
 obtain⟨k,j,h,l,rfl,d,c⟩:=g
 refine B' 2 z ch' z z z z z (List.all_eq_true.1 z)<|nx<|k' ?_
 obtain rfl:_=r:=hr
 exact j' z (aw' (i:=2) bc' z z z) ⟨_,_,_,_,z,d,c⟩
theorem er'{h g c d f r}(hr:(Za5 h).Ret r):Ctr prog 46 #[.agg ((v59' h g c d f)).toArray] (fun G=>sl (Rp.int .u32) G g c h.num.mag/\sl (Rp.int .u32) G d f h.den.mag) (wl' a' r):=by
 refine H' (args:=[_]) (N:=9) func46 z z z (fun y u n k=>?_)
 obtain⟨j,i⟩:=k
 refine sr<|ai' 1 z z z fun t=>sx0 z z<|g'<|sr<|yy (D' 1 bc' z z z) z ?_
 obtain⟨q,l,hr⟩:=hr
 refine K' z z (m' E91 z) (cm' l) z (⟨j,i⟩)<|yy (aH' z z) z<|nx<|P' hr z (fun o hr=>?_) (fun o hr=>?_)
 .exact (show False from hr).elim
 refine n'<|b'<|sr<|yy (D' 1 bc' z z z) z<|yy (au' (vs:=#[(0,.agg ((v59' h g c d f)).toArray)]) (v:=.agg (((v59' h g c d f):List Value)++(vecG (Value.int .i64) 8 (fun _=>0))).toArray) z z (fun _=>by kernel_rfl)) z<|aF' (e:=119) (r:=a') (vs:=#[(0,.agg (((v59' h g c d f):List Value)++(vecG (Value.int .i64) 8 (fun _=>0))).toArray)]) (cs:=(((v59' h g c d f):List Value)++(vecG (Value.int .i64) 8 (fun _=>0)))++([])) ([(Za.mk h (fun _=>0))]:List Za) z z z z z (by decide) (fun _=>by kernel_rfl) ⟨((v59' h g c d f):List Value)++(vecG (Value.int .i64) 8 (fun _=>0)),[],z,⟨(v59' h g c d f),vecG (Value.int .i64) 8 (fun _=>0),z,⟨(v57' h.num g c),(v57' h.den d f),z,⟨[.bool h.num.neg],[.slice g h.num.mag.length c],z,z,⟨_,z,j⟩⟩,⟨[.bool h.den.neg],[.slice d h.den.mag.length f],z,z,⟨_,z,i⟩⟩⟩,z⟩,z⟩ (key:=999) z (by rw[n]; rfl) fun x s p m=>sx0 z z<|k' ?_
 obtain rfl:_=r:=hr
 exact j' z z ⟨_,_,z,m⟩
theorem ey'{h m e d r}(hr:(ZbU h m).Ret r):Ctr prog 44 #[.slice e h.length d,i' m] (fun G=>sl a' G e d h) (fun G v=>v = .bool r):=by
 refine H' (args:=[_,_]) (N:=20) func44 z z z (fun t s q i=>?_)
 have c:=i
 refine sr<|sg z z<|nr<|mv z z ?_
 obtain⟨k,j,hr⟩:=hr
 refine K' z z (m' E85 z) (dN' j) z (c) ?_
 cases k
 .refine mv z z<|sn6 z<|yy (t' z z) z<|mv z z<|sn3 z<|yy (t' z z) z<|sx0 z z<|k' (k0' hr z z)
 refine mv z z<|gy z z (c' z) z ?_
 obtain⟨o,f,hr⟩:=hr
 refine K' (E' z z) z (m' E86 z) (dX' f) z (c)<|gy z z (av' aL' aD' z) z<|gy z z (c' z) z ?_
 obtain⟨l,hr⟩:=hr
 refine gy z z (Y0.shr z z l) z<|aE' hr (E' z z) (aH' z z) z (fun n hr=>?_) (fun n hr=>?_)
 .refine yy (w' z z) z<|mv z z<|gy z z (c' z) z ?_
  obtain⟨p,g,hr⟩:=hr
  refine K' (E' z z) z (m' E48 z) (cG' g) z (c)<|gy z z (bW' z z) z<|yy (w' z z) z<|sx0 z z<|k' (k0' hr z z)
 refine yy (w' z z) z<|mv z z<|sn3 z<|yy (t' z z) z<|sx0 z z<|k' (k0' hr z z)
theorem Z0(g:Int)(B:(List (List Za)))(c:(List (List Za)))(O:Option Addr)(Q:Nat)(y:Option Addr)(A:Nat)(r:Ze×Int)(hr:(ZQ g B c).Ret r):Ctr prog 12 #[i' g,.slice O B.length Q,.slice y c.length A] (fun G=>sl (Rp.sl a') G O Q B/\sl (Rp.sl a') G y A c) (w28t' r):=by
 refine H' (args:=[_,_,_]) (N:=97) func12 z z z (fun w0 G0 aE ce=>?_)
 obtain⟨aB,aA⟩:=ce
 refine sr<|X' 6 z z28 z fun b1=>sx0 z z<|aO' (fun (⟨az,T,R,K,J,aJ⟩:Ze×Option Addr×Nat×Option Addr×Nat×Mem)=>[(0,i' g),(1,.slice O B.length Q),(2,.slice y c.length A),(6,pt0 b1)]) (fun ⟨az,T,R,K,J,aJ⟩=>Mem.le G0 aJ/\sl (Rp.sl a') aJ T R az.eqs/\sl (Rp.sl a') aJ K J az.neqs/\(ZdN g B c az).Ret r) (fun ⟨az,T,R,K,J,aJ⟩=>St w0 G0 aJ [(6,bk0 b1 (v28' az T R K J) 28)]) ?_ ?_
 .refine sr<|mv z z<|aE' hr z (aa' z z) z (fun cA hr=>?_) (fun cA hr=>?_)
  .refine mv z z<|sn2 z<|yy (w' z z) z<|nx<|aB' z<|sr<|yy (au' (vs:=#[]) (v:=.agg ([i' 0,.slice none 0 0,.slice none 0 0]).toArray) z z (fun _=>by kernel_rfl)) z<|B' 6 z bB' z z z z z (List.all_eq_true.1 z)<|sx0 z z<|k'<|f' ?_
   obtain rfl:_=r:=hr
   exact bd' z (aw' (i:=6) bj' z z z) z ⟨_,_,_,_,z,(ay' (Rp.sl a') _),(ay' (Rp.sl a') _)⟩
  refine mv z z<|gy z z (c' z) z<|gy z z (aS' z z) z<|yy (t' z z) z<|nx<|P' hr z (fun cx hr=>?_) (fun cx hr=>?_)
  .refine sr<|yy (au' (vs:=#[]) (v:=.agg ([i' 0,.slice none 0 0,.slice none 0 0]).toArray) z z (fun _=>by kernel_rfl)) z<|B' 6 z bB' z z z z z (List.all_eq_true.1 z)<|sx0 z z<|k'<|f' ?_
   obtain rfl:_=r:=hr
   exact bd' z (aw' (i:=6) bj' z z z) z ⟨_,_,_,_,z,(ay' (Rp.sl a') _),(ay' (Rp.sl a') _)⟩
  refine n'<|ax' ⟨(Ze.mk 0 [] []),none,0,none,0,G0⟩ ⟨mr,(ay' _ _),(ay' _ _),hr⟩ (f4 z z z z) (w1 z)
 rintro⟨az,T,R,K,J,aJ⟩ ⟨X,be,a0,hr⟩
 refine g'<|sr<|mv z z<|mv z z<|aF' (e:=25) (r:=(Rp.sl (Rp.sl a'))) (vs:=#[(0,.slice O B.length Q),(1,.slice y c.length A)]) (cs:=[.slice O B.length Q]++([.slice y c.length A]++([]))) ([B,c]:List (List (List Za))) z z z z z (by decide) (fun _=>by kernel_rfl) ⟨[.slice O B.length Q],[.slice y c.length A]++([]),z,⟨_,z,(aB.mono X)⟩,⟨[.slice y c.length A],[],z,⟨_,z,(aA.mono X)⟩,z⟩⟩ (key:=999) z (by rw[aE]; rfl) (fun p1 da Z cB=>?_)
 obtain⟨bM,b3,hr⟩:=hr
 refine N' z z (m' E43 z) (dr' b3) z (cB) (fun cX bl W a9=>?_)
 obtain⟨cc,bR,rfl,a1⟩:=a9
 refine yy (O' M' a1 z) z<|mv z z<|nx<|ab' (fun (⟨ah,o,k,d,f,ao⟩:Ze×Option Addr×Nat×Option Addr×Nat×Mem)=>[(0,i' g),(1,.slice O B.length Q),(2,.slice y c.length A),(6,pt0 b1)]) (fun ⟨ah,o,k,d,f,ao⟩=>Mem.le bl ao/\sl (Rp.sl a') ao o k ah.eqs/\sl (Rp.sl a') ao d f ah.neqs/\(Zap g B c).Ret r) (fun ⟨ah,o,k,d,f,ao⟩=>St w0 G0 ao [(6,bk0 b1 (v28' ah o k d f) 28)]) ?_ ?_
 .refine y' ?_
  let bv:((Ze×Int)⊕Ze)->Prop:=fun oo=>((fun ov=>match ov with | .inl rv1=>Cq.ret rv1 | .inr ah=>Zap g B c:((Ze×Int)⊕Ze)->Cq (Ze×Int)) oo).wp (fun a=>a=r)
  replace hr:(Cq.loop _ _).wp bv:=hr
  refine ac' (Φ:=bv) (fun (⟨ag,ap,E,C,j,h,an⟩:Int×Ze×Option Addr×Nat×Option Addr×Nat×Mem)=>((ag,ap):Int×Ze)) (fun ⟨ag,ap,E,C,j,h,an⟩=>[(0,i' g),(1,.slice O B.length Q),(2,.slice y c.length A),(6,pt0 b1),(27,.slice cc bM.length bR),(28,i' (bM.length:Int)),(29,i' ag)]) (fun ⟨ag,ap,E,C,j,h,an⟩=>Mem.le bl an/\sl (Rp.sl a') an E C ap.eqs/\sl (Rp.sl a') an j h ap.neqs) (fun ⟨ag,ap,E,C,j,h,an⟩=>St w0 G0 an [(6,bk0 b1 (v28' ap E C j h) 28)]) ⟨0,az,T,R,K,J,bl⟩ hr (f7 z z z z z z z) ⟨mr,(be.mono (mx Z W)),(a0.mono (mx Z W))⟩ (w1 z) ?_
  .intro c9 gx hx hr
   obtain⟨ag,ap,E,C,j,h,an⟩:=gx
   obtain⟨aC,aK,aH⟩:=hx
   refine sr<|yy (aa' z z) z<|nx<|g'<|P' hr z (fun cp hr=>?_) (fun cp hr=>?_)
   .refine n'<|b'<|g'<|y'<|sr ?_
    obtain⟨x3,bJ,hr⟩:=hr
    refine yy (V' M' cj' (a1.mono aC) z z bJ) z ?_
    obtain⟨c3,cM,bU,bZ⟩:=bl' (J' (Z' a1 bJ) aC)
    refine yy (aj' bU' z (bU)) z<|sg z z<|nr<|mv z z<|mv z z ?_
    obtain⟨dd,b0,hr⟩:=hr
    refine K' z z (m' E44 z) (ey' b0) z (bZ)<|yy (aA' z) z<|nx<|aK' hr z (fun cC hr=>?_) (fun cC hr=>?_)
    .refine sr<|yy (au' (vs:=#[]) (v:=.agg ([i' 0,.slice none 0 0,.slice none 0 0]).toArray) z z (fun _=>by kernel_rfl)) z<|B' 6 z bB' z z z z z (List.all_eq_true.1 z)<|sx0 z z<|k'<|A'<|f'<|f'<|A'<|an'<|f' ?_
     obtain rfl:_=r:=hr
     exact bd' z (aw' (i:=6) bj' z z z) z ⟨_,_,_,_,z,(ay' (Rp.sl a') _),(ay' (Rp.sl a') _)⟩
    refine n'<|F'<|b'<|x'<|yy (W' z z) z<|mv z z<|q'<|T' ⟨i64.wrap (ag+1),ap,E,C,j,h,an⟩ hr ⟨aC,aK,aH⟩ (f7 z z z z z z z) (w1 z)
   refine ae'<|h'<|h'<|I'<|af' ⟨ap,E,C,j,h,an⟩ ⟨aC,aK,aH,hr⟩ (f4 z z z z) (w1 z)
 rintro⟨ah,o,k,d,f,ao⟩ ⟨aj,cj,ci,hr⟩
 refine b'<|sr<|sg z z<|sx0 z z<|g'<|sr<|mv z z<|yy (O' M' (aB.mono (mx (mx (mx X Z) W) aj)) z) z<|mv z z<|nx<|ab' (fun (⟨H,V,U,S,av⟩:(List (List Za))×Option Addr×Nat×Option Ow×Mem)=>[(0,i' g),(2,.slice y c.length A),(6,pt0 b1),(10,.slice V H.length U),(11,.slice none 0 0)]) (fun ⟨H,V,U,S,av⟩=>Mem.le ao av/\sl (Rp.sl a') av V U H/\Tok 1 65 (.slice V H.length U) H.length S/\(Zao g c H).Ret r) (fun ⟨H,V,U,S,av⟩=>St w0 G0 av [(6,bk0 b1 (v28' ah o k d f) 28),(1010,S)]) ?_ ?_
 .refine y' ?_
  let bs:(((List (List Za))))->Prop:=fun oo=>((fun ov=>match ov with|H=>Zao g c H:(((List (List Za))))->Cq (Ze×Int)) oo).wp (fun a=>a=r)
  replace hr:(Cq.loop _ _).wp bs:=hr
  refine ac' (Φ:=bs) (fun (⟨x,F,I,D,Y,ax⟩:(List (List Za))×Option Addr×Nat×Option Ow×Int×Mem)=>((x,Y):(List (List Za))×Int)) (fun ⟨x,F,I,D,Y,ax⟩=>[(0,i' g),(2,.slice y c.length A),(6,pt0 b1),(10,.slice F x.length I),(11,.slice none 0 0),(39,.slice O B.length Q),(40,i' (B.length:Int)),(41,i' Y)]) (fun ⟨x,F,I,D,Y,ax⟩=>Mem.le ao ax/\sl (Rp.sl a') ax F I x/\Tok 1 65 (.slice F x.length I) x.length D) (fun ⟨x,F,I,D,Y,ax⟩=>St w0 G0 ax [(6,bk0 b1 (v28' ah o k d f) 28),(1010,D)]) ⟨[],none,0,none,0,ao⟩ hr (f8 z z z z z z z z) ⟨mr,(ay' _ _),cb'⟩ (wk (lc z (lw ln))) ?_
  .intro c2 gx hx hr
   obtain⟨x,F,I,D,Y,ax⟩:=gx
   obtain⟨aw,aG,ay⟩:=hx
   refine sr<|yy (aa' z z) z<|nx<|g'<|P' hr z (fun cI hr=>?_) (fun cI hr=>?_)
   .refine n'<|b'<|g'<|y'<|sr ?_
    obtain⟨x2,bH,hr⟩:=hr
    refine yy (V' M' cj' (aB.mono (mx (mx (mx (mx X Z) W) aj) aw)) z z bH) z ?_
    obtain⟨p7,df,cr,bI⟩:=bl' (J' (Z' aB bH) (mx (mx (mx (mx X Z) W) aj) aw))
    refine yy (aj' bU' z (cr)) z<|sg z z<|nr<|mv z z<|yy (O' C' bI z) z<|yy (aS' z z) z<|nx<|P' hr z (fun cD hr=>?_) (fun cD hr=>?_)
    .refine x'<|mv z z<|mv z z ?_
     obtain⟨aS,cg,hr⟩:=hr
     refine N' z z (m' E45 z) (dV' cg) z (bI) (fun cN cR aU bb=>?_)
     obtain⟨a6,a2,rfl,cf⟩:=bb
     refine aF' (e:=65) (r:=(Rp.sl a')) (vs:=#[(0,.slice a6 aS.length a2)]) (cs:=[.slice a6 aS.length a2]++([])) ([aS]:List (List Za)) z z z z z (by decide) (fun _=>by kernel_rfl) ⟨[.slice a6 aS.length a2],[],z,⟨_,z,cf⟩,z⟩ (key:=999) z (by rw[aE]; rfl) (fun p8 cT aX cm=>?_)
     obtain⟨bY,hr⟩:=hr
     refine bb' (r:=(Rp.sl a')) 1010 z z M' el65 z (by decide) z z (aG.mono (mx aU aX)) z (by rw[aE]; rfl) ay cm bY fun p9 cw bV b7 bu co b5=>sg z z<|q'<|F'<|b'<|x'<|yy (W' z z) z<|mv z z<|q'<|T' ⟨(x++[aS]),p9,cw,bV,i64.wrap (Y+1),b7⟩ hr ⟨(mx (mx (mx aw aU) aX) bu),co,b5⟩ (f8 z z z z z z z z) (w2 z z)
    refine n'<|F'<|b'<|x'<|yy (W' z z) z<|mv z z<|q'<|T' ⟨x,F,I,D,i64.wrap (Y+1),ax⟩ hr ⟨aw,aG,ay⟩ (f8 z z z z z z z z) (w2 z z)
   refine ae'<|h'<|h'<|I'<|af' ⟨x,F,I,D,ax⟩ ⟨aw,aG,ay,hr⟩ (f5 z z z z z) (w2 z z)
 rintro⟨H,V,U,S,av⟩ ⟨aM,bw,bc,hr⟩
 refine b'<|g'<|sr<|mv z z<|yy (O' M' (aA.mono (mx (mx (mx (mx X Z) W) aj) aM)) z) z<|mv z z<|nx<|ab' (fun (⟨L,ae,ad,ab,M,ac,af,aa,aF⟩:(List (List Za))×Option Addr×Nat×Option Ow×(List (List Za))×Option Addr×Nat×Option Ow×Mem)=>[(0,i' g),(6,pt0 b1),(10,.slice ae L.length ad),(11,.slice ac M.length af)]) (fun ⟨L,ae,ad,ab,M,ac,af,aa,aF⟩=>Mem.le av aF/\sl (Rp.sl a') aF ae ad L/\Tok 1 65 (.slice ae L.length ad) L.length ab/\sl (Rp.sl a') aF ac af M/\Tok 1 65 (.slice ac M.length af) M.length aa/\(Zan g L M).Ret r) (fun ⟨L,ae,ad,ab,M,ac,af,aa,aF⟩=>St w0 G0 aF [(6,bk0 b1 (v28' ah o k d f) 28),(1010,ab),(1011,aa)]) ?_ ?_
 .refine y' ?_
  let bq:(((List (List Za))×(List (List Za))))->Prop:=fun oo=>((fun ov=>match ov with|(L,M)=>Zan g L M:(((List (List Za))×(List (List Za))))->Cq (Ze×Int)) oo).wp (fun a=>a=r)
  replace hr:(Cq.loop _ _).wp bq:=hr
  refine ac' (Φ:=bq) (fun (⟨n,t,u,m,l,s,q,p,P,am⟩:(List (List Za))×Option Addr×Nat×Option Ow×(List (List Za))×Option Addr×Nat×Option Ow×Int×Mem)=>((n,l,P):(List (List Za))×(List (List Za))×Int)) (fun ⟨n,t,u,m,l,s,q,p,P,am⟩=>[(0,i' g),(6,pt0 b1),(10,.slice t n.length u),(11,.slice s l.length q),(54,.slice y c.length A),(55,i' (c.length:Int)),(56,i' P)]) (fun ⟨n,t,u,m,l,s,q,p,P,am⟩=>Mem.le av am/\sl (Rp.sl a') am t u n/\Tok 1 65 (.slice t n.length u) n.length m/\sl (Rp.sl a') am s q l/\Tok 1 65 (.slice s l.length q) l.length p) (fun ⟨n,t,u,m,l,s,q,p,P,am⟩=>St w0 G0 am [(6,bk0 b1 (v28' ah o k d f) 28),(1010,m),(1011,p)]) ⟨H,V,U,S,[],none,0,none,0,av⟩ hr (f7 z z z z z z z) ⟨mr,bw,bc,(ay' _ _),cb'⟩ (wk (lc z (lc z (lw ln)))) ?_
  .intro c4 gx hx hr
   obtain⟨n,t,u,m,l,s,q,p,P,am⟩:=gx
   obtain⟨al,ar,ak,aq,ai⟩:=hx
   refine sr<|yy (aa' z z) z<|nx<|g'<|P' hr z (fun cz hr=>?_) (fun cz hr=>?_)
   .refine n'<|b'<|g'<|y'<|sr ?_
    obtain⟨x1,bN,hr⟩:=hr
    refine yy (V' M' cj' (aA.mono (mx (mx (mx (mx (mx X Z) W) aj) aM) al)) z z bN) z ?_
    obtain⟨p2,db,cG,br⟩:=bl' (J' (Z' aA bN) (mx (mx (mx (mx (mx X Z) W) aj) aM) al))
    refine yy (aj' bU' z (cG)) z<|sx0 z z<|y'<|sr<|mv z z<|yy (O' C' br z) z<|yy (aH' z z) z<|sx0 z z<|P' hr z (fun cF hr=>?_) (fun cF hr=>?_)
    .refine x'<|mv z z ?_
     obtain⟨c1,bO,hr⟩:=hr
     refine N' z z (m' E47 z) (dx' bO) z (trivial) (fun cV dc aO ba=>?_)
     obtain⟨bF,bE,bD,bC,rfl,aN,aR⟩:=ba
     obtain⟨aW,ca,hr⟩:=hr
     refine N' z z (m' E46 z) (er' ca) z (⟨aN,aR⟩) (fun cP de aP bd=>?_)
     obtain⟨aZ,a5,rfl,bW⟩:=bd
     refine aF' (e:=65) (r:=(Rp.sl a')) (vs:=#[(0,.slice aZ aW.length a5)]) (cs:=[.slice aZ aW.length a5]++([])) ([aW]:List (List Za)) z z z z z (by decide) (fun _=>by kernel_rfl) ⟨[.slice aZ aW.length a5],[],z,⟨_,z,bW⟩,z⟩ (key:=999) z (by rw[aE]; rfl) (fun p3 c6 aL cE=>?_)
     obtain⟨bT,hr⟩:=hr
     refine bb' (r:=(Rp.sl a')) 1010 z z M' el65 z (by decide) z z (ar.mono (mx (mx aO aP) aL)) z (by rw[aE]; rfl) ak cE bT fun p4 cu ch cv a7 ct bQ=>sg z z<|q'<|F'<|F'<|b'<|x'<|yy (W' z z) z<|mv z z<|q'<|T' ⟨(n++[aW]),p4,cu,ch,l,s,q,p,i64.wrap (P+1),cv⟩ hr ⟨(mx (mx (mx (mx al aO) aP) aL) a7),ct,bQ,(aq.mono (mx (mx (mx aO aP) aL) a7)),ai⟩ (f7 z z z z z z z) (w3 z z z)
    refine sr<|mv z z ?_
    obtain⟨c5,bP,hr⟩:=hr
    refine K' z z (m' E48 z) (cG' bP) z (br)<|yy (aS' z z) z<|sx0 z z<|P' hr z (fun cy hr=>?_) (fun cy hr=>?_)
    .refine x'<|mv z z<|mv z z ?_
     obtain⟨aV,cd,hr⟩:=hr
     refine N' z z (m' E45 z) (dV' cd) z (br) (fun cU cO aD bg=>?_)
     obtain⟨a3,aY,rfl,b8⟩:=bg
     refine aF' (e:=65) (r:=(Rp.sl a')) (vs:=#[(0,.slice a3 aV.length aY)]) (cs:=[.slice a3 aV.length aY]++([])) ([aV]:List (List Za)) z z z z z (by decide) (fun _=>by kernel_rfl) ⟨[.slice a3 aV.length aY],[],z,⟨_,z,b8⟩,z⟩ (key:=999) z (by rw[aE]; rfl) (fun p5 cZ aI cH=>?_)
     obtain⟨b6,hr⟩:=hr
     refine bb' (r:=(Rp.sl a')) 1011 z z M' el65 z (by decide) z z (aq.mono (mx aD aI)) z (by rw[aE]; rfl) ai cH b6 fun p6 cq bX b9 aT cn bS=>sg z z<|q'<|F'<|F'<|b'<|x'<|yy (W' z z) z<|mv z z<|q'<|T' ⟨n,t,u,m,(l++[aV]),p6,cq,bX,i64.wrap (P+1),b9⟩ hr ⟨(mx (mx (mx al aD) aI) aT),(ar.mono (mx (mx aD aI) aT)),ak,cn,bS⟩ (f7 z z z z z z z) (w3 z z z)
    refine n'<|F'<|F'<|b'<|x'<|yy (W' z z) z<|mv z z<|q'<|T' ⟨n,t,u,m,l,s,q,p,i64.wrap (P+1),am⟩ hr ⟨al,ar,ak,aq,ai⟩ (f7 z z z z z z z) (w3 z z z)
   refine ae'<|h'<|h'<|I'<|af' ⟨n,t,u,m,l,s,q,p,am⟩ ⟨al,ar,ak,aq,ai,hr⟩ (f4 z z z z) (w3 z z z)
 rintro⟨L,ae,ad,ab,M,ac,af,aa,aF⟩ ⟨cL,bn,ck,bx,cl,hr⟩
 refine b'<|sr<|mv z z<|mv z z ?_
 obtain⟨bK,b4,hr⟩:=hr
 refine N' z z (m' E49 z) (ZdU _ _ _ _ b4) z (bn) (fun cW c8 bG bh=>?_)
 obtain⟨bt,bi,rfl,bB⟩:=bh
 refine mv z z ?_
 obtain⟨bL,cb,hr⟩:=hr
 refine N' z z (m' E49 z) (ZdU _ _ _ _ cb) z ((bx.mono bG)) (fun cQ c7 a8 bf=>?_)
 obtain⟨bj,bz,rfl,bo⟩:=bf
 refine yy (au' (vs:=#[(0,i' g),(1,.slice bt bK.length bi),(2,.slice bj bL.length bz)]) (v:=.agg ([i' g,.slice bt bK.length bi,.slice bj bL.length bz]).toArray) z z (fun _=>by kernel_rfl)) z<|X' 16 z z28 z fun b2=>B' 16 z bB' z z z z z (List.all_eq_true.1 z)<|nx<|g'<|sr<|yy (cR' z) z<|yy (o' 16 sc25 z z z) z<|yy (O' M' (bB.mono a8) z) z<|aE' hr z (aS' z z) z (fun cJ hr=>?_) (fun cJ hr=>?_)
 .refine mv z z<|sn4 z<|yy (w' z z) z<|nx<|aB' z<|sr<|yy (au' (vs:=#[]) (v:=.agg ([i' 0,.slice none 0 0,.slice none 0 0]).toArray) z z (fun _=>by kernel_rfl)) z<|B' 6 z bB' z z z z z (List.all_eq_true.1 z)<|sx0 z z<|k'<|f' ?_
  obtain rfl:_=r:=hr
  exact bd' z (aw' (i:=6) bj' z z z) z ⟨_,_,_,_,z,(ay' (Rp.sl a') _),(ay' (Rp.sl a') _)⟩
 refine mv z z<|gy z z (cB' z) z<|gy z z (o' 16 sc25 z z z) z<|gy z z (O' M' bo z) z<|gy z z (aS' z z) z<|yy (t' z z) z<|nx<|P' hr z (fun cK hr=>?_) (fun cK hr=>?_)
 .refine sr<|yy (au' (vs:=#[]) (v:=.agg ([i' 0,.slice none 0 0,.slice none 0 0]).toArray) z z (fun _=>by kernel_rfl)) z<|B' 6 z bB' z z z z z (List.all_eq_true.1 z)<|sx0 z z<|k'<|f' ?_
  obtain rfl:_=r:=hr
  exact bd' z (aw' (i:=6) bj' z z z) z ⟨_,_,_,_,z,(ay' (Rp.sl a') _),(ay' (Rp.sl a') _)⟩
 refine n'<|b'<|sr<|yy (D' 16 bj' z z z) z<|B' 6 z bB' z z z z z (List.all_eq_true.1 z)<|sx0 z z<|k' ?_
 obtain rfl:_=r:=hr
 exact bd' z (aw' (i:=6) bj' z z z) z ⟨_,_,_,_,z,(bB.mono a8),bo⟩
end Go.Proofs.YtoakocgcakgpnaaGreat

