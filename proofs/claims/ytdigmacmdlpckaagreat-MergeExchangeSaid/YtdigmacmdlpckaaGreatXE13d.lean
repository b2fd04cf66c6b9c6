/- The law MergeExchange holds for every input: a part of its proof (what the code does, plain models, and what they return). No condition. -/
import Derived.Test.YtdigmacmdlpckaaGreatXE13c
import Derived.Test.YtdigmacmdlpckaaGreatXE13b
set_option linter.unusedVariables false
set_option linter.unusedSimpArgs false
namespace Go.EL
open Go.IntKind (i8 i16 i32 i64 u8 u16 u32 u64)
open Go Go.RowKit
instance aeG:Inhabited M:=⟨λ_=>0⟩
def oR(k:Nat)(f a:M):M:=λi=>if i.val<k then f i else a i
theorem Qi{k:Nat}(f a:M)(h:k<8):å (oR k f a) k (f ⟨k,h⟩)=oR (k+1) f a:=by
 funext i; unfold å oR
 by_cases e:i.val=k
 .have:i=⟨k,h⟩:=gg e
  subst this; simp
 have c:(i.val<k+1)=(i.val<k):=by apply propext; omega
 simp[e,c]
theorem RF{k:Nat}(f a:M)(h:k<8):oR k f a ⟨k,h⟩=a ⟨k,h⟩:=by unfold oR; simp
theorem Qj(f a:M):oR 0 f a=a:=by funext i; simp[oR]
theorem Rq{k:Nat}(f a:M)(h:¬ k<8):oR k f a=f:=by
 funext i
 have:i.val<k:=by omega
 simp[oR,this]
theorem YY{p:Fin 8->Prop}{k:Nat}(a:∀ i:Fin 8,i.val<k->p i)(h:k<8)(c:p ⟨k,h⟩):∀ i:Fin 8,i.val<k+1->p i:=λi hi=>by
 by_cases e:i.val=k
 .have:i=⟨k,h⟩:=gg e
  rw[this]; exact c
 exact a i (by omega)
def Ok(a:M):Prop:=∀ i,0<=a i/\a i<=65535
instance RY (a:M):Decidable (Ok a):=inferInstanceAs (Decidable (∀ i,0<=a i/\a i<=65535))
def p2:Nat->Int
 | 0=>1
 | k+1=>2*p2 k
theorem ZvA:∀ {k:Nat},k<=8->1<=p2 k/\p2 k<=256
 | 0,_=>by decide
 | 1,_=>by decide
 | 2,_=>by decide
 | 3,_=>by decide
 | 4,_=>by decide
 | 5,_=>by decide
 | 6,_=>by decide
 | 7,_=>by decide
 | 8,_=>by decide
 | k+9,h=>by omega
theorem Fu{k:Nat}(h:k<8):1<=p2 k/\p2 k<=128:=by
 have:=ZvA (k:=k+1) (by omega)
 simp only[p2] at this
 omega
theorem P1{k:Nat}(h:k<8):u8.wrap (1*2 ^ (min (k:Int).toNat u8.bits))=p2 k:=by
 match k,h with
 | 0,_=>decide|1,_=>decide|2,_=>decide|3,_=>decide|4,_=>decide|5,_=>decide|6,_=>decide|7,_=>decide
theorem ZuV{k:Nat}(h:k<8):u8.wrap (p2 k)=p2 k:=by
 match k,h with
 | 0,_=>decide|1,_=>decide|2,_=>decide|3,_=>decide|4,_=>decide|5,_=>decide|6,_=>decide|7,_=>decide
def Ý(a:M):Nat->Int
 | 0=>0
 | k+1=>Ý a k+(if h:k<8 then (if 0<a ⟨k,h⟩ then p2 k else 0) else 0)
def mB(a:M):Int:=Ý a 8
theorem Bq(a:M):∀ k:Nat,0<=Ý a k/\Ý a k<p2 k
 | 0=>by simp[Ý,p2]
 | k+1=>by
  have c:=Bq a k
  simp only[Ý,p2]
  split
  .split <;> omega
  omega
theorem OH(a:M){k:Nat}(h:k<8)(c:0<a ⟨k,h⟩):Ý a k+p2 k=Ý a (k+1):=by simp[Ý,h,c]
theorem PR(a:M){k:Nat}(h:k<8)(c:¬ 0<a ⟨k,h⟩):Ý a k=Ý a (k+1):=by simp[Ý,h,c]
theorem Zsq:∀ k:Fin 8,∀ s:Fin 128,s.val<2 ^ k.val->u8.wrap (BitVec.ofInt u8.bits (s.val:Int) ||| BitVec.ofInt u8.bits (p2 k.val)).toNat=s.val+p2 k.val:=by decide +kernel
theorem wo:∀ k:Nat,p2 k=((2 ^ k:Nat):Int)
 | 0=>rfl
 | k+1=>by rw[p2,wo k,Nat.pow_succ]; omega
theorem Zvz{k:Nat}(h:k<8){s:Int}(a:0<=s)(c:s<p2 k):u8.wrap (BitVec.ofInt u8.bits s ||| BitVec.ofInt u8.bits (p2 k)).toNat=s+p2 k:=by
 obtain⟨n,rfl⟩:=Ļ a
 have d:=Fu h
 rw[wo] at c
 exact Zsq ⟨k,h⟩ ⟨n,by rw[wo] at d; omega⟩ (by simp; omega)
theorem Zvc{k:Nat}(h:k<8){s:Int}(a:0<=s)(c:s<p2 k):u8.wrap (s+p2 k)=s+p2 k:=by
 have d:=Fu h
 simp only[IntKind.wrap,IntKind.bits,IntKind.signed,Ű,Ŏ,aad]
 omega
theorem Cq.Zp{σ ρ:Type}{step:σ->Cq (σ⊕ρ)}{Φ:ρ->Prop}(n:Nat)(I:Nat->σ->Prop)(h:∀ k s,k<n->I k s->(step s).wp (Out (λf=>I (k+1) f) Φ))(a:∀ s,I n s->(step s).wp (Out (λ_=>False) Φ)):
  ∀ {s:σ},I 0 s->(Cq.loop step s).wp Φ:=by
 have key:∀ d k s,k+d=n->I k s->(Cq.loop step s).wp Φ:=by
  intro d
  induction d with
  | zero=>intro k s e c; rw[ŷ] at e; subst e; exact Cq.sK ((step s).mono (Out.mono (λ_ h=>h.elim) (λ_ x=>x)) (a s c))
  | succ d g=>intro k s e c; exact Cq.sK ((step s).mono (Out.mono (λf h'=>g (k+1) f (by omega) h') (λ_ x=>x)) (h k s (by omega) c))
 exact λ{s} c=>key n 0 s (by omega) c
theorem Β{k:Nat}(h:k<1000000000000):i64.wrap ((k:Int)+1)=((k+1:Nat):Int):=by rw[wrap64 (by omega)]; simp
theorem â{α:Type}{l:Ŀ α}{k:Nat}(h:k<l.length):(0:Int)<=(k:Int)/\l[(k:Int).toNat]? = some l[k]:=⟨by omega,by simp[h]⟩
theorem hU{a:M}{k:Nat}(h:k<8):Κ a (k:Int)=a ⟨k,h⟩:=by rw[qE (by omega)]; rfl
theorem W9(m:M):(Hr m).ο (mB m):=by
 show (Cq.loop _ _).wp _
 refine Cq.Zp 8 (λk s=>s=(Ý m k,(k:Int))) (λk s a c=>?_) (λs c=>?_) rfl
 .subst c
  refine Cq.wp.yes (p:=(k:Int)<8) (by omega) ?_
  refine⟨by omega,?_⟩
  rw[Cq.Zd,hU a]
  have d:=Bq m k
  split
  .rename_i h
   refine⟨by omega,?_⟩
   show _=_
   rw[Β (by omega),P1 a,Zvz a d.1 d.2,OH m a h]
  rename_i h
  show _=_
  rw[Β (by omega),PR m a h]
 subst c
 refine Cq.wp.no (p:=((8:Nat):Int)<8) (by omega) ?_
 rfl
theorem H4(a b:M):(BK a b).ο (gO a b):=by
 refine Cq.Zp 8 (λk s=>s=(k:Int)/\∀ i:Fin 8,i.val<k->a i=b i) (λk s c d=>?_) (λs d=>?_) ⟨rfl,λi hi=>by omega⟩
 .obtain⟨rfl,hi⟩:=d
  rw[Cq.Zd,Ă (by omega)]
  refine⟨by omega,by omega,?_⟩
  rw[Cq.Zd,hU c,hU c]
  split
  .rename_i h
   show _=_
   exact (Rf a b c hi h).symm
  rename_i h
  refine⟨by omega,by omega,?_⟩
  rw[Cq.Zd]
  split
  .rename_i e
   show _=_
   exact (Re a b c hi e).symm
  exact⟨Β (by omega),YY hi c (by omega)⟩
 obtain⟨rfl,hi⟩:=d
 rw[Cq.Zd,Ā (by omega)]
 show _=_
 exact (Rc a b (λi=>hi i i.isLt)).symm
theorem Xp{i:Nat}(hi:i<8):(JV (i:Int)).ο (p2 i):=by
 refine Cq.Zp i (λk s=>s=(p2 k,(k:Int))) (λk s c a=>?_) (λs a=>?_) rfl
 .subst a
  show (if (k:Int)<(i:Int) then _ else _:Cq _).wp _
  have:=Fu (k:=k) (by omega)
  rw[Cq.Zd,Ă (by omega)]
  show _=_
  rw[Β (by omega),wrap64 (by omega)]; rfl
 subst a
 refine Cq.wp.no (p:=(i:Int)<(i:Int)) (by omega) ?_
 exact ZuV hi
theorem U1(m:M):(H5 m).ο (mB m):=by
 refine Cq.Zp 8 (λk s=>s=(Ý m k,(k:Int))) (λk s a c=>?_) (λs c=>?_) rfl
 .subst c
  have d:=Bq m k
  refine Cq.wp.yes (p:=(k:Int)<8) (by omega) ?_
  refine⟨by omega,?_⟩
  rw[Cq.Zd,hU a]
  split
  .rename_i hp
   refine⟨_,Xp a,?_⟩
   show _=_
   rw[Β (by omega),Zvc a d.1 d.2,OH m a hp]
  rename_i hp
  show _=_
  rw[Β (by omega),PR m a hp]
 subst c
 refine Cq.wp.no (p:=((8:Nat):Int)<8) (by omega) ?_
 rfl
theorem Nh{m:M}(h:Ok m):(D8 m).ο true:=by
 refine Cq.Zp 8 (λk s=>s=(k:Int)) (λk s c a=>?_) (λs a=>?_) rfl
 .subst a
  have:=h ⟨k,c⟩
  rw[Cq.Zd,Ă (by omega)]
  refine⟨by omega,?_⟩
  rw[Cq.Zd,hU c,Ā (by omega)]
  refine⟨by omega,?_⟩
  rw[Cq.Zd,Ā (by omega)]
  exact Β (by omega)
 subst a
 rw[Cq.Zd,Ā (by omega)]
 rfl
theorem Pj{m:M}(h:Ok m):(Dz m).ο true:=by
 refine Cq.Zp 8 (λk s=>s=(k:Int)) (λk s c a=>?_) (λs a=>?_) rfl
 .subst a
  have:=h ⟨k,c⟩
  refine Cq.wp.yes (p:=(k:Int)<8) (by omega) ?_
  refine⟨by omega,?_⟩
  rw[Cq.Zd,hU c,Ā (by omega),Cq.Zd,Ā (by omega)]
  exact Β (by omega)
 subst a
 refine Cq.wp.no (p:=((8:Nat):Int)<8) (by omega) ?_
 rfl
def Î(m:M):Nat->Int
 | 0=>0
 | k+1=>Î m k+(if h:k<8 then m ⟨k,h⟩ else 0)
def gV(m:M):Int:=Î m 8
theorem Ez{m:M}(h:Ok m):∀ k:Nat,0<=Î m k/\Î m k<=65535*k
 | 0=>by simp[Î]
 | k+1=>by
  have c:=Ez h k
  simp only[Î]
  split
  .rename_i a; have:=h ⟨k,a⟩; omega
  omega
theorem Vb{m:M}(h:Ok m):(Io m).ο (gV m):=by
 refine Cq.Zp 8 (λk s=>s=(Î m k,(k:Int))) (λk s a c=>?_) (λs c=>?_) rfl
 .subst c
  have d:=Ez h k
  have e:=h ⟨k,a⟩
  refine Cq.wp.yes (p:=(k:Int)<8) (by omega) ?_
  refine⟨by omega,?_⟩
  show _=_
  rw[Β (by omega),hU a,wrap64 (by omega),Î,Ŗ a]
 subst c
 refine Cq.wp.no (p:=((8:Nat):Int)<8) (by omega) ?_
 rfl
theorem XM{m:M}(h:Ok m):(Hm m).ο (gV m):=by
 refine Cq.Zp 8 (λk s=>s=(Î m k,(k:Int))) (λk s a c=>?_) (λs c=>?_) rfl
 .subst c
  have d:=Ez h k
  have e:=h ⟨k,a⟩
  refine Cq.wp.yes (p:=(k:Int)<8) (by omega) ?_
  refine⟨by omega,?_⟩
  show _=_
  rw[Β (by omega),hU a,wrap64 (by omega),Î,Ŗ a]
 subst c
 refine Cq.wp.no (p:=((8:Nat):Int)<8) (by omega) ?_
 rfl
def mulM(a b:M):M:=λi=>a i+b i
theorem Xq{a b:M}(f:Ok a)(g:Ok b)(d:Ok (mulM a b)):(JW a b).ο (mulM a b,0):=by
 show (Cq.next _ _).wp _
 refine Cq.Zp 8 (λk s=>s=((k:Int),oR k (mulM a b) a)) (λk s c e=>?_) (λs e=>?_) (by rw[Qj]; rfl)
 .subst e
  have h:=f ⟨k,c⟩
  have i:=g ⟨k,c⟩
  rw[Cq.Zd,Ă (by omega)]
  refine⟨by omega,by omega,by omega,?_⟩
  show _=_
  rw[Β (by omega),hU c,hU c,RF,wrap64 (by omega)]
  exact ć (Prod.mk _) (Qi (mulM a b) a c)
 subst e
 rw[Cq.Zd,Ā (by omega),Rq _ _ (by omega)]
 exact⟨true,Nh d,rfl⟩
end Go.EL

namespace Go.EL
open Go.IntKind (i8 i16 i32 i64 u8 u16 u32 u64)
open Go Go.RowKit
structure iR (t:Za):Prop where
 c:∃ c:Int,t.c=ð c/\c≠0/\-12<=c/\c<=12
 m:Ok t.m
structure ν (p:Ŀ Za):Prop where
 ord:p.Pairwise λx y=>0<gO x.m y.m
 sI:∀ t ∈ p,iR t
 len:p.length<=100
theorem iR.rv{t:Za}(h:iR t):(D7 t.c).ο true:=by
 obtain⟨⟨c,e,a,d,f⟩,_⟩:=h
 have:=Zv ZsT (x:=c) (by omega) (by omega)
 rw[e]
 exact ZC (by simpa [a] using this)
theorem iR.rs{t:Za}(h:iR t):∃ s,(uB t.c).ο s/\s≠0:=by
 obtain⟨⟨c,e,a,d,f⟩,_⟩:=h
 have:=Zv Jw (x:=c) (by omega) (by omega)
 rw[e]
 exact⟨_,ZC this,by split <;> omega⟩
theorem iR.pv{t:Za}(h:iR t):(DB t.c).ο true:=by
 obtain⟨⟨c,e,a,d,f⟩,_⟩:=h
 have:=Zv YP (x:=c) (by omega) (by omega)
 rw[e]
 exact ZC (by simpa [a] using this)
theorem iR.ps{t:Za}(h:iR t):∃ s,(ZL t.c).ο s/\s≠0:=by
 obtain⟨⟨c,e,a,d,f⟩,_⟩:=h
 have:=Zv IW (x:=c) (by omega) (by omega)
 rw[e]
 refine⟨_,ZC (by simpa [a] using this),?_⟩
 split <;> first|omega|(split <;> omega)
theorem ν.at{p:Ŀ Za}(h:ν p){k:Nat}(a:k<p.length):iR p[k]:=h.sI _ (Ċ a)
theorem ν.step{p:Ŀ Za}(h:ν p){k:Nat}(a:k+1<p.length):0<gO p[k].m p[k+1].m:=Ę.1 h.ord k (k+1) (by omega) a (by omega)
theorem V0{p:Ŀ Za}(h:ν p):(IE p).ο true:=by
 have l:=h.len
 refine Cq.Zp p.length (λk s=>s=(k:Int)) (λk s a c=>?_) (λs c=>?_) rfl
 .subst c
  have d:=h.at a
  obtain⟨s,e,f⟩:=d.rs
  rw[Cq.Zd,Ă (by omega)]
  refine⟨p[k],â a,true,d.rv,p[k],â a,s,e,?_⟩
  rw[Cq.Zd,Ā f]
  refine⟨p[k],â a,true,Nh d.m,?_⟩
  rw[Cq.Zd,Ā (by decide)]
  show (DJ p (k:Int)).wp _
  unfold DJ
  rw[Cq.Zd]
  split
  .rename_i i
   obtain⟨j,rfl⟩:∃ j,k=j+1:=⟨k-1,by omega⟩
   have g:i64.wrap (((j+1:Nat):Int)-1)=(j:Int):=by rw[wrap64 (by omega)]; omega
   rw[g]
   refine⟨p[j],â (by omega),p[j+1],â a,_,H4 _ _,?_⟩
   have:=h.step a
   rw[Cq.Zd,Ā (by omega)]
   exact Β (by omega)
  exact Β (by omega)
 subst c
 rw[Cq.Zd,Ā (by omega)]
 rfl
theorem Mh{p:Ŀ Za}(h:ν p):(DE p).ο true:=by
 have l:=h.len
 refine Cq.Zp p.length (λk s=>s=(k:Int)) (λk s a c=>?_) (λs c=>?_) rfl
 .subst c
  have d:=h.at a
  obtain⟨s,e,f⟩:=d.ps
  refine Cq.wp.yes (p:=(k:Int)<(p.length:Int)) (by omega) ?_
  refine⟨p[k],â a,true,d.pv,s,e,?_⟩
  rw[Cq.Zd,Ā f]
  refine⟨true,Pj d.m,?_⟩
  rw[Cq.Zd,Ā (by decide)]
  show (Dm p (k:Int) p[k]).wp _
  unfold Dm
  rw[Cq.Zd]
  split
  .rename_i i
   obtain⟨j,rfl⟩:∃ j,k=j+1:=⟨k-1,by omega⟩
   have g:i64.wrap (((j+1:Nat):Int)-1)=(j:Int):=by rw[wrap64 (by omega)]; omega
   rw[g]
   refine⟨p[j],â (by omega),_,Hq _ _,?_⟩
   have:=h.step a
   rw[Cq.Zd,Ā (by omega)]
   exact Β (by omega)
  exact Β (by omega)
 subst c
 refine Cq.wp.no (p:=((p.length:Nat):Int)<(p.length:Int)) (by omega) ?_
 rfl
def kK(p:Ŀ Za):Nat->Int
 | 0=>0
 | k+1=>u8.wrap (BitVec.ofInt u8.bits (kK p k) ||| BitVec.ofInt u8.bits (match p[k]? with|some t=>mB t.m|none=>0)).toNat
def iY(p:Ŀ Za):Int:=kK p p.length
def iM(p:Ŀ Za):Nat->Int
 | 0=>-1
 | k+1=>match p[k]? with|some t=>if iM p k<gV t.m then gV t.m else iM p k|none=>iM p k
def jZ(p:Ŀ Za):Int:=iM p p.length
theorem HL{p:Ŀ Za}(d:p.length<=100):(BE p).ο (iY p):=by
 refine Cq.Zp p.length (λk s=>s=(kK p k,(k:Int))) (λk s c a=>?_) (λs a=>?_) rfl
 .subst a
  refine Cq.wp.yes (p:=(k:Int)<(p.length:Int)) (by omega) ?_
  refine⟨p[k],â c,_,U1 _,?_⟩
  show _=_
  rw[Β (by omega)]
  simp only[kK,Ą c]
 subst a
 refine Cq.wp.no (p:=((p.length:Nat):Int)<(p.length:Int)) (by omega) ?_
 rfl
theorem Jt{p:Ŀ Za}(d:p.length<=100):(AO p).ο (iY p):=by
 refine Cq.Zp p.length (λk s=>s=(kK p k,(k:Int))) (λk s c a=>?_) (λs a=>?_) rfl
 .subst a
  refine Cq.wp.yes (p:=(k:Int)<(p.length:Int)) (by omega) ?_
  refine⟨p[k],â c,_,W9 _,?_⟩
  show _=_
  rw[Β (by omega)]
  simp only[kK,Ą c]
 subst a
 refine Cq.wp.no (p:=((p.length:Nat):Int)<(p.length:Int)) (by omega) ?_
 rfl
theorem Ve{p:Ŀ Za}(h:ν p):(Iq p).ο (jZ p):=by
 have d:=h.len
 refine Cq.Zp p.length (λk s=>s=(iM p k,(k:Int))) (λk s a c=>?_) (λs c=>?_) rfl
 .subst c
  refine Cq.wp.yes (p:=(k:Int)<(p.length:Int)) (by omega) ?_
  refine⟨p[k],â a,_,Vb (h.at a).m,?_⟩
  show _=_
  rw[Β (by omega)]
  simp only[iM,Ą a]
 subst c
 refine Cq.wp.no (p:=((p.length:Nat):Int)<(p.length:Int)) (by omega) ?_
 rfl
theorem Bd{p:Ŀ Za}(h:ν p):(Z6 p).ο (jZ p):=by
 have d:=h.len
 refine Cq.Zp p.length (λk s=>s=(iM p k,(k:Int))) (λk s a c=>?_) (λs c=>?_) rfl
 .subst c
  refine Cq.wp.yes (p:=(k:Int)<(p.length:Int)) (by omega) ?_
  refine⟨p[k],â a,_,XM (h.at a).m,?_⟩
  show _=_
  rw[Β (by omega)]
  simp only[iM,Ą a]
 subst c
 refine Cq.wp.no (p:=((p.length:Nat):Int)<(p.length:Int)) (by omega) ?_
 rfl
end Go.EL

namespace Go.EL
open Go.IntKind (i8 i16 i32 i64 u8 u16 u32 u64)
open Go Go.RowKit
def Í(p:Ŀ Za)(n:Int):Bool:=if (Int.fdiv (i64.wrap (iY p)) (2 ^ (min (n).toNat i64.bits)))=0 then decide (jZ p<=12) else false
theorem Nb{p:Ŀ Za}(h:ν p){n:Int}(a:0<=n):(ES p n).ο (Í p n):=by
 refine⟨true,V0 h,_,HL h.len,a,?_⟩
 unfold Í
 rw[Cq.Zd]
 split
 .exact⟨_,Ve h,rfl⟩
 rfl
theorem M0{p:Ŀ Za}(h:ν p){n:Int}(a:0<=n):(DY p n).ο (Í p n):=by
 refine⟨true,Mh h,_,Jt h.len,a,?_⟩
 unfold Í
 rw[Cq.Zd]
 split
 .exact⟨_,Bd h,rfl⟩
 rfl
theorem OG(a:M):∀ k:Nat,k<=8->∀ i:Fin 8,(Ý a k).toNat.testBit i.val=(decide (i.val<k) && decide (0<a i))
 | 0,_,i=>by simp[Ý]
 | k+1,j,i=>by
  have g:=OG a k (by omega) i
  have d:=Bq a k
  have c:k<8:=by omega
  rw[wo] at d
  simp only[Ý,Ŗ c]
  by_cases hi:i.val=k
  .have e:i=⟨k,c⟩:=gg hi
   subst e
   by_cases hp:0<a ⟨k,c⟩
   .rw[Ă hp,wo,show (Ý a k+((2 ^ k:Nat):Int)).toNat=2 ^ k+(Ý a k).toNat by omega,Nat.testBit_two_pow_add_eq,ź (by omega)]
    simp[hp]
   rw[Ā hp,aaH]
   show (Ý a k).toNat.testBit k=_
   rw[ź (by omega)]
   simp[hp]
  have f:(decide (i.val<k+1))=decide (i.val<k):=by
   by_cases h:i.val<k
   .simp[h,show i.val<k+1 by omega]
   simp[h,show ¬ i.val<k+1 by omega]
  rw[f,<- g]
  by_cases hp:0<a ⟨k,c⟩
  .rw[Ă hp,wo,show (Ý a k+((2 ^ k:Nat):Int)).toNat=2 ^ k+(Ý a k).toNat by omega]
   by_cases h:i.val<k
   .rw[Nat.testBit_two_pow_add_gt h]
   rw[ź (x:=(Ý a k).toNat) (fk (by omega:(Ý a k).toNat<2 ^ k) (aaU (by omega) (by omega)))]
   refine ź (fk (by have:=d.2; omega:2 ^ k+(Ý a k).toNat<2 ^ (k+1)) (aaU (by omega) (by omega)))
  rw[Ā hp,aaH]
theorem ZsL(a:M)(i:Fin 8):(mB a).toNat.testBit i.val=decide (0<a i):=by
 unfold mB
 rw[OG a 8 (by omega)]
 simp[i.isLt]
theorem QL(a:M):0<=mB a/\mB a<256:=Bq a 8
theorem RJ{a b:Nat}(c:a<256)(d:b<256):u8.wrap (BitVec.ofInt u8.bits (a:Int) ||| BitVec.ofInt u8.bits (b:Int)).toNat=((a ||| b:Nat):Int):=by
 have h:(BitVec.ofInt u8.bits (a:Int) ||| BitVec.ofInt u8.bits (b:Int)).toNat=a ||| b:=by
  rw[BitVec.toNat_or]
  simp only[IntKind.bits,BitVec.toNat_ofInt]
  rw[show (((a:Int) % ((2 ^ 8:Nat):Int)).toNat)=a by omega,show (((b:Int) % ((2 ^ 8:Nat):Int)).toNat)=b by omega]
 have e:a ||| b<256:=Nat.or_lt_two_pow (n:=8) c d
 rw[h]
 simp only[IntKind.wrap,IntKind.bits,IntKind.signed,Ű,Ŏ,aad]
 omega
def mH(p:Ŀ Za):Nat->Nat
 | 0=>0
 | k+1=>mH p k ||| (match p[k]? with|some t=>(mB t.m).toNat|none=>0)
theorem Jy(p:Ŀ Za):∀ k,mH p k<256
 | 0=>by simp[mH]
 | k+1=>by
  refine Nat.or_lt_two_pow (n:=8) (Jy p k) ?_
  split
  .rename_i t _
   have h:(mB t.m).toNat<256:=by have:=QL t.m; omega
   exact h
  decide
theorem OI(p:Ŀ Za):∀ k,kK p k=(mH p k:Int)
 | 0=>rfl
 | k+1=>by
  have a:=Jy p k
  unfold kK mH
  rw[OI p k]
  cases p[k]? with
  | none=>exact RJ (b:=0) a (by omega)
  | some t=>
   have h:=QL t.m
   obtain⟨n,c⟩:=Ļ h.1
   show u8.wrap (BitVec.ofInt u8.bits (mH p k:Int) ||| BitVec.ofInt u8.bits (mB t.m)).toNat=((mH p k ||| (mB t.m).toNat:Nat):Int)
   rw[c]
   exact RJ a (by omega)
theorem PW(p:Ŀ Za)(i:Fin 8):∀ k,(mH p k).testBit i.val=(p.take k).any λt=>decide (0<t.m i)
 | 0=>by simp[mH]
 | k+1=>by
  simp only[mH,Nat.testBit_or,PW p i k]
  cases h:p[k]? with
  | none=>
   have:p.length<=k:=aan.1 h
   simp[ľ this,ľ (show p.length<=k+1 by omega)]
  | some t=>
   rw[List.take_add_one,h]
   simp[ZsL]
theorem PX(p:Ŀ Za):iY p=(mH p p.length:Int):=OI p _
theorem Et(p:Ŀ Za)(i:Fin 8):(iY p).toNat.testBit i.val=p.any λt=>decide (0<t.m i):=by
 rw[PX,ģ,PW,ě]
theorem Jz(p:Ŀ Za):0<=iY p/\iY p<256:=by have:=Jy p p.length; rw[PX]; omega
theorem Ztl(u n:Nat):Int.fdiv (u:Int) ((2:Int) ^ n)=((u >>> n:Nat):Int):=by
 rw[abf,show ((2:Int) ^ n)=((2 ^ n:Nat):Int) by simp,Int.fdiv_eq_ediv_of_nonneg _ (Int.natCast_nonneg _)]
 simp
theorem OF(p:Ŀ Za){n:Int}(c:0<=n)(d:n<=8):Int.fdiv (i64.wrap (iY p)) (2 ^ (min (n).toNat i64.bits))=(((iY p).toNat >>> n.toNat:Nat):Int):=by
 have:=Jz p
 rw[wrap64 (by omega),show min n.toNat i64.bits=n.toNat by simp only[IntKind.bits]; omega]
 obtain⟨u,a⟩:=Ļ this.1
 rw[a]
 exact Ztl u _
theorem Pr(p:Ŀ Za)(d:Int)(f:-1<=d):∀ k,k<=p.length->(iM p k<=d↔∀ i (h:i<p.length),i<k->gV p[i].m<=d)
 | 0,_=>by simp[iM,f]
 | k+1,m=>by
  have g:=Pr p d f k (by omega)
  have a:k<p.length:=by omega
  simp only[iM,Ą a]
  constructor
  .intro h i hi c
   by_cases e:i=k
   .subst e; split at h <;> omega
   refine g.1 ?_ i hi (by omega)
   split at h <;> omega
  intro h
  have j:=h k a (by omega)
  have l:=g.2 λi hi c=>h i hi (by omega)
  split <;> omega
theorem x0{p:Ŀ Za}{d:Int}(a:-1<=d):jZ p<=d↔∀ t ∈ p,gV t.m<=d:=by
 unfold jZ
 rw[Pr p d a p.length (by omega)]
 constructor
 .intro h t c
  obtain⟨i,hi,rfl⟩:=Ĩ.1 c
  exact h i hi hi
 intro h i hi _
 exact h _ (Ċ hi)
def tb(n:Nat)(p:Ŀ Za):Prop:=∀ t ∈ p,∀ i:Fin 8,n<=i.val->¬ 0<t.m i
theorem OJ{p:Ŀ Za}{n:Nat}:((iY p).toNat >>> n=0)↔tb n p:=by
 have f:=Jz p
 constructor
 .intro h t a i hi hp
  have c:=Et p i
  rw[show (p.any λt=>decide (0<t.m i))=true from ŕ.2 ⟨t,a,ē hp⟩] at c
  have d:((iY p).toNat >>> n).testBit (i.val-n)=true:=by rw[Nat.testBit_shiftRight,show n+(i.val-n)=i.val by omega]; exact c
  rw[h] at d
  simp at d
 intro h
 refine Nat.eq_of_testBit_eq λj=>?_
 rw[Nat.testBit_shiftRight,Nat.zero_testBit]
 by_cases e:n+j<8
 .rw[Et p ⟨n+j,e⟩]
  refine aaI.2 λt a=>?_
  simp only[Ģ]
  exact h t a _ (by simp)
 exact ź (fk (show (iY p).toNat<2 ^ 8 by omega) (aaU (by omega) (by omega)))
theorem ve{p:Ŀ Za}{n:Nat}(a:n<=8):Í p (n:Int)=true↔tb n p/\∀ t ∈ p,gV t.m<=12:=by
 unfold Í
 rw[OF p (by omega) (by omega),ģ]
 by_cases h:(iY p).toNat >>> n=0
 .rw[Ă (by rw[h]; rfl),Ģ,x0 (by omega)]
  exact⟨λk=>⟨OJ.1 h,k⟩,λk=>k.2⟩
 rw[Ā (by omega)]
 exact⟨λk=>absurd k (by decide),λk=>absurd (OJ.2 k.1) h⟩
def iA(i:Fin 8)(p:Ŀ Za):Bool:=p.any λt=>decide (0<t.m i)
theorem EU(p:Ŀ Za)(i:Fin 8):(Int.tmod (Int.fdiv (i64.wrap (iY p)) (2 ^ (min ((i.val:Int)).toNat i64.bits))) 2=1)↔iA i p=true:=by
 have:=i.isLt
 rw[OF p (by omega) (by omega),ģ]
 have h:=Et p i
 rw[Nat.testBit_eq_decide_div_mod_eq,<- abf] at h
 unfold iA
 rw[<- h,Ģ]
 generalize (iY p).toNat >>> i.val=z
 rw[abd (Int.natCast_nonneg z)]
 omega
theorem Zvd{a b:Nat}(d:a<256)(e:b<256):u8.wrap (BitVec.ofInt u8.bits (a:Int) &&& BitVec.ofInt u8.bits (b:Int)).toNat=((a &&& b:Nat):Int):=by
 have h:(BitVec.ofInt u8.bits (a:Int) &&& BitVec.ofInt u8.bits (b:Int)).toNat=a &&& b:=by
  rw[BitVec.toNat_and]
  simp only[IntKind.bits,BitVec.toNat_ofInt]
  rw[show (((a:Int) % ((2 ^ 8:Nat):Int)).toNat)=a by omega,show (((b:Int) % ((2 ^ 8:Nat):Int)).toNat)=b by omega]
 have c:a &&& b<=a:=Nat.and_le_left
 rw[h]
 simp only[IntKind.wrap,IntKind.bits,IntKind.signed,Ű,Ŏ,aad]
 omega
theorem ZsS(p:Ŀ Za)(i:Fin 8):(¬ (u8.wrap (BitVec.ofInt u8.bits (iY p) &&& BitVec.ofInt u8.bits (u8.wrap (1*2 ^ (min ((i.val:Int)).toNat u8.bits)))).toNat)=0)↔iA i p=true:=by
 have a:=Jz p
 have hi:=i.isLt
 have g:=Fu hi
 rw[P1 hi,wo]
 obtain⟨u,f⟩:=Ļ a.1
 have h:=Et p i
 rw[f,ģ] at h
 rw[wo] at g
 rw[f,Zvd (by omega) (by omega)]
 unfold iA
 rw[<- h]
 constructor
 .intro d
  cases a:u.testBit i.val with
  | true=>rfl
  | false=>
   exfalso
   apply d
   have:u &&& 2 ^ i.val=0:=by
    refine Nat.eq_of_testBit_eq λj=>?_
    rw[Nat.testBit_and,Nat.testBit_two_pow,Nat.zero_testBit]
    by_cases e:i.val=j
    .subst e; simp[a]
    simp[e]
   rw[this]; rfl
 intro m d
 have l:u &&& 2 ^ i.val=0:=by omega
 have c:(u &&& 2 ^ i.val).testBit i.val=true:=by rw[Nat.testBit_and,m,Nat.testBit_two_pow_self]; rfl
 rw[l] at c
 simp at c
end Go.EL

namespace Go.EL
open Go.IntKind (i8 i16 i32 i64 u8 u16 u32 u64)
open Go Go.RowKit
def l9(r:Zj):Int:=if r.num.neg=true then -(r.num.Α.headD 0) else r.num.Α.headD 0
theorem Bu(c:Int):l9 (ð c)=c:=by
 unfold l9 ð
 by_cases h:c<0
 .simp[h,show ¬ c=0 by omega]; omega
 by_cases a:c=0
 .simp[a]
 simp[h,a]; omega
theorem P7{a b:Int}(h:ð a=ð b):a=b:=by rw[<- Bu a,<- Bu b,h]
def iT:Ŀ Za->Za->Ŀ Za
 | [],t=>[t]
 | x::xs,t=>if 0<gO x.m t.m then x::iT xs t else if gO x.m t.m<0 then t::x::xs else if l9 x.c+l9 t.c=0 then xs else ⟨ð (l9 x.c+l9 t.c),x.m⟩::xs
theorem Oc:∀ (p:Ŀ Za) (t:Za),(iT p t).length<=p.length+1
 | [],_=>by simp[iT]
 | x::xs,t=>by
  have a:=Oc xs t
  simp only[iT]
  split
  .simp; omega
  split
  .simp
  split <;> simp; omega
theorem IG:∀ (k:Nat) (p:Ŀ Za) (t:Za),k<=p.length->(∀ x ∈ p.take k,0<gO x.m t.m)->iT p t=p.take k++iT (p.drop k) t
 | 0,p,t,_,_=>by simp
 | k+1,[],t,h,_=>by simp at h
 | k+1,x::xs,t,h,a=>by
  have c:0<gO x.m t.m:=a x (by simp)
  rw[iT,Ă c,IG k xs t (by simpa using h) (λy d=>a y (by simp[d]))]
  simp
def xy(p:Ŀ Za)(t:Za):Prop:=∀ x ∈ p,x.m=t.m->∃ a b,x.c=ð a/\t.c=ð b/\-12<=a/\a<=12/\-3<=b/\b<=3
theorem ZtD{p:Ŀ Za}{t x:Za}(h:xy p t)(l:x ∈ p)(j:x.m=t.m):(EW x.c t.c).ο (ð (l9 x.c+l9 t.c))/\∃ s,(uB (ð (l9 x.c+l9 t.c))).ο s/\(s=0↔l9 x.c+l9 t.c=0):=by
 obtain⟨a,b,c,d,e,f,g,i⟩:=h x l j
 rw[c,d,Bu,Bu]
 have m:=Zv (Zv Zup e f) g i
 have n:=Zv Jw (x:=a+b) (by omega) (by omega)
 refine⟨ZC m,_,ZC n,?_⟩
 split
 .omega
 split <;> omega
theorem Xr{p:Ŀ Za}(d:p.length<=100):(BL p []).ο p:=by
 show (Cq.next _ _).wp _
 refine Cq.Zp p.length (λk s=>s=(p.take k,(k:Int),0)) (λk s c a=>?_) (λs a=>?_) (by simp)
 .subst a
  refine Cq.wp.yes (p:=(k:Int)<(p.length:Int)) (by omega) ?_
  unfold xQ
  rw[Cq.Zd,Ă (by simp)]
  unfold vW
  rw[Cq.Zd,Ă rfl]
  refine⟨p[k],â c,by simp[small]; omega,?_⟩
  show _=_
  rw[Β (by omega),Ě c]
 subst a
 show (if ((p.length:Nat):Int)<(p.length:Int) then _ else _:Cq _).wp _
 rw[Cq.Zd,Ā (by omega),Cq.Zd,Ā (by simp)]
 exact ě
theorem NU{p:Ŀ Za}{t:Za}(C:p.length<=100)(A:xy p t):(BL p [t]).ο (iT p t):=by
 show (Cq.next _ _).wp _
 refine Cq.EI (λs=>(∃ i:Nat,i<=p.length/\s=(p.take i,(i:Int),0)/\∀ x ∈ p.take i,0<gO x.m t.m)\/(∃ i:Nat,∃ f:Ŀ Za,i<=p.length/\s=(f,(i:Int),1)/\f++p.drop i=iT p t/\f.length<=i+1))
  (λs=>(p.length-s.2.1.toNat)+(1-s.2.2.toNat)) (λs B=>?_) _ (.inl ⟨0,by omega,by simp,by simp⟩)
 have r:i64.wrap 1=1:=by decide
 rcases B with ⟨i,hi,rfl,m⟩|⟨i,f,hi,rfl,q,w⟩
 .by_cases a:i<p.length
  .refine Cq.wp.yes (p:=(i:Int)<(p.length:Int)) (by omega) ?_
   unfold xQ
   rw[Cq.Zd,Ā (by simp),Cq.Zd,Ă (by omega)]
   refine⟨p[i],â a,t,⟨by omega,rfl⟩,_,H4 _ _,?_⟩
   unfold vW
   rw[Cq.Zd]
   have d:iT p t=p.take i++iT (p.drop i) t:=IG i p t hi m
   have c:p.drop i=p[i]::p.drop (i+1):=Ĵ a
   by_cases g:0<gO p[i].m t.m
   .rw[Ă (ē g)]
    refine⟨p[i],â a,by simp[small]; omega,?_⟩
    rw[Β (by omega),Ě a]
    refine⟨.inl ⟨i+1,by omega,rfl,λx j=>?_⟩,by simp; omega⟩
    rw[<- Ě a] at j
    rcases ĉ.1 j with h|h
    .exact m x h
    rw[ī] at h; subst h; exact g
   rw[Ā (by simpa using g)]
   show (A9 p [t] 0 (p.take i) (i:Int)).wp _
   unfold A9
   rw[Cq.Zd,Ā (by omega)]
   refine⟨p[i],â a,t,⟨by omega,rfl⟩,_,H4 _ _,?_⟩
   unfold A8
   rw[Cq.Zd]
   by_cases e:gO p[i].m t.m<0
   .rw[Ă (ē e)]
    refine⟨t,⟨by omega,rfl⟩,by simp[small]; omega,?_⟩
    refine⟨.inr ⟨i,_,hi,rfl,?_,by simp; omega⟩,by simp[r]⟩
    rw[d,c,iT,Ā g,Ă e]
    simp
   rw[Ā (by simpa using e)]
   have y:p[i].m=t.m:=xL (by omega)
   obtain⟨u,s,v,n⟩:=ZtD A (Ċ a) y
   unfold Ip
   refine⟨p[i],â a,t,⟨by omega,rfl⟩,_,u,s,v,?_⟩
   rw[Cq.Zd]
   by_cases l:l9 p[i].c+l9 t.c=0
   .rw[Ā (by simpa using n.2 l)]
    rw[Β (by omega)]
    refine⟨.inr ⟨i+1,_,by omega,rfl,?_,by simp; omega⟩,by simp; omega⟩
    rw[d,c,iT,Ā g,Ā e,Ă l]
   rw[Ă (λh=>l (n.1 h))]
   refine⟨p[i],â a,by simp[small]; omega,?_⟩
   rw[Β (by omega)]
   refine⟨.inr ⟨i+1,_,by omega,rfl,?_,by simp; omega⟩,by simp; omega⟩
   rw[d,c,iT,Ā g,Ā e,Ā l]
   simp
  obtain rfl:i=p.length:=by omega
  show (if ((p.length:Nat):Int)<(p.length:Int) then _ else _:Cq _).wp _
  rw[Cq.Zd,Ā (by omega),Cq.Zd,Ă (by simp)]
  unfold xQ
  rw[Cq.Zd,Ā (by simp),Cq.Zd,Ā (by omega)]
  unfold vW
  rw[Cq.Zd,Ā (by decide)]
  unfold A9
  rw[Cq.Zd,Ă rfl]
  unfold A8
  rw[Cq.Zd,Ă rfl]
  refine⟨t,⟨by omega,rfl⟩,by simp[small]; omega,?_⟩
  refine⟨.inr ⟨p.length,_,by omega,rfl,?_,by simp⟩,by simp[r]⟩
  rw[IG p.length p t (by omega) m,ũ]
  simp[iT]
 by_cases a:i<p.length
 .refine Cq.wp.yes (p:=(i:Int)<(p.length:Int)) (by omega) ?_
  unfold xQ
  rw[Cq.Zd,Ă (by simp)]
  unfold vW
  rw[Cq.Zd,Ă rfl]
  refine⟨p[i],â a,by simp[small]; omega,?_⟩
  rw[Β (by omega)]
  refine⟨.inr ⟨i+1,_,by omega,rfl,?_,by simp; omega⟩,by simp; omega⟩
  rw[<- q,Ĵ a]
  simp
 obtain rfl:i=p.length:=by omega
 show (if ((p.length:Nat):Int)<(p.length:Int) then _ else _:Cq _).wp _
 rw[Cq.Zd,Ā (by omega),Cq.Zd,Ā (by simp)]
 show _=_
 rw[<- q,ũ,ğ]
end Go.EL

namespace Go.EL
open Go.IntKind (i8 i16 i32 i64 u8 u16 u32 u64)
open Go Go.RowKit
structure Ê (π:M):Prop where
 pC:∀ i,0<=π i/\π i<8
 inj:∀ i j,π i=π j->i=j
def iv(π m:M):Nat->M
 | 0=>λ_=>0
 | k+1=>if h:k<8 then å (iv π m k) (π ⟨k,h⟩).toNat (m ⟨k,h⟩) else iv π m k
def iH(π m:M):M:=iv π m 8
theorem PI{π:M}(h:Ê π)(m:M):∀ k,k<=8->∀ i:Fin 8,i.val<k->∀ j:Fin 8,(j.val:Int)=π i->iv π m k j=m i
 | 0,_,i,hi,_,_=>by omega
 | k+1,g,i,hi,j,d=>by
  have a:k<8:=by omega
  simp only[iv,Ŗ a,å]
  have r:=h.pC ⟨k,a⟩
  by_cases e:i.val=k
  .have:i=⟨k,a⟩:=gg e
   subst this
   rw[Ă (by omega)]
  have f:π i≠π ⟨k,a⟩:=λc=>e (ć Fin.val (h.inj _ _ c))
  rw[Ā (by omega)]
  exact PI h m k (by omega) i (by omega) j d
theorem NK{π:M}(h:Ê π)(m:M):∀ k,k<=8->∀ j:Fin 8,(∀ i:Fin 8,i.val<k->π i≠(j.val:Int))->iv π m k j=0
 | 0,_,_,_=>rfl
 | k+1,d,j,c=>by
  have a:k<8:=by omega
  have r:=h.pC ⟨k,a⟩
  have:=c ⟨k,a⟩ (by simp)
  simp only[iv,Ŗ a,å]
  rw[Ā (by omega)]
  exact NK h m k (by omega) j λi hi=>c i (by omega)
theorem IT{π m:M}(a:Ok m):∀ k,Ok (iv π m k)
 | 0=>λ_=>by simp[iv]
 | k+1=>λj=>by
  simp only[iv]
  split
  .rename_i c
   simp only[å]
   split
   .exact a _
   exact IT a k j
  exact IT a k j
theorem P2{π m:M}(a:Ok m):Ok (iH π m):=IT a 8
theorem uH{π:M}(h:Ê π)(m:M)(i j:Fin 8)(a:(j.val:Int)=π i):iH π m j=m i:=PI h m 8 (by omega) i i.isLt j a
theorem IQ{π:M}(h:Ê π){a b:M}(e:iH π a=iH π b):a=b:=by
 funext i
 have r:=h.pC i
 have c:=uH h a i ⟨(π i).toNat,by omega⟩ (by simp; omega)
 have d:=uH h b i ⟨(π i).toNat,by omega⟩ (by simp; omega)
 rw[<- c,<- d,e]
theorem Iw(f:M)(x:Int)(q:Nat):∀ k,k<=8->Î (å f q x) k=Î f k+(if h:q<8 then (if q<k then x-f ⟨q,h⟩ else 0) else 0)
 | 0,_=>by simp[Î]
 | k+1,g=>by
  have a:k<8:=by omega
  simp only[Î,Ŗ a,Iw f x q k (by omega),å]
  by_cases e:k=q
  .subst e
   simp[a]
   omega
  rw[Ā e]
  by_cases c:q<8
  .simp only[Ŗ c]
   by_cases d:q<k
   .rw[Ă d,Ă (by omega)]; omega
   rw[Ā d,Ā (by omega)]; omega
  simp only[dif_neg c]; omega
theorem D1{π:M}(h:Ê π)(m:M):gV (iH π m)=gV m:=by
 have key:∀ k,k<=8->gV (iv π m k)=Î m k:=by
  intro k
  induction k with
  | zero=>intro _; simp[iv,gV,Î]
  | succ k d=>
   intro f
   have a:k<8:=by omega
   have r:=h.pC ⟨k,a⟩
   have c:(π ⟨k,a⟩).toNat<8:=by omega
   simp only[iv,Ŗ a,Î]
   unfold gV at d ⊢
   rw[Iw _ _ _ 8 (by omega),Ŗ c,Ă c,d (by omega)]
   have:iv π m k ⟨(π ⟨k,a⟩).toNat,c⟩=0:=NK h m k (by omega) _ λi hi e=>by
    have:π i=π ⟨k,a⟩:=by simp at e; omega
    have:=ć Fin.val (h.inj _ _ this)
    simp at this; omega
   rw[this]; omega
 exact key 8 (by omega)
theorem Zss{π:M}(h:Ê π)(x:Za):(Mj π x (0,λ_=>0)).ο (iH π x.m):=by
 refine Cq.Zp 8 (λk s=>s=((k:Int),iv π x.m k)) (λk s a c=>?_) (λs c=>?_) rfl
 .subst c
  have r:=h.pC ⟨k,a⟩
  refine Cq.wp.yes (p:=(k:Int)<8) (by omega) ?_
  refine⟨by omega,by omega,by rw[hU a]; exact r,?_⟩
  show _=_
  rw[Β (by omega),hU a,hU a]
  simp only[iv,Ŗ a]
 subst c
 refine Cq.wp.no (p:=((8:Nat):Int)<8) (by omega) ?_
 rfl
theorem YK{π:M}(h:Ê π){p:Ŀ Za}{k:Nat}(d:k<p.length):(MQ p π (k:Int) (0,λ_=>0)).ο (iH π p[k].m):=by
 refine Cq.Zp 8 (λj s=>s=((j:Int),iv π p[k].m j)) (λj s a c=>?_) (λs c=>?_) rfl
 .subst c
  have r:=h.pC ⟨j,a⟩
  refine Cq.wp.yes (p:=(j:Int)<8) (by omega) ?_
  refine⟨by omega,p[k],â d,by omega,by rw[hU a]; exact r,?_⟩
  show _=_
  rw[Β (by omega),hU a,hU a]
  simp only[iv,Ŗ a]
 subst c
 refine Cq.wp.no (p:=((8:Nat):Int)<8) (by omega) ?_
 rfl
theorem QW{π:M}(h:Ê π){k:Nat}(a:k<8){c:Fin 8->Bool}(e:∀ j,c j=true->∃ i:Fin 8,i.val<k/\(j.val:Int)=π i):¬ Κ c (π ⟨k,a⟩)=true:=by
 have r:=h.pC ⟨k,a⟩
 rw[BM c (show (π ⟨k,a⟩).toNat<8 by omega)]
 intro f
 obtain⟨i,g,d⟩:=e _ f
 have:π i=π ⟨k,a⟩:=by simp at d; omega
 have:=ć Fin.val (h.inj _ _ this)
 simp at this; omega
theorem PM{π:M}(h:Ê π){k:Nat}(c:k<8){d:Fin 8->Bool}(f:∀ j,d j=true->∃ i:Fin 8,i.val<k/\(j.val:Int)=π i):∀ j,å d (π ⟨k,c⟩).toNat true j=true->∃ i:Fin 8,i.val<k+1/\(j.val:Int)=π i:=by
 intro j a
 have r:=h.pC ⟨k,c⟩
 simp only[å] at a
 split at a
 .exact⟨⟨k,c⟩,by simp,by omega⟩
 obtain⟨i,g,e⟩:=f j a
 exact⟨i,by omega,e⟩
theorem UM{π:M}(h:Ê π):(Hg π).ο true:=by
 show (Cq.next _ _).wp _
 refine Cq.Zp 8 (λk s=>∃ a:Fin 8->Bool,s=((k:Int),a)/\∀ j,a j=true->∃ i:Fin 8,i.val<k/\(j.val:Int)=π i) (λk s c e=>?_) (λs e=>?_) ⟨_,rfl,λj f=>by cases f⟩
 .obtain⟨a,rfl,d⟩:=e
  have r:=h.pC ⟨k,c⟩
  refine Cq.wp.yes (p:=(k:Int)<8) (by omega) ?_
  refine⟨by omega,?_⟩
  rw[hU c,Cq.Zd,Ā (by omega)]
  refine⟨by omega,?_⟩
  rw[Cq.Zd,Ā (by omega)]
  refine⟨by omega,r,?_⟩
  rw[Cq.Zd,Ā (QW h c d)]
  refine⟨by omega,r,?_⟩
  rw[Β (by omega)]
  exact⟨_,rfl,PM h c d⟩
 obtain⟨a,rfl,d⟩:=e
 refine Cq.wp.no (p:=((8:Nat):Int)<8) (by omega) ?_
 rfl
end Go.EL

namespace Go.EL
open Go.IntKind (i8 i16 i32 i64 u8 u16 u32 u64)
open Go Go.RowKit
def kW(π:M)(t:Za):Za:=⟨t.c,iH π t.m⟩
def jP(π:M)(l:Ŀ Za):Ŀ Za:=l.foldl (λa t=>iT a (kW π t)) []
def Ε(π:M)(p:Ŀ Za):Ŀ Za:=jP π p
theorem QA{p:Ŀ Za}{t:Za}:(∀ x ∈ p,x.m≠t.m)->(iT p t).Perm (t::p):=by
 induction p with
 | nil=>intro _; exact ů _
 | cons x xs d=>
  intro h
  have a:=h x (by simp)
  simp only[iT]
  split
  .exact ((d λy c=>h y (by simp[c])).cons x).trans (List.Perm.swap _ _ _)
  split
  .exact ů _
  exact absurd (xL (by omega)) a
theorem V2{a b c:M}(d:0<gO a b)(e:0<gO b c):0<gO a c:=by
 have f:=vd a b
 have g:=vd b c
 have h:=vd a c
 have:=Hw (a:=c) (b:=b) (c:=a) (by omega) (by omega) (.inl (by omega))
 omega
abbrev ko(p:Ŀ Za):Prop:=p.Pairwise λx y=>0<gO x.m y.m
theorem IF{p:Ŀ Za}{t:Za}:ko p->ko (iT p t)/\∀ z,(∀ x ∈ p,0<gO z x.m)->0<gO z t.m->∀ y ∈ iT p t,0<gO z y.m:=by
 induction p with
 | nil=>intro _; exact⟨by simp[iT],λz _ h y a=>by simp[iT] at a; subst a; exact h⟩
 | cons x xs q=>
  intro j
  obtain⟨f,g⟩:=Ğ.1 j
  obtain⟨n,l⟩:=q g
  simp only[iT]
  split
  .rename_i i
   refine⟨Ğ.2 ⟨l _ f i,n⟩,λz c d y a=>?_⟩
   rcases ą.1 a with rfl|a
   .exact c _ (by simp)
   exact l z (λw m=>c w (by simp[m])) d y a
  split
  .rename_i i
   have e:0<gO t.m x.m:=by have:=vd x.m t.m; omega
   refine⟨Ğ.2 ⟨λy a=>?_,j⟩,λz c d y a=>?_⟩
   .rcases ą.1 a with rfl|a
    .exact e
    exact V2 e (f y a)
   rcases ą.1 a with rfl|a
   .exact d
   exact c y a
  split
  .exact⟨g,λz c _ y a=>c y (by simp[a])⟩
  refine⟨Ğ.2 ⟨f,g⟩,λz c _ y a=>?_⟩
  rcases ą.1 a with rfl|a
  .exact c x (by simp)
  exact c y (by simp[a])
theorem Nq(π:M)(l:Ŀ Za)(t:Za):jP π (l++[t])=iT (jP π l) (kW π t):=by simp[jP,List.foldl_append]
theorem vX{p:Ŀ Za}(h:ko p):p.Pairwise λx y=>x.m≠y.m:=h.imp λhp e=>by rw[e,D0] at hp; omega
theorem Ii{π:M}(h:Ê π){p:Ŀ Za}(f:ko p):∀ k,k<=p.length->(jP π (p.take k)).Perm ((p.take k).map (kW π))/\ko (jP π (p.take k))
 | 0,_=>by simp[jP]
 | k+1,n=>by
  obtain⟨d,j⟩:=Ii h f k (by omega)
  have a:k<p.length:=by omega
  rw[<- Ě a,Nq]
  refine⟨?_,(IF j).1⟩
  have c:∀ x ∈ jP π (p.take k),x.m≠(kW π p[k]).m:=by
   intro x l e
   obtain⟨y,m,rfl⟩:=ă.1 (d.mem_iff.1 l)
   have g:=IQ h e
   obtain⟨i,hi,rfl⟩:=Ĩ.1 m
   simp only[Đ] at hi
   rw[ş] at g
   exact Ę.1 (vX f) i k (by omega) a (by omega) g
  refine (QA c).trans ?_
  rw[ķ]
  exact (d.cons _).trans (List.perm_append_comm (l₁:=[kW π p[k]]))
theorem ZR{π:M}(h:Ê π){p:Ŀ Za}(a:ko p):(Ε π p).Perm (p.map (kW π))/\ko (Ε π p):=by
 have:=Ii h a p.length (by omega)
 rwa [ě] at this
theorem ZM{π:M}(h:Ê π){p:Ŀ Za}(hp:ν p):ν (Ε π p):=by
 obtain⟨a,d⟩:=ZR h hp.ord
 refine⟨d,λt e=>?_,by rw[a.length_eq,Č]; exact hp.len⟩
 obtain⟨y,c,rfl⟩:=ă.1 (a.mem_iff.1 e)
 exact⟨(hp.sI y c).c,P2 (hp.sI y c).m⟩
theorem U2{π:M}(h:Ê π){p:Ŀ Za}(hp:ν p):(HP p π).ο (Ε π p,0):=by
 have m:=hp.len
 refine⟨true,UM h,?_⟩
 show (Cq.next _ _).wp _
 refine Cq.Zp p.length (λk s=>s=(jP π (p.take k),(k:Int))) (λk s a c=>?_) (λs c=>?_) (by simp[jP])
 .subst c
  obtain⟨d,l⟩:=Ii h hp.ord k (by omega)
  refine Cq.wp.yes (p:=(k:Int)<(p.length:Int)) (by omega) ?_
  refine (YK h a).then ?_
  refine⟨p[k],â a,_,NU (by rw[d.length_eq,Č,Đ]; omega) (λx g e=>?_),?_⟩
  .obtain⟨y,j,rfl⟩:=ă.1 (d.mem_iff.1 g)
   have f:=IQ h e
   obtain⟨i,hi,rfl⟩:=Ĩ.1 j
   simp only[Đ] at hi
   rw[ş] at f
   exact absurd f (Ę.1 (vX hp.ord) i k (by omega) a (by omega))
  show _=_
  rw[Β (by omega),<- Ě a,Nq]
  rfl
 subst c
 refine Cq.wp.no (p:=((p.length:Nat):Int)<(p.length:Int)) (by omega) ?_
 show _=_
 rw[ě]; rfl
end Go.EL

namespace Go.EL
open Go.IntKind (i8 i16 i32 i64 u8 u16 u32 u64)
open Go Go.RowKit
theorem ZuM:(ú 0 100 λn=>match (v7 (u64.wrap n)).ev 30 with|some v=>decide (0<=v/\v<1000000)|none=>false)=true:=by decide +kernel
theorem ZuN{n:Nat}(h:n<=100):∃ v,(v7 (u64.wrap (n:Int))).ο v/\0<=v/\v<1000000:=by
 have:=Zv ZuM (x:=(n:Int)) (by omega) (by omega)
 split at this
 .rename_i v a
  have:=Ĝ this
  exact⟨v,Cq.ο.rE 30 a,this.1,this.2⟩
 cases this
theorem Zux{p:Ŀ Za}(h:ko p){x y:Za}(d:x ∈ p)(f:y ∈ p)(e:x.m=y.m):x=y:=by
 obtain⟨i,hi,rfl⟩:=Ĩ.1 d
 obtain⟨j,c,rfl⟩:=Ĩ.1 f
 have key:=Ę.1 (vX h)
 rcases fO i j with a|a|a
 .exact absurd e (key i j hi c a)
 .subst a; rfl
 exact absurd e.symm (key j i c hi a)
theorem Ix{p:Ŀ Za}(h:ko p):p.Pairwise λx y=>¬ gO x.m y.m<0:=h.imp λhp=>by omega
theorem H8{p ys:Ŀ Za}(c:ko p)(hp:ys.Perm p)(f:ys.Pairwise λx y=>¬ gO x.m y.m<0):ys=p:=
 Ŭ (le:=λx y:Za=>¬ gO x.m y.m<0) (λa b d e g h=>by
  have:=vd a.m b.m
  exact Zux c (hp.mem_iff.1 d) e (xL (by omega))) f (Ix c) hp
theorem Wv{p l:Ŀ Za}(f:ko p)(i:p.length<=100)(hp:l.Perm p):(ZE l).ο p:=by
 have e:=hp.length_eq
 obtain⟨v,a,c,d⟩:=ZuN (n:=l.length) (by omega)
 refine⟨v,a,p,?_,rfl⟩
 refine⟨⟨rfl,rfl,⟨c,d⟩,by omega⟩,λys ⟨g,h⟩=>?_⟩
 exact H8 f (g.trans hp) h
def n5(q:M×Zj):Za:=⟨q.2,q.1⟩
theorem Ej{p:Ŀ Za}(hp:ν p){D:Ŀ (M×Zj)}(j:(D.map n5).Perm p):(AQ D).ο p:=by
 have n:=hp.len
 have e:=j.length_eq
 rw[Č] at e
 refine⟨⟨by omega,by omega⟩,?_⟩
 show (Cq.next _ _).wp _
 refine Cq.EI (λs=>(s.1++s.2.map n5).Perm p) (λs=>s.2.length) (λs d=>?_) _ (by simpa using j)
 obtain⟨rv,R⟩:=s
 simp only at d
 have c:=d.length_eq
 simp only[ā,Č] at c
 refine⟨λi=>?_,λg q h i=>?_⟩
 .subst i
  rw[ĵ,ğ] at d
  exact⟨_,Wv hp.ord n d,rfl⟩
 subst i
 have f:n5 q ∈ p:=d.mem_iff.1 (by simp)
 obtain⟨s,l,m⟩:=(hp.sI _ f).ps
 refine⟨s,l,?_⟩
 rw[Cq.Zd,Ă m]
 simp only[ā,Ġ] at c
 refine⟨by simp[small]; omega,?_,?_⟩
 .refine List.Perm.trans ?_ d
  simp only[ķ,ė,ď,List.singleton_append]
  refine List.Perm.append_left rv ?_
  exact (List.perm_middle (a:=n5 q) (l₁:=g.map n5) (l₂:=h.map n5)).symm
 show (g++h).length<(g++q::h).length
 simp
theorem Kn{m:M}(h:Ok m):∀ i,(Lit.int i64 (m i)).wf=true:=λi=>by
 have:=h i
 simp only[Lit.wf,Ē,Ģ]
 exact⟨aac (by decide) this.1,aac this.2 (by decide)⟩
def uc(π:M)(t:Za):M×Zj:=(iH π t.m,t.c)
theorem Xj{π:M}(h:Ê π){p:Ŀ Za}(hp:ν p):(Hj p π).ο (Ε π p,0):=by
 have u:=hp.len
 show (Cq.next _ _).wp _
 refine Cq.Zp 8 (λk s=>∃ f:Fin 8->Bool,s=((k:Int),f)/\∀ j,f j=true->∃ i:Fin 8,i.val<k/\(j.val:Int)=π i) (λk s a d=>?_) (λs d=>?_) ⟨_,rfl,λj m=>by cases m⟩
 .obtain⟨f,rfl,g⟩:=d
  have r:=h.pC ⟨k,a⟩
  refine Cq.wp.yes (p:=(k:Int)<8) (by omega) ?_
  refine⟨by omega,?_⟩
  rw[hU a,Cq.Zd,Ā (by omega),Cq.Zd,Ā (by omega)]
  refine⟨r,?_⟩
  rw[Cq.Zd,Ā (QW h a g)]
  refine⟨r,?_⟩
  rw[Β (by omega)]
  exact⟨_,rfl,PM h a g⟩
 obtain⟨f,rfl,g⟩:=d
 refine Cq.wp.no (p:=((8:Nat):Int)<8) (by omega) ?_
 show (Mk p π).wp _
 show (Cq.next _ _).wp _
 refine Cq.Zp p.length (λk s=>s=((k:Int),(p.take k).map (uc π))) (λk s a d=>?_) (λs d=>?_) (by simp)
 .subst d
  refine Cq.wp.yes (p:=(k:Int)<(p.length:Int)) (by omega) ?_
  refine⟨p[k],â a,?_⟩
  refine (Zss h p[k]).then ?_
  have c:Ñ ((p.take k).map (uc π)) (iH π p[k].m) p[k].c=(p.take (k+1)).map (uc π):=by
   rw[tf,<- Ě a,ķ]
   .rfl
   intro q n e
   obtain⟨y,t,rfl⟩:=ă.1 n
   have l:=IQ h e
   obtain⟨i,hi,rfl⟩:=Ĩ.1 t
   simp only[Đ] at hi
   rw[ş] at l
   exact Ę.1 (vX hp.ord) i k (by omega) a (by omega) l
  refine⟨⟨Kn (P2 (hp.at a).m),?_⟩,?_⟩
  .rw[c,Č,Đ]; simp only[small]; omega
  show _=_
  rw[c,Β (by omega)]
 subst d
 refine Cq.wp.no (p:=((p.length:Nat):Int)<(p.length:Int)) (by omega) ?_
 refine⟨Ε π p,Ej (ZM h hp) ?_,rfl⟩
 rw[ě,Ţ]
 exact (ZR h hp.ord).1.symm
end Go.EL

namespace Go.EL
open Go.IntKind (i8 i16 i32 i64 u8 u16 u32 u64)
open Go Go.RowKit
theorem PZ{n:Int}(a:-8<=n)(c:n<=8):(xK n).ο (ð n):=ZC (Zv ZsV a c)
theorem mul_zero(m:M):mulM (λ_=>0) m=m:=by funext i; simp[mulM]
theorem Yc{c:Int}(g:-3<=c)(i:c<=3){m:M}(f:Ok m):(IC (ð c) [⟨ð 1,m⟩]).ο (if c=0 then [] else [⟨ð c,m⟩]):=by
 have d:=ZC (Zv Jw (x:=c) (by omega) (by omega))
 by_cases e:c=0
 .subst e
  rw[Ă rfl]
  refine⟨([],0),⟨_,d,?_⟩,rfl⟩
  rw[Cq.Zd,Ă (by decide)]
  rfl
 rw[Ā e]
 refine⟨([⟨ð c,m⟩],0),⟨_,d,?_⟩,rfl⟩
 rw[Cq.Zd,Ā (by split <;> first|omega|(split <;> omega))]
 show (Cq.next _ _).wp _
 refine Cq.Zp 1 (λk s=>s=((if k=0 then [] else [⟨ð c,m⟩]),(k:Int))) (λk s j d=>?_) (λs d=>?_) rfl
 .obtain rfl:k=0:=by omega
  subst d
  refine⟨⟨ð 1,m⟩,⟨by omega,rfl⟩,(m,0),?_,?_⟩
  .have:=Xq (a:=λ_=>0) (b:=m) (λ_=>⟨ň 0,show (0:Int)<=65535 by decide⟩) f (by rw[mul_zero]; exact f)
   rwa [mul_zero] at this
  rw[Cq.Zd,Ā (λh=>h rfl)]
  exact⟨⟨ð 1,m⟩,⟨by omega,rfl⟩,_,ZC (Zv ZuP g i),by simp[small],rfl⟩
 subst d
 rfl
def oD(x:ZF):Prop:=∀ v ∈ x.t,∀ j:Fin 5,-128<=v j/\v j<=127
structure jX (K:Int) (n:Nat) (d:Int) (k:Nat) (p:Ŀ Za):Prop where
 ord:ko p
 zR:∀ t ∈ p,∃ c:Int,t.c=ð c/\c≠0/\-K<=c/\c<=K
 qa:∀ t ∈ p,(∀ i,0<=t.m i)/\(∀ i:Fin 8,n<=i.val->t.m i=0)/\gV t.m<=d
 len:p.length<=k
theorem EA{m:M}(h:∀ i,0<=m i):∀ k,k<=8->0<=Î m k/\∀ i:Fin 8,i.val<k->m i<=Î m k
 | 0,_=>by simp[Î]
 | k+1,f=>by
  obtain⟨d,c⟩:=EA h k (by omega)
  have a:k<8:=by omega
  have:=h ⟨k,a⟩
  simp only[Î,Ŗ a]
  refine⟨by omega,λi hi=>?_⟩
  by_cases e:i.val=k
  .have:i=⟨k,a⟩:=gg e
   subst this; omega
  have:=c i (by omega); omega
theorem IN{m:M}(h:∀ i,0<=m i){d:Int}(a:gV m<=d)(c:d<=65535):Ok m:=λi=>by
 have:=(EA h 8 (by omega)).2 i i.isLt
 unfold gV at a
 exact⟨h i,by omega⟩
theorem jX.iF{K:Int}{n:Nat}{d:Int}{k:Nat}{p:Ŀ Za}(h:jX K n d k p)(j:K<=12)(l:d<=100)(m:k<=100):ν p:=
 ⟨h.ord,λt a=>⟨by obtain⟨c,e,f,g,i⟩:=h.zR t a; exact⟨c,e,f,by omega,by omega⟩,IN (h.qa t a).1 (h.qa t a).2.2 (by omega)⟩,by have:=h.len; omega⟩
theorem Qz{p:Ŀ Za}{t y:Za}:y ∈ iT p t->y ∈ p\/y=t\/∃ x ∈ p,x.m=t.m/\l9 x.c+l9 t.c≠0/\y=⟨ð (l9 x.c+l9 t.c),x.m⟩:=by
 induction p with
 | nil=>intro h; simp[iT] at h; exact .inr (.inl h)
 | cons x xs f=>
  intro h
  simp only[iT] at h
  split at h
  .rcases ą.1 h with rfl|h
   .exact .inl (by simp)
   rcases f h with h|h|⟨z,c,d⟩
   .exact .inl (by simp[h])
   .exact .inr (.inl h)
   exact .inr (.inr ⟨z,by simp[c],d⟩)
  split at h
  .rcases ą.1 h with rfl|h
   .exact .inr (.inl rfl)
   exact .inl h
  have e:x.m=t.m:=xL (by omega)
  split at h
  .exact .inl (by simp[h])
  rename_i a
  rcases ą.1 h with rfl|h
  .exact .inr (.inr ⟨x,by simp,e,a,rfl⟩)
  exact .inl (by simp[h])
theorem jX.add{K:Int}{n:Nat}{d:Int}{k:Nat}{p:Ŀ Za}(h:jX K n d k p){c:Int}{m:M}(A:0<=K)(r:c≠0)(w:-3<=c)(y:c<=3)(s:(∀ i,0<=m i)/\(∀ i:Fin 8,n<=i.val->m i=0)/\gV m<=d):
  jX (K+3) n d (k+1) (iT p ⟨ð c,m⟩):=by
 refine⟨(IF h.ord).1,λt g=>?_,λt g=>?_,by have:=Oc p ⟨ð c,m⟩; have:=h.len; omega⟩
 .rcases Qz g with g|rfl|⟨x,j,l,f,rfl⟩
  .obtain⟨a,e,q,u,v⟩:=h.zR t g
   exact⟨a,e,q,by omega,by omega⟩
  .exact⟨c,rfl,r,by omega,by omega⟩
  obtain⟨a,e,q,u,v⟩:=h.zR x j
  simp only[Bu,e] at f ⊢
  exact⟨a+c,rfl,f,by omega,by omega⟩
 rcases Qz g with g|rfl|⟨x,j,l,f,rfl⟩
 .exact h.qa t g
 .exact s
 exact h.qa x j
theorem jX.grow{K K':Int}{n:Nat}{d:Int}{k k':Nat}{p:Ŀ Za}(h:jX K n d k p)(g:K<=K')(i:k<=k'):jX K' n d k' p:=
 ⟨h.ord,λt c=>by obtain⟨a,e,f,j,l⟩:=h.zR t c; exact⟨a,e,f,by omega,by omega⟩,h.qa,by have:=h.len; omega⟩
theorem jX.Le{K:Int}{n:Nat}{d:Int}{k:Nat}{p:Ŀ Za}(h:jX K n d k p)(j:K<=12){c:Int}{m:M}(f:-3<=c)(g:c<=3):xy p ⟨ð c,m⟩:=λx i _=>by
 obtain⟨a,e,l,q,r⟩:=h.zR x i
 exact⟨a,c,e,rfl,by omega,by omega,f,g⟩
def qy(n:Int):Int:=if n<0 then -n else n
theorem Zuo{n:Int}(a:-128<=n)(c:n<=127):(EX n).ο (qy n):=by
 unfold EX qy
 by_cases h:n<0
 .rw[Ă h,Ă h]
  show _=_
  simp (disch:=omega) only[wrap64]
  omega
 rw[Ā h,Ā h]
 exact wrap64 (by omega)
theorem wm{a b:Int}(c:0<=a)(d:0<b):0<=Int.tmod a b/\Int.tmod a b<b:=by
 rw[abd c]
 exact⟨Int.emod_nonneg _ (by omega),Int.emod_lt_of_pos _ d⟩
theorem C5{a:Int}(c:-128<=a)(d:a<=127):-3<=Int.tmod a 4/\Int.tmod a 4<=3:=by
 by_cases h:0<=a
 .have:=wm (b:=4) h (by omega); omega
 have:=wm (a:=-a) (b:=4) (by omega) (by omega)
 rw[Int.neg_tmod] at this
 omega
def jv(v:Fin 5->Int)(d:Int):Nat->Int×M
 | 0=>(d,λ_=>0)
 | j+1=>((jv v d j).1-Int.tmod (qy (Κ v ((j+1:Nat):Int))) ((jv v d j).1+1),å (jv v d j).2 j (Int.tmod (qy (Κ v ((j+1:Nat):Int))) ((jv v d j).1+1)))
theorem JU{v:Fin 5->Int}{d:Int}(c:0<=d):∀ j,j<=4->0<=(jv v d j).1/\(∀ i,0<=(jv v d j).2 i)/\(∀ i:Fin 8,j<=i.val->(jv v d j).2 i=0)/\gV (jv v d j).2+(jv v d j).1=d
 | 0,_=>⟨c,λ_=>ň 0,λ_ _=>rfl,by simp[jv,gV,Î]⟩
 | j+1,m=>by
  obtain⟨l,e,a,f⟩:=JU (v:=v) c j (by omega)
  have g:0<=qy (Κ v ((j+1:Nat):Int)):=by unfold qy; split <;> omega
  have h:=wm g (show 0<(jv v d j).1+1 by omega)
  simp only[jv]
  refine⟨by omega,λi=>?_,λi hi=>?_,?_⟩
  .simp only[å]; split
   .exact h.1
   exact e i
  .simp only[å]; rw[Ā (by omega)]; exact a i (by omega)
  unfold gV at f ⊢
  rw[Iw _ _ _ 8 (by omega),Ŗ (by omega),Ă (by omega),a _ (by simp)]
  omega
def sD(v:Fin 5->Int)(d:Int)(n:Nat):M:=(jv v d n).2
theorem QT{v:Fin 5->Int}{d:Int}(e:0<=d){n:Nat}(f:n<=4):(∀ i,0<=sD v d n i)/\(∀ i:Fin 8,n<=i.val->sD v d n i=0)/\gV (sD v d n)<=d:=by
 obtain⟨g,a,c,h⟩:=JU (v:=v) e n f
 exact⟨a,c,by unfold sD; omega⟩
theorem X5{x:ZF}(w:oD x){n:Nat}(F:n<=4){d:Int}(c:0<=d)(C:d<=100){k:Nat}(q:k<x.t.length):
  (NV x (n:Int) (k:Int) (d,0,λ_=>0)).ο (sD x.t[k] d n):=by
 refine Cq.Zp n (λj s=>s=((jv x.t[k] d j).1,(j:Int),(jv x.t[k] d j).2)) (λj s D g=>?_) (λs g=>?_) rfl
 .subst g
  obtain⟨y,t,A,l⟩:=JU (v:=x.t[k]) c j (by omega)
  have B:=(EA t 8 (by omega)).1
  have f:j<8:=by omega
  have r:=w _ (Ċ q)
  show (if (j:Int)<(n:Int) then _ else _:Cq _).wp _
  rw[Cq.Zd,Ă (by omega),Cq.Zd,Ă (by omega)]
  have u:i64.wrap (1+(j:Int))=((j+1:Nat):Int):=by rw[wrap64 (by omega)]; omega
  have i:i64.wrap ((jv x.t[k] d j).1+1)=(jv x.t[k] d j).1+1:=wrap64 (by unfold gV at l; omega)
  rw[u,i]
  have m:Κ x.t[k] ((j+1:Nat):Int)=x.t[k] ⟨j+1,by omega⟩:=BM _ (by simp; omega)
  have E:=wm (a:=qy (Κ x.t[k] ((j+1:Nat):Int))) (b:=(jv x.t[k] d j).1+1) (by unfold qy; split <;> omega) (by omega)
  refine⟨x.t[k],â q,by omega,_,Zuo (by rw[m]; exact (r _).1) (by rw[m]; exact (r _).2),by omega,by omega,by omega,?_⟩
  show _=_
  have h:∀ e:Int,Κ (å (jv x.t[k] d j).2 (j:Int).toNat e) (j:Int)=e:=λe=>by rw[hU f]; simp[å]
  rw[h,Β (by omega),wrap64 (by unfold gV at l; omega)]
  rfl
 subst g
 refine Cq.wp.no (p:=(n:Int)<(n:Int)) (by omega) ?_
 rfl
def ka(x:ZF)(n:Nat)(d:Int):Nat->Ŀ Za
 | 0=>[]
 | k+1=>match x.t[k]? with
  | some v=>if Int.tmod (Κ v 0) 4=0 then ka x n d k else iT (ka x n d k) ⟨ð (Int.tmod (Κ v 0) 4),sD v d n⟩
  | none=>ka x n d k
theorem CS{x:ZF}(c:oD x){v:Fin 5->Int}(a:v ∈ x.t):-3<=Int.tmod (Κ v 0) 4/\Int.tmod (Κ v 0) 4<=3:=by
 have:=c v a 0
 rw[BM v (by decide)]
 exact C5 this.1 this.2
theorem I9{x:ZF}(h:oD x){n:Nat}(f:n<=4){d:Int}(e:0<=d):∀ k:Nat,jX (3*k) n d k (ka x n d k)
 | 0=>⟨List.Pairwise.nil,λt a=>by simp[ka] at a,λt a=>by simp[ka] at a,by simp[ka]⟩
 | k+1=>by
  have c:=I9 h f e k
  simp only[ka]
  split
  .rename_i v j
   have g:=CS h (Ł j)
   split
   .exact c.grow (by omega) (by omega)
   rename_i i
   exact (c.add (by omega) i g.1 g.2 (QT e f)).grow (by omega) (by omega)
  exact c.grow (by omega) (by omega)
def tY(x:ZF)(n:Nat)(d:Int)(k:Nat):Ŀ Za:=ka x n d (min k x.t.length)
theorem Ztz{x:ZF}(e:oD x){n:Nat}(c:n<=4){d:Int}(a:0<=d)(k:Nat):jX (3*k) n d k (tY x n d k):=(I9 e c a _).grow (by omega) (by omega)
theorem YV{x:ZF}(l:oD x){n:Nat}(g:n<=4){d:Int}(c:0<=d)(r:d<=100){k:Nat}(w:k<=4):(Jo x (n:Int) d (k:Int)).ο (tY x n d k):=by
 refine Cq.Zp (min k x.t.length) (λj s=>s=(ka x n d j,(j:Int))) (λj s u i=>?_) (λs i=>?_) rfl
 .subst i
  have a:j<x.t.length:=by omega
  have q:=I9 l g c j
  have f:=CS l (Ċ a)
  show (if (j:Int)<(x.t.length:Int) then _ else _:Cq _).wp _
  rw[Cq.Zd,Ă (by omega),Cq.Zd,Ă (by omega)]
  show (Cq.next _ _).wp _
  refine (X5 l g c r a).then ?_
  have t:i64.wrap (Int.tmod (Κ x.t[j] 0) 4)=Int.tmod (Κ x.t[j] 0) 4:=wrap64 (by omega)
  have p:=QT (v:=x.t[j]) c g
  refine⟨x.t[j],â a,_,(by rw[t]; exact PZ (by omega) (by omega)),_,PZ (by omega) (by omega),_,Yc f.1 f.2 (IN p.1 p.2.2 (by omega)),?_⟩
  have m:=q.len
  by_cases e:Int.tmod (Κ x.t[j] 0) 4=0
  .rw[Ă e]
   refine⟨_,Xr (by omega),?_⟩
   show _=_
   rw[Β (by omega)]
   simp only[ka,Ą a,Ă e]
  rw[Ā e]
  refine⟨_,NU (by omega) (q.Le (by omega) f.1 f.2),?_⟩
  show _=_
  rw[Β (by omega)]
  simp only[ka,Ą a,Ā e]
 subst i
 show (if ((min k x.t.length:Nat):Int)<(x.t.length:Int) then _ else _:Cq _).wp _
 by_cases h:min k x.t.length<x.t.length
 .rw[Cq.Zd,Ă (by omega),Cq.Zd,Ā (by omega)]
  rfl
 rw[Cq.Zd,Ā (by omega)]
 rfl
end Go.EL

namespace Go.EL
open Go.IntKind (i8 i16 i32 i64 u8 u16 u32 u64)
open Go Go.RowKit
def gQ(b:Int):Bool:=decide (65<=b/\b<=90) || decide (97<=b/\b<=122)
def lZ(b:Int):Bool:=decide (48<=b/\b<=57) || decide (b=95)
def iO(i:Nat)(b:Int):Bool:=gQ b || (decide (0<i) && lZ b)
def gb(s:Ĳ):Bool:=decide (1<=s.size/\s.size<=12) && (List.range s.size).all λi=>iO i (ó s (i:Int))
theorem Fb{s:Ĳ}{i:Nat}(hi:i<s.size)(h:iO i (ó s (i:Int))=false):gb s=false:=by
 unfold gb
 rw[aaK]
 right
 rw[List.all_eq_false]
 exact⟨i,ť.2 hi,by rw[h]; decide⟩
theorem Qk{s:Ĳ}(a:1<=s.size/\s.size<=12)(h:∀ i,i<s.size->iO i (ó s (i:Int))=true):gb s=true:=by
 unfold gb
 rw[ē a,aaq,Ĕ]
 exact λi hi=>h i (ť.1 hi)
theorem OR(b:Int):(Ba b).ο (gQ b):=by
 unfold Ba gQ
 by_cases a:65<=b <;> by_cases c:b<=90 <;> by_cases d:97<=b <;> simp[a,c,d] <;> first|rfl|omega
theorem Yx(b:Int):(DT b).ο (lZ b):=by
 unfold DT lZ
 by_cases a:48<=b <;> by_cases c:b<=57 <;> simp[a,c] <;> first|rfl|omega
theorem PB(s:Ĳ):(BG s).ο (gb s):=by
 unfold BG
 by_cases n:(s.size:Int)<1
 .rw[Ă n]
  show false=gb s
  unfold gb
  rw[ċ (by omega),Ű]
 rw[Ā n]
 by_cases p:12<(s.size:Int)
 .rw[Ă p]
  show false=gb s
  unfold gb
  rw[ċ (by omega),Ű]
 rw[Ā p]
 refine⟨by omega,_,OR _,?_⟩
 rw[Cq.Zd]
 cases q:gQ (ó s 0) with
 | false=>
  rw[Ă (by decide)]
  exact (Fb (i:=0) (by omega) (by unfold iO; rw[show ((0:Nat):Int)=0 from rfl,q]; simp)).symm
 | true=>
  rw[Ā (by decide)]
  show (Cq.next _ _).wp _
  refine Cq.Zp (s.size-1) (λk st=>st=((k+1:Nat):Int)/\∀ i,i<k+1->iO i (ó s (i:Int))=true) (λk st u m=>?_) (λst m=>?_) ⟨rfl,λi hi=>?_⟩
  .obtain⟨rfl,hi⟩:=m
   have f:∀ {b:Int},b=ó s ((k+1:Nat):Int)->iO (k+1) b=true->∀ i,i<k+1+1->iO i (ó s (i:Int))=true:=by
    intro b r t i l
    by_cases e:i=k+1
    .subst e; rw[<- r]; exact t
    exact hi i (by omega)
   rw[Cq.Zd,Ă (by omega)]
   refine⟨by omega,_,OR _,?_⟩
   cases j:gQ (ó s ((k+1:Nat):Int)) with
   | true=>exact⟨Β (by omega),f rfl (by unfold iO; rw[j]; rfl)⟩
   | false=>
    have g:lZ (ó s ((k+1:Nat):Int))=false->false=gb s:=λh=>(Fb (i:=k+1) (by omega) (by unfold iO; rw[j,h]; simp)).symm
    have d:lZ (ó s ((k+1:Nat):Int))=true->∀ i,i<k+1+1->iO i (ó s (i:Int))=true:=λh=>f rfl (by unfold iO; rw[j,h]; simp)
    refine⟨by omega,?_⟩
    rw[Cq.Zd]
    unfold lZ at g d
    split
    .refine⟨by omega,?_⟩
     rw[Cq.Zd]
     split
     .rename_i a b
      exact⟨Β (by omega),d (by rw[ē ⟨a,b⟩]; rfl)⟩
     rename_i a b
     refine⟨by omega,?_⟩
     rw[Cq.Zd]
     split
     .rename_i c
      exact g (by rw[ċ (λh=>b h.2),ċ c]; rfl)
     rename_i c
     exact⟨Β (by omega),d (by rw[ē (aaJ.1 c)]; simp)⟩
    rename_i a
    refine⟨by omega,?_⟩
    rw[Cq.Zd]
    split
    .rename_i c
     exact g (by rw[ċ (λh=>a h.1),ċ c]; rfl)
    rename_i c
    exact⟨Β (by omega),d (by rw[ē (aaJ.1 c)]; simp)⟩
  .obtain⟨rfl,hi⟩:=m
   rw[Cq.Zd,Ā (by omega)]
   exact (Qk (by omega) λi l=>hi i (by omega)).symm
  obtain rfl:i=0:=by omega
  unfold iO
  rw[show ((0:Nat):Int)=0 from rfl,q]; rfl
theorem Qb(s:Ĳ)(i:Nat):((s.get! i).toNat:Int)=ó s (i:Int):=by
 unfold ó
 simp only[ģ]
 congr 2
theorem Yp{s:Ĳ}{p:Nat}(h:ó s (p:Int)<128):((Utf8.decode s p).1:Int)=ó s (p:Int)/\(Utf8.decode s p).2=1:=by
 have a:=Qb s p
 unfold Utf8.decode
 simp only[ŷ]
 rw[Ă (by omega)]
 exact⟨a,rfl⟩
theorem decode_high{s:Ĳ}{p:Nat}(h:128<=ó s (p:Int)):128<=((Utf8.decode s p).1:Int):=by
 have a:=Qb s p
 unfold Utf8.decode
 simp only[ŷ,Utf8.runeError]
 rw[Ā (by omega)]
 split
 .split
  .rename_i h; omega
  omega
 split
 .split
  .rename_i h; simp at h; omega
  omega
 split
 .split
  .rename_i h; simp at h; omega
  omega
 omega
theorem HU{b:Int}(h:128<=b):gQ b=false:=by unfold gQ; rw[decide_eq_false (by omega),decide_eq_false (by omega)]; rfl
theorem IV{b:Int}(h:128<=b):lZ b=false:=by unfold lZ; rw[decide_eq_false (by omega),decide_eq_false (by omega)]; rfl
theorem Yw(s:Ĳ):(DS s).ο (gb s):=by
 unfold DS
 by_cases B:(s.size:Int)<1
 .rw[Ă B]
  show false=gb s
  unfold gb
  rw[ċ (by omega),Ű]
 rw[Ā B]
 by_cases C:12<(s.size:Int)
 .rw[Ă C]
  show false=gb s
  unfold gb
  rw[ċ (by omega),Ű]
 rw[Ā C]
 show (Cq.next _ _).wp _
 refine Cq.Zp s.size (λk st=>st=k/\∀ i,i<k->iO i (ó s (i:Int))=true) (λk st E w=>?_) (λst w=>?_) ⟨rfl,λi hi=>by omega⟩
 .obtain⟨rfl,hi⟩:=w
  have g:iO st (ó s (st:Int))=true->∀ i,i<st+1->iO i (ó s (i:Int))=true:=by
   intro H i I
   by_cases e:i=st
   .subst e; exact H
   exact hi i (by omega)
  have l:gQ ((Utf8.decode s st).1:Int)=gQ (ó s (st:Int))/\lZ ((Utf8.decode s st).1:Int)=lZ (ó s (st:Int))/\(ó s (st:Int)<128->(Utf8.decode s st).2=1):=by
   by_cases q:ó s (st:Int)<128
   .obtain⟨r,t⟩:=Yp q
    rw[r]; exact⟨rfl,rfl,λ_=>t⟩
   have D:=decode_high (s:=s) (p:=st) (by omega)
   rw[HU D,IV D,HU (by omega),IV (by omega)]
   exact⟨rfl,rfl,λh=>absurd h q⟩
  obtain⟨r,t,F⟩:=l
  have u:(ZS s st (gQ ((Utf8.decode s st).1:Int))).wp (Out (λA=>A=st+1/\∀ i,i<st+1->iO i (ó s (i:Int))=true) (λy=>(match y with | .inl m=>Cq.ret m | .inr ()=>Hk:Cq Bool).wp λa=>a=gb s)):=by
   unfold ZS
   rw[r]
   have j:gQ (ó s (st:Int))=true\/lZ (ó s (st:Int))=true->(Utf8.decode s st).2=1:=λh=>F (by
    by_cases q:ó s (st:Int)<128
    .exact q
    rw[HU (by omega),IV (by omega)] at h; simp at h)
   cases n:gQ (ó s (st:Int)) with
   | true=>
    rw[Ă rfl]
    exact⟨by rw[j (.inl n)],g (by unfold iO; rw[n]; rfl)⟩
   | false=>
    rw[Ā (by decide),Cq.Zd]
    split
    .rename_i G
     obtain rfl:st=0:=by omega
     exact (Fb (i:=0) (by omega) (by unfold iO; rw[n]; simp)).symm
    rename_i G
    refine⟨_,Yx _,?_⟩
    rw[t,Cq.Zd]
    cases v:lZ (ó s (st:Int)) with
    | false=>
     rw[Ă (by decide)]
     exact (Fb (i:=st) E (by unfold iO; rw[n,v]; simp)).symm
    | true=>
     rw[Ā (by decide)]
     exact⟨by rw[j (.inr v)],g (by unfold iO; rw[n,v,decide_eq_true (by omega)]; rfl)⟩
  have f:∀ {b:Bool},gQ ((Utf8.decode s st).1:Int)=b->(ZS s st b).wp (Out (λA=>A=st+1/\∀ i,i<st+1->iO i (ó s (i:Int))=true) (λy=>(match y with | .inl m=>Cq.ret m | .inr ()=>Hk:Cq Bool).wp λa=>a=gb s)):=λh=>by subst h; exact u
  show (if st<s.size then _ else _:Cq _).wp _
  rw[Cq.Zd,Ă E]
  generalize ((Utf8.decode s st).1:Int)=c at *
  rw[Cq.Zd]
  split
  .rename_i a
   rw[Cq.Zd]
   split
   .rename_i b
    exact f (by unfold gQ; rw[decide_eq_true ⟨a,b⟩]; rfl)
   rename_i b
   rw[Cq.Zd]
   split
   .rename_i d
    refine f ?_
    unfold gQ
    rw[ċ (λh=>b h.2),aaf]
    exact ž.2 ⟨λh=>h.2,λh=>⟨d,h⟩⟩
   rename_i d
   exact f (by unfold gQ; rw[decide_eq_false (λh=>b h.2),decide_eq_false (λh=>d h.1)]; rfl)
  rename_i a
  rw[Cq.Zd]
  split
  .rename_i d
   omega
  rename_i d
  exact f (by unfold gQ; rw[decide_eq_false (λh=>a h.1),decide_eq_false (λh=>d h.1)]; rfl)
 obtain⟨rfl,hi⟩:=w
 refine Cq.wp.no (p:=s.size<s.size) (by omega) ?_
 exact (Qk (by omega) hi).symm
end Go.EL

namespace Go.EL
open Go.IntKind (i8 i16 i32 i64 u8 u16 u32 u64)
open Go Go.RowKit
structure gW (n:Nat) (next:Int) (l:Ŀ Zc):Prop where
 len:l.length<=12
 ids:∀ q ∈ l,1<=q.id/\q.id<next
 inc:l.Pairwise λa b=>a.id<b.id
 iF:∀ q ∈ l,ν q.p/\Í q.p (n:Int)=true
structure Good (s:Zb):Prop where
 vars:s.vars.length<=4
 name:∀ v ∈ s.vars,gb v=true
 diff:s.vars.Pairwise λa b=>a≠b
 next:1<=s.next/\s.next<=1000000
 eqs:gW s.vars.length s.next s.eqs
 ζ:gW s.vars.length s.next s.ζ
 apart:∀ a ∈ s.eqs,∀ b ∈ s.ζ,a.id≠b.id
def lz(l:Ŀ Int):Ŀ (Int×Bool):=l.map λi=>(i,true)
theorem Zsb{l:Ŀ Int}{i:Int}(h:i ∉ l):Ñ (lz l) i true=lz (l++[i])/\Å (lz l) i=none:=by
 have a:∀ p ∈ lz l,p.1≠i:=λp hp e=>by
  obtain⟨j,c,rfl⟩:=ă.1 hp
  exact h (e ▸ c)
 exact⟨by rw[tf a]; simp[lz],zF a⟩
def jU(l:Ŀ Zc):Ŀ Int:=l.map (·.id)
theorem HC{l:Ŀ Zc}(h:l.Pairwise λa b=>a.id<b.id){k:Nat}(c:k<l.length):l[k].id ∉ jU (l.take k):=λd=>by
 obtain⟨q,f,e⟩:=ă.1 d
 obtain⟨i,hi,rfl⟩:=Ĩ.1 f
 simp only[Đ] at hi
 rw[ş] at e
 have:=Ę.1 h i k (by omega) c (by omega)
 omega
theorem OB{s:Zb}(F:s.vars.length<=4)(u:s.next<=1000000){l:Ŀ Zc}(h:gW s.vars.length s.next l){m:Ŀ Int}(A:∀ q ∈ l,q.id ∉ m)(B:m.length<=100):
  (MX s l (0,lz m)).ο (.inr (lz (m++jU l))):=by
 have E:=h.len
 refine Cq.Zp l.length (λk st=>st=((k:Int),lz (m++jU (l.take k)))) (λk st d v=>?_) (λst v=>?_) (by simp[jU])
 .subst v
  have i:=h.ids _ (Ċ d)
  obtain⟨hp,w⟩:=h.iF _ (Ċ d)
  have r:l[k].id ∉ m++jU (l.take k):=λg=>by
   rcases ĉ.1 g with g|g
   .exact A _ (Ċ d) g
   exact HC h.inc d g
  obtain⟨c,f⟩:=Zsb r
  have t:(Lit.int i64 l[k].id).wf=true:=by
   simp only[Lit.wf,Ē,Ģ]
   exact⟨aac (by decide) i.1,aac (Int.le_of_lt (Int.lt_of_lt_of_le i.2 u)) (by decide)⟩
  have n:(Dv s (k:Int) (lz (m++jU (l.take k))) l[k]).wp (Out (λC=>C=(((k+1:Nat):Int),lz (m++jU (l.take (k+1))))) (λa=>a=(.inr (lz (m++jU l)):Bool⊕Ŀ (Int×Bool)))):=by
   refine⟨⟨t,?_⟩,true,M0 hp (by omega) |> (w ▸ ·),?_⟩
   .rw[c]
    simp[lz,jU,small]; omega
   rw[Cq.Zd,Ā (by decide)]
   show _=_
   have e:jU (l.take (k+1))=jU (l.take k)++[l[k].id]:=by
    unfold jU
    rw[<- Ě d,ķ]
    rfl
   rw[c,Β (by omega),ď,e]
  refine Cq.wp.yes (p:=(k:Int)<(l.length:Int)) (by omega) ?_
  refine⟨l[k],â d,?_⟩
  rw[Cq.Zd,Ā (by omega),Cq.Zd,Ā (by omega)]
  refine⟨t,?_⟩
  rw[f,Cq.Zd,Ā (by simp),Cq.Zd]
  split
  .rename_i D
   obtain⟨j,rfl⟩:∃ j,k=j+1:=⟨k-1,by omega⟩
   have y:i64.wrap (((j+1:Nat):Int)-1)=(j:Int):=by rw[wrap64 (by omega)]; omega
   rw[y]
   have:=Ę.1 h.inc j (j+1) (by omega) d (by omega)
   refine⟨l[j],â (by omega),?_⟩
   rw[Cq.Zd,Ā (by omega)]
   exact n
  exact n
 subst v
 show (if ((l.length:Nat):Int)<(l.length:Int) then _ else _:Cq _).wp _
 rw[Cq.Zd,Ā (by omega),ě]
 rfl
def lS(l:Ŀ Ĳ):Ŀ (Ĳ×Bool):=l.map λi=>(i,true)
theorem Wz{l:Ŀ Ĳ}{i:Ĳ}(h:i ∉ l):Ñ (lS l) i true=lS (l++[i])/\Å (lS l) i=none:=by
 have a:∀ p ∈ lS l,p.1≠i:=λp hp e=>by
  obtain⟨j,c,rfl⟩:=ă.1 hp
  exact h (e ▸ c)
 exact⟨by rw[tf a]; simp[lS],zF a⟩
theorem O8{v:Ĳ}(h:gb v=true):v.size<=12:=by
 unfold gb at h
 rw[Ē,Ģ] at h
 exact h.1.2
theorem Ye{s:Zb}(h:Good s):(MY s).ο true:=by
 have j:=h.eqs.len
 show (Cq.next _ _).wp _
 refine Cq.Zp 2 (λk st=>st=((k:Int),lz (if k=0 then [] else if k=1 then jU s.eqs else jU s.eqs++jU s.ζ))) (λk st l c=>?_) (λst c=>?_) rfl
 .subst c
  rcases (show k=0\/k=1 by omega) with rfl|rfl
  .refine⟨s.eqs,⟨by omega,rfl⟩,?_⟩
   rw[Cq.Zd,Ā (by omega)]
   show (Cq.next _ _).wp _
   refine (OB h.vars h.next.2 h.eqs (m:=[]) (λ_ _=>by simp) (by simp)).then ?_
   rfl
  have g:=h.ζ.len
  refine⟨s.ζ,⟨by omega,rfl⟩,?_⟩
  rw[Cq.Zd,Ā (by omega)]
  show (Cq.next _ _).wp _
  refine (OB h.vars h.next.2 h.ζ (m:=jU s.eqs) (λq i f=>?_) (by simp[jU]; omega)).then ?_
  .obtain⟨a,d,e⟩:=ă.1 f
   exact h.apart a d q i e
  rfl
 subst c
 rfl
theorem A4{s:Zb}(h:Good s):(wb s).ο true:=by
 have q:=h.vars
 have n:=h.next
 unfold wb
 rw[Ā (by omega),Ā (by omega),Ā (by omega)]
 show (Cq.next _ _).wp _
 refine Cq.Zp s.vars.length (λk st=>st=((k:Int),lS (s.vars.take k))) (λk st g j=>?_) (λst j=>?_) rfl
 .subst j
  have c:s.vars[k] ∉ s.vars.take k:=λl=>by
   obtain⟨i,hi,e⟩:=Ĩ.1 l
   simp only[Đ] at hi
   rw[ş] at e
   exact Ę.1 h.diff i k (by omega) g (by omega) e
  obtain⟨f,a⟩:=Wz c
  have d:=h.name _ (Ċ g)
  have m:=O8 d
  refine Cq.wp.yes (p:=(k:Int)<(s.vars.length:Int)) (by omega) ?_
  refine⟨s.vars[k],â g,true,d ▸ Yw _,by omega,?_⟩
  rw[a,Cq.Zd,Ā (by simp),f]
  refine⟨⟨by omega,by simp[lS,small]; omega⟩,?_⟩
  show _=_
  rw[Β (by omega),Ě g]
 subst j
 refine Cq.wp.no (p:=((s.vars.length:Nat):Int)<(s.vars.length:Int)) (by omega) ?_
 exact Ye h
end Go.EL

namespace Go.EL
open Go.IntKind (i8 i16 i32 i64 u8 u16 u32 u64)
open Go Go.RowKit
def kE(id:Int):Ŀ Zc->Nat->Int
 | [],_=>-1
 | x::xs,k=>if x.id=id then (k:Int) else kE id xs (k+1)
def hL(l:Ŀ Zc)(id:Int):Int:=kE id l 0
theorem te{l:Ŀ Zc}(e:l.length<=100)(id:Int):(xU l id).ο (hL l id):=by
 refine Cq.Zp l.length (λk s=>s=(k:Int)/\hL l id=kE id (l.drop k) k) (λk s d c=>?_) (λs c=>?_) ⟨rfl,rfl⟩
 .obtain⟨rfl,a⟩:=c
  rw[Ĵ d] at a
  simp only[kE] at a
  rw[Cq.Zd,Ă (by omega)]
  refine⟨l[k],â d,?_⟩
  rw[Cq.Zd]
  split
  .rename_i h
   rw[Ă h] at a
   exact a.symm
  rename_i h
  rw[Ā h] at a
  exact⟨Β (by omega),a⟩
 obtain⟨rfl,a⟩:=c
 rw[Cq.Zd,Ā (by omega)]
 rw[ũ] at a
 exact a.symm
def idxFrom(v:Ĳ):Ŀ Ĳ->Nat->Int
 | [],_=>-1
 | x::xs,k=>if x=v then (k:Int) else idxFrom v xs (k+1)
def Õ(l:Ŀ Ĳ)(v:Ĳ):Int:=idxFrom v l 0
theorem Px{s:Zb}(e:s.vars.length<=100)(v:Ĳ):(DZ s v).ο (Õ s.vars v):=by
 refine Cq.Zp s.vars.length (λk st=>st=(k:Int)/\Õ s.vars v=idxFrom v (s.vars.drop k) k) (λk st d c=>?_) (λst c=>?_) ⟨rfl,rfl⟩
 .obtain⟨rfl,a⟩:=c
  rw[Ĵ d] at a
  simp only[idxFrom] at a
  rw[Cq.Zd,Ă (by omega)]
  refine⟨s.vars[k],â d,?_⟩
  rw[Cq.Zd]
  split
  .rename_i h
   rw[Ă h] at a
   exact a.symm
  rename_i h
  rw[Ā h] at a
  exact⟨Β (by omega),a⟩
 obtain⟨rfl,a⟩:=c
 rw[Cq.Zd,Ā (by omega)]
 rw[ũ] at a
 exact a.symm
theorem Pc{l:Ŀ Ĳ}(f:l.length<=100)(v:Ĳ):(Dp l v).ο (Õ l v):=by
 refine Cq.Zp l.length (λk st=>st=(k:Int)/\Õ l v=idxFrom v (l.drop k) k) (λk st d c=>?_) (λst c=>?_) ⟨rfl,rfl⟩
 .obtain⟨rfl,a⟩:=c
  rw[Ĵ d] at a
  simp only[idxFrom] at a
  rw[Cq.Zd,Ă (by omega)]
  refine⟨l[k],â d,?_⟩
  rw[Cq.Zd]
  split
  .rename_i h
   rw[Ă h.symm] at a
   exact a.symm
  rename_i h
  rw[Ā (λe=>h e.symm)] at a
  exact⟨Β (by omega),a⟩
 obtain⟨rfl,a⟩:=c
 rw[Cq.Zd,Ā (by omega)]
 rw[ũ] at a
 exact a.symm
theorem AY{l:Ŀ Ĳ}(a:l.length<=100)(v:Ĳ):(ZA l v).ο (decide (0<=Õ l v)):=⟨_,Pc a v,rfl⟩
def kD(l:Ŀ Zc)(id:Int):Ŀ Zc:=l.filter λq=>decide (¬ q.id=id)
theorem ZJ{α:Type}{l:Ŀ α}{k:Nat}(a:k<l.length)(p:α->Bool):(l.take (k+1)).filter p=(l.take k).filter p++(if p l[k]=true then [l[k]] else []):=by
 rw[<- Ě a,Ū]
 congr 1
 by_cases h:p l[k]=true <;> simp[h]
theorem EB{l:Ŀ Zc}(f:l.length<=100)(id:Int):(zz l id).ο (kD l id):=by
 show (Cq.next _ _).wp _
 refine Cq.Zp l.length (λk s=>s=(kD (l.take k) id,(k:Int))) (λk s a c=>?_) (λs c=>?_) rfl
 .subst c
  have e:=ZJ a λq=>decide (¬ q.id=id)
  have d:(kD (l.take k) id).length<=k:=ł (ĺ _ _) (by simp; omega)
  refine Cq.wp.yes (p:=(k:Int)<(l.length:Int)) (by omega) ?_
  refine⟨l[k],â a,?_⟩
  rw[Cq.Zd]
  split
  .rename_i h
   refine⟨l[k],â a,by simp[small]; omega,?_⟩
   show _=_
   rw[Β (by omega)]
   unfold kD at *
   rw[e,Ă (ē h)]
  rename_i h
  show _=_
  rw[Β (by omega)]
  unfold kD at *
  rw[e,Ā (by simpa using h),ğ]
 subst c
 show (if ((l.length:Nat):Int)<(l.length:Int) then _ else _:Cq _).wp _
 rw[Cq.Zd,Ā (by omega),ě]
 rfl
def kd(l:Ŀ Zc)(x:Zc):Ŀ Zc:=l.filter (λq=>decide (q.id<x.id))++x::l.filter λq=>decide (x.id<q.id)
theorem filter_all{l:Ŀ Zc}{p:Zc->Bool}(h:∀ q ∈ l,p q=true):l.filter p=l:=aaZ.2 h
theorem filter_none{l:Ŀ Zc}{p:Zc->Bool}(h:∀ q ∈ l,p q=false):l.filter p=[]:=aaB.2 λq a=>by rw[h q a]; decide
theorem zL{l:Ŀ Zc}(A:l.length<=100)(hi:l.Pairwise λa b=>a.id<b.id)(x:Zc):(wj l x).ο (kd l x):=by
 show (Cq.next _ _).wp _
 refine Cq.Zp l.length (λk s=>(s=(l.take k,false,(k:Int))/\∀ q ∈ l.take k,q.id<x.id)\/(s=(kd (l.take k) x,true,(k:Int))/\∃ q ∈ l.take k,x.id<=q.id)) (λk s d f=>?_) (λs f=>?_) (.inl ⟨rfl,by simp⟩)
 .have h:=ZJ d λq=>decide (q.id<x.id)
  have g:=ZJ d λq=>decide (x.id<q.id)
  have u:(kd (l.take k) x).length<=2*k+1:=by
   unfold kd
   have w:=ĺ (λq:Zc=>decide (q.id<x.id)) (l.take k)
   have y:=ĺ (λq:Zc=>decide (x.id<q.id)) (l.take k)
   simp only[ā,Ġ,Đ] at *
   omega
  have e:l[k] ∈ l.take (k+1):=by rw[<- Ě d]; exact ņ _ (ī.2 rfl)
  rcases f with ⟨rfl,f⟩|⟨rfl,q,c,j⟩
  .rw[Cq.Zd,Ă (by omega),Cq.Zd,Ā (by decide)]
   refine⟨l[k],â d,?_⟩
   have r:(l.take k).filter (λq=>decide (q.id<x.id))=l.take k:=filter_all λq c=>ē (f q c)
   have t:(l.take k).filter (λq=>decide (x.id<q.id))=[]:=filter_none λq c=>ċ (by have:=f q c; omega)
   rw[Cq.Zd]
   split
   .rename_i p
    refine⟨by simp[small]; omega,l[k],â d,?_⟩
    rw[Cq.Zd]
    split
    .rename_i n
     refine⟨l[k],â d,by simp[small]; omega,.inr ⟨?_,l[k],e,p⟩⟩
     rw[Β (by omega)]
     unfold kd
     rw[h,g,r,t,Ā (by simp; omega),Ă (by simp; omega)]
     simp
    rename_i n
    refine .inr ⟨?_,l[k],e,p⟩
    rw[Β (by omega)]
    unfold kd
    rw[h,g,r,t,Ā (by simp; omega),Ā (by simp; omega)]
    simp
   rename_i p
   refine⟨l[k],â d,?_⟩
   rw[Cq.Zd,Ă (by omega)]
   refine⟨l[k],â d,by simp[small]; omega,.inl ⟨by rw[Β (by omega),Ě d],λq c=>?_⟩⟩
   rw[<- Ě d] at c
   rcases ĉ.1 c with c|c
   .exact f q c
   rw[ī] at c; subst c; omega
  have v:x.id<l[k].id:=by
   obtain⟨i,m,rfl⟩:=Ĩ.1 c
   simp only[Đ] at m
   rw[ş] at j
   have:=Ę.1 hi i k (by omega) d (by omega)
   omega
  rw[Cq.Zd,Ă (by omega),Cq.Zd,Ă rfl]
  refine⟨l[k],â d,?_⟩
  rw[Cq.Zd,Ă (by omega)]
  refine⟨l[k],â d,by simp[small]; omega,.inr ⟨?_,l[k],e,by omega⟩⟩
  rw[Β (by omega)]
  unfold kd
  rw[h,g,Ā (by simp; omega),Ă (by simp; omega)]
  simp
 rcases f with ⟨rfl,f⟩|⟨rfl,q,c,j⟩
 .rw[Cq.Zd,Ā (by omega)]
  rw[ě] at f ⊢
  refine⟨by simp[small]; omega,?_⟩
  show _=kd l x
  unfold kd
  rw[filter_all λq c=>ē (f q c),filter_none λq c=>ċ (by have:=f q c; omega)]
 rw[Cq.Zd,Ā (by omega),ě]
 rfl
def ir(π:M)(l:Ŀ Zc):Ŀ Zc:=l.map λq=>⟨q.id,Ε π q.p⟩
theorem zs{π:M}(h:Ê π){l:Ŀ Zc}(d:l.length<=100)(hp:∀ q ∈ l,ν q.p):(wh l π).ο (ir π l):=by
 show (Cq.next _ _).wp _
 refine Cq.Zp l.length (λk s=>s=(ir π (l.take k),(k:Int))) (λk s a c=>?_) (λs c=>?_) rfl
 .subst c
  refine Cq.wp.yes (p:=(k:Int)<(l.length:Int)) (by omega) ?_
  refine⟨l[k],â a,_,U2 h (hp _ (Ċ a)),l[k],â a,by simp[ir,small]; omega,?_⟩
  show _=_
  rw[Β (by omega)]
  unfold ir
  rw[<- Ě a,ķ]
  rfl
 subst c
 show (if ((l.length:Nat):Int)<(l.length:Int) then _ else _:Cq _).wp _
 rw[Cq.Zd,Ā (by omega),ě]
 rfl
end Go.EL

namespace Go.EL
open Go.IntKind (i8 i16 i32 i64 u8 u16 u32 u64)
open Go Go.RowKit
def SE:M:=λi=>(i.val:Int)
def my(a b:Nat):M:=λi=>if i.val=a then (b:Int) else if a<i.val/\i.val<=b then (i.val:Int)-1 else if i.val<a/\b<=i.val then (i.val:Int)+1 else (i.val:Int)
def l3(a b:Nat):M:=å (å SE a (b:Int)) b (a:Int)
theorem WD:(ú 0 4 λa=>ú 0 4 λb=>runs 30 (vV a b) (my a.toNat b.toNat))=true:=by decide +kernel
theorem HY{a b:Nat}(c:a<=4)(d:b<=4):(vV (a:Int) (b:Int)).ο (my a b):=by
 have:=Zv (Zv WD (x:=(a:Int)) (by omega) (by omega)) (x:=(b:Int)) (by omega) (by omega)
 exact ZC (by simpa using this)
theorem Xe:∀ a b:Fin 5,(∀ i:Fin 8,0<=my a.val b.val i/\my a.val b.val i<8)/\∀ i j:Fin 8,my a.val b.val i=my a.val b.val j->i=j:=by decide +kernel
theorem Ew{a b:Nat}(e:a<=4)(f:b<=4):Ê (my a b):=by
 obtain⟨c,d⟩:=Xe ⟨a,by omega⟩ ⟨b,by omega⟩
 exact⟨c,d⟩
theorem V5:∀ a b:Fin 5,(∀ i:Fin 8,0<=l3 a.val b.val i/\l3 a.val b.val i<8)/\∀ i j:Fin 8,l3 a.val b.val i=l3 a.val b.val j->i=j:=by decide +kernel
theorem swap_perm{a b:Nat}(e:a<=4)(f:b<=4):Ê (l3 a b):=by
 obtain⟨c,d⟩:=V5 ⟨a,by omega⟩ ⟨b,by omega⟩
 exact⟨c,d⟩
theorem ZtP:my 0 0=SE:=by decide +kernel
end Go.EL

namespace Go.EL
open Go.IntKind (i8 i16 i32 i64 u8 u16 u32 u64)
open Go Go.RowKit
def mF(i:Fin 8)(l:Ŀ Zc):Bool:=l.any λq=>iA i q.p
def mG(i:Fin 8)(s:Zb):Bool:=mF i s.eqs || mF i s.ζ
theorem QN{i:Fin 8}{l:Ŀ Zc}(h:∀ k (a:k<l.length),iA i l[k].p=false):mF i l=false:=by
 unfold mF
 rw[aaI]
 intro q c
 obtain⟨k,a,rfl⟩:=Ĩ.1 c
 rw[h k a]; decide
theorem PV{i:Fin 8}{l:Ŀ Zc}{k:Nat}(a:k<l.length)(h:iA i l[k].p=true):mF i l=true:=by
 unfold mF
 rw[ŕ]
 exact⟨_,Ċ a,h⟩
theorem Zt5{s:Zb}(h:Good s)(i:Fin 8):(Jr s (i.val:Int)).ο (mG i s):=by
 have n:=h.eqs.len
 have p:=h.ζ.len
 show (Cq.next _ _).wp _
 refine Cq.Zp s.eqs.length (λk st=>st=(k:Int)/\∀ j (a:j<s.eqs.length),j<k->iA i s.eqs[j].p=false) (λk st c d=>?_) (λst d=>?_) ⟨rfl,λj _ a=>by omega⟩
 .obtain⟨rfl,hi⟩:=d
  have hp:=(h.eqs.iF _ (Ċ c)).1
  rw[Cq.Zd,Ă (by omega)]
  refine⟨s.eqs[k],â c,_,HL hp.len,by omega,?_⟩
  rw[Cq.Zd]
  split
  .rename_i f
   show true=mG i s
   unfold mG
   rw[PV c ((EU _ i).1 f)]; rfl
  rename_i f
  refine⟨Β (by omega),λj a g=>?_⟩
  by_cases e:j=k
  .subst e
   exact aai.2 λl=>f ((EU _ i).2 l)
  exact hi j a (by omega)
 obtain⟨rfl,hi⟩:=d
 have m:=QN (i:=i) λj a=>hi j a a
 rw[Cq.Zd,Ā (by omega)]
 show (Oa s (i.val:Int)).wp _
 show (Cq.next _ _).wp _
 refine Cq.Zp s.ζ.length (λk st=>st=(k:Int)/\∀ j (a:j<s.ζ.length),j<k->iA i s.ζ[j].p=false) (λk st c d=>?_) (λst d=>?_) ⟨rfl,λj _ a=>by omega⟩
 .obtain⟨rfl,hi⟩:=d
  have hp:=(h.ζ.iF _ (Ċ c)).1
  rw[Cq.Zd,Ă (by omega)]
  refine⟨s.ζ[k],â c,_,HL hp.len,by omega,?_⟩
  rw[Cq.Zd]
  split
  .rename_i f
   show true=mG i s
   unfold mG
   rw[PV c ((EU _ i).1 f),Bool.or_true]
  rename_i f
  refine⟨Β (by omega),λj a g=>?_⟩
  by_cases e:j=k
  .subst e
   exact aai.2 λl=>f ((EU _ i).2 l)
  exact hi j a (by omega)
 obtain⟨rfl,hi⟩:=d
 rw[Cq.Zd,Ā (by omega)]
 show false=mG i s
 unfold mG
 rw[m,QN λj a=>hi j a a]; rfl
end Go.EL

namespace Go.EL
open Go.IntKind (i8 i16 i32 i64 u8 u16 u32 u64)
open Go Go.RowKit
def pV(s:Zb)(i:Int):Bool:=decide (0<=i/\i<(s.vars.length:Int))
def oV(s:Zb)(i:Int):Bool:=mG ⟨i.toNat % 8,abP _ (by decide)⟩ s
def hasB(s:Zb)(id:Int):Bool:=decide (0<=hL s.eqs id) || decide (0<=hL s.ζ id)
def vh(s:Zb)(e:Zh):Int:=
 if e.id<0\/999999<e.id\/(0<e.id/\hasB s e.id=true) then 332
 else if (e.neq=false/\12<=s.eqs.length)\/(e.neq=true/\12<=s.ζ.length)\/(e.id=0/\1000000<=s.next) then 2
 else if Í e.p (s.vars.length:Int)=true then 0 else 320
def yC(s:Zb)(e:Zh):Int:=
 if hasB s e.id=false then 332
 else if e.kind=7/\Í e.p (s.vars.length:Int)=false then 320
 else if e.kind=8/\((0<=hL s.eqs e.id/\12<=s.ζ.length)\/(¬ 0<=hL s.eqs e.id/\12<=s.eqs.length)) then 2 else 0
def Ν(s:Zb)(e:Zh):Int:=
 if e.kind=1 then (if 4<=s.vars.length then 2 else if ¬ (0<=e.Ζ/\e.Ζ<=(s.vars.length:Int)) then 330 else if gb e.name=true/\Õ s.vars e.name<0 then 0 else 331)
 else if e.kind=2 then (if pV s e.Ζ=true then (if oV s e.Ζ=true then 333 else 0) else 330)
 else if e.kind=3 then (if pV s e.Ζ=true then (if gb e.name=true/\(Õ s.vars e.name<0\/Õ s.vars e.name=e.Ζ) then 0 else 331) else 330)
 else if e.kind=4 then (if pV s e.Ζ=true/\pV s e.ll=true then 0 else 330)
 else if e.kind=5 then vh s e
 else if e.kind=6\/e.kind=7\/e.kind=8 then yC s e else 1
theorem Fp(s:Zb)(i:Int):(yd s i).ο (pV s i):=by
 unfold yd pV
 by_cases h:0<=i
 .rw[Ă h]
  exact ž.2 ⟨λk=>⟨h,k⟩,λk=>k.2⟩
 rw[Ā h]
 exact (ċ λk=>h k.1).symm
theorem PU{s:Zb}{i:Int}(a:s.vars.length<=4)(h:pV s i=true):∃ j:Fin 8,i=(j.val:Int)/\oV s i=mG j s:=by
 have:=Ĝ h
 refine⟨⟨i.toNat,by omega⟩,by simp; omega,?_⟩
 unfold oV
 congr 1
 exact gg (Nat.mod_eq_of_lt (by omega))
theorem Rn{s:Zb}(h:Good s)(id:Int):(EZ s id).ο (hasB s id):=by
 have c:=h.eqs.len
 have d:=h.ζ.len
 refine⟨_,te (by omega) id,?_⟩
 rw[Cq.Zd]
 unfold hasB
 split
 .rename_i a
  show true=_
  rw[ē a]; rfl
 rename_i a
 refine⟨_,te (by omega) id,?_⟩
 show _=_
 rw[ċ a]; rfl
theorem Ww{s:Zb}(h:Good s){e:Zh}(hp:ν e.p):(DL s e).ο (vh s e):=by
 have j:∀ {r:Int},r=(if Í e.p (s.vars.length:Int)=true then 0 else 320)->(ZH s e).ο r:=by
  intro r g
  subst g
  refine⟨_,Nb hp (by omega),?_⟩
  rw[Cq.Zd]
  cases Í e.p (s.vars.length:Int) <;> rfl
 have l:∀ {r:Int},r=(if (e.neq=false/\12<=s.eqs.length)\/(e.neq=true/\12<=s.ζ.length)\/(e.id=0/\1000000<=s.next) then 2 else if Í e.p (s.vars.length:Int)=true then 0 else 320)->(AU s e).ο r:=by
  intro r g
  have f:¬ ((e.neq=false/\12<=s.eqs.length)\/(e.neq=true/\12<=s.ζ.length))->(if e.id=0 then (if 1000000<=s.next then (Cq.ret 2) else (ZH s e)) else (ZH s e):Cq Int).wp (λa=>a=r):=by
   intro i
   rw[Cq.Zd]
   split
   .rename_i p
    rw[Cq.Zd]
    split
    .rename_i d
     rw[Ă (.inr (.inr ⟨p,d⟩))] at g
     exact g.symm
    rename_i d
    exact j (by rw[g,Ā (λc=>by rcases c with c|c|c; exact i (.inl c); exact i (.inr c); exact d c.2)])
   rename_i p
   exact j (by rw[g,Ā (λc=>by rcases c with c|c|c; exact i (.inl c); exact i (.inr c); exact p c.1)])
  unfold AU
  cases n:e.neq with
  | true=>
   show (if true=true then _ else _:Cq Int).wp _
   rw[Cq.Zd,Ă rfl,Cq.Zd,Ă rfl,Cq.Zd]
   split
   .rename_i d
    rw[Ă (.inr (.inl ⟨n,by omega⟩))] at g
    exact g.symm
   rename_i d
   exact f (λc=>by rcases c with c|c; rw[n] at c; exact absurd c.1 (by decide); omega)
  | false=>
   show (if false=true then _ else _:Cq Int).wp _
   rw[Cq.Zd,Ā (by decide),Cq.Zd]
   split
   .rename_i d
    rw[Ă (.inl ⟨n,by omega⟩)] at g
    exact g.symm
   rename_i d
   rw[Cq.Zd,Ā (by decide)]
   exact f (λc=>by rcases c with c|c; omega; rw[n] at c; exact absurd c.1 (by decide))
 unfold DL vh
 show (if e.id<0 then _ else _:Cq Int).wp _
 rw[Cq.Zd]
 split
 .rename_i d
  rw[Ă (.inl d)]; rfl
 rename_i d
 rw[Cq.Zd]
 split
 .rename_i m
  rw[Ă (.inr (.inl m))]; rfl
 rename_i m
 rw[Cq.Zd]
 split
 .rename_i q
  refine⟨_,Rn h e.id,?_⟩
  rw[Cq.Zd]
  split
  .rename_i t
   rw[Ă (.inr (.inr ⟨q,t⟩))]; rfl
  rename_i t
  rw[Ā (λc=>by rcases c with c|c|c; exact d c; exact m c; exact t c.2)]
  exact l rfl
 rename_i q
 rw[Ā (λc=>by rcases c with c|c|c; exact d c; exact m c; exact q c.1)]
 exact l rfl
theorem HR{s:Zb}(h:Good s){e:Zh}(hp:ν e.p):(zm s e).ο (yC s e):=by
 have l:=h.eqs.len
 have m:=h.ζ.len
 have f:∀ {r:Int},r=(if e.kind=8/\((0<=hL s.eqs e.id/\12<=s.ζ.length)\/(¬ 0<=hL s.eqs e.id/\12<=s.eqs.length)) then 2 else 0)->(Dx s e).ο r:=by
  intro r c
  refine⟨_,te (by omega) e.id,?_⟩
  rw[Cq.Zd]
  split
  .rename_i g
   rw[Cq.Zd]
   split
   .rename_i d
    rw[Cq.Zd]
    split
    .rename_i i
     rw[Ă ⟨g,.inl ⟨d,by omega⟩⟩] at c
     exact c.symm
    rename_i i
    rw[Ā (λa=>by rcases a.2 with a|a; omega; exact a.1 d)] at c
    exact c.symm
   rename_i d
   split
   .rename_i i
    rw[Ă ⟨g,.inr ⟨d,by omega⟩⟩] at c
    exact c.symm
   rename_i i
   rw[Ā (λa=>by rcases a.2 with a|a; exact d a.1; omega)] at c
   exact c.symm
  rename_i g
  rw[Ā (λa=>g a.1)] at c
  exact c.symm
 unfold zm yC
 refine⟨_,Rn h e.id,?_⟩
 cases i:hasB s e.id with
 | false=>
  rw[Cq.Zd,Ă (by decide),Ă rfl]
  rfl
 | true=>
  rw[Cq.Zd,Ā (by decide),Ā (show ¬ (true=false) by decide),Cq.Zd]
  split
  .rename_i j
   refine⟨_,Nb hp (by omega),?_⟩
   cases d:Í e.p (s.vars.length:Int) with
   | false=>
    rw[Cq.Zd,Ă (by decide),Ă ⟨j,rfl⟩]
    rfl
   | true=>
    rw[Cq.Zd,Ā (by decide),Ā (λa=>absurd a.2 (by decide))]
    exact f rfl
  rename_i j
  rw[Ā (λa=>j a.1)]
  exact f rfl
theorem u9{s:Zb}(h:Good s){e:Zh}(hp:ν e.p):(Ea s e).ο (Ν s e):=by
 have B:=h.vars
 unfold Ea Ν
 show (if e.kind=1 then _ else _:Cq Int).wp _
 by_cases f:e.kind=1
 .rw[Cq.Zd,Ă f,Ă f,Cq.Zd]
  split
  .rename_i u
   rw[Ă (show 4<=s.vars.length by omega)]; rfl
  rename_i u
  rw[Ā (show ¬ 4<=s.vars.length by omega),Cq.Zd]
  split
  .rename_i v
   rw[Ă (show ¬ (0<=e.Ζ/\e.Ζ<=(s.vars.length:Int)) by omega)]; rfl
  rename_i v
  rw[Cq.Zd]
  split
  .rename_i w
   rw[Ă (show ¬ (0<=e.Ζ/\e.Ζ<=(s.vars.length:Int)) by omega)]; rfl
  rename_i w
  rw[Ā (show ¬ ¬ (0<=e.Ζ/\e.Ζ<=(s.vars.length:Int)) by omega)]
  refine⟨_,PB _,?_⟩
  cases p:gb e.name with
  | false=>rw[Ā (λa=>absurd a.1 (by decide))]; rfl
  | true=>
   refine⟨_,Px (by omega) _,?_⟩
   rw[Cq.Zd]
   split
   .rename_i q
    rw[Ā (λa=>by omega)]; rfl
   rename_i q
   rw[Ă ⟨rfl,by omega⟩]; rfl
 rw[Cq.Zd,Ā f,Ā f]
 by_cases g:e.kind=2
 .rw[Cq.Zd,Ă g,Ă g]
  refine⟨_,Fp s e.Ζ,?_⟩
  cases p:pV s e.Ζ with
  | false=>rw[Cq.Zd,Ă (by decide),Ā (by decide)]; rfl
  | true=>
   obtain⟨j,y,A⟩:=PU B p
   rw[Cq.Zd,Ā (by decide),Ă rfl,A]
   refine⟨mG j s,y ▸ Zt5 h j,?_⟩
   rw[Cq.Zd]
   split <;> rfl
 rw[Cq.Zd,Ā g,Ā g]
 by_cases i:e.kind=3
 .rw[Cq.Zd,Ă i,Ă i]
  refine⟨_,Fp s e.Ζ,?_⟩
  cases p:pV s e.Ζ with
  | false=>rw[Cq.Zd,Ă (by decide),Ā (by decide)]; rfl
  | true=>
   rw[Cq.Zd,Ā (by decide),Ă rfl]
   refine⟨_,Px (by omega) _,_,PB _,?_⟩
   cases r:gb e.name with
   | false=>rw[Ā (show ¬ (false=true/\(Õ s.vars e.name<0\/Õ s.vars e.name=e.Ζ)) from λa=>absurd a.1 (by decide))]; rfl
   | true=>
    show (if 0<=Õ s.vars e.name then _ else _:Cq Int).wp _
    rw[Cq.Zd]
    split
    .rename_i q
     rw[Cq.Zd]
     split <;> rename_i t
     .rw[Ā (λa=>by rcases a.2 with a|a; omega; exact t a)]; rfl
     rw[Ă ⟨rfl,.inr (aaJ.1 t)⟩]; rfl
    rename_i q
    rw[Ă ⟨rfl,.inl (by omega)⟩]; rfl
 rw[Cq.Zd,Ā i,Ā i]
 by_cases l:e.kind=4
 .rw[Cq.Zd,Ă l,Ă l]
  refine⟨_,Fp s e.Ζ,?_⟩
  cases p:pV s e.Ζ with
  | false=>rw[Ā (λa=>absurd a.1 (by decide))]; rfl
  | true=>
   refine⟨_,Fp s e.ll,?_⟩
   cases r:pV s e.ll with
   | false=>rw[Cq.Zd,Ă (by decide),Ā (λa=>absurd a.2 (by decide))]; rfl
   | true=>rw[Cq.Zd,Ā (by decide),Ă ⟨rfl,rfl⟩]; rfl
 rw[Cq.Zd,Ā l,Ā l]
 by_cases m:e.kind=5
 .rw[Cq.Zd,Ă m,Ă m]
  exact⟨_,Ww h hp,rfl⟩
 rw[Cq.Zd,Ā m,Ā m]
 by_cases c:e.kind=6
 .rw[Cq.Zd,Ă c,Cq.Zd,Ă c,Ă (.inl c)]
  exact⟨_,HR h hp,rfl⟩
 rw[Cq.Zd,Ā c]
 by_cases d:e.kind=7
 .rw[Cq.Zd,Ă d,Cq.Zd,Ă d,Ă (.inr (.inl d))]
  exact⟨_,HR h hp,rfl⟩
 rw[Cq.Zd,Ā d]
 by_cases n:e.kind=8
 .rw[Cq.Zd,Ă n,Ă (.inr (.inr n))]
  exact⟨_,HR h hp,rfl⟩
 rw[Cq.Zd,Ā n,Ā (λa=>by rcases a with a|a|a; exact c a; exact d a; exact n a)]
 rfl
end Go.EL

namespace Go.EL
open Go.IntKind (i8 i16 i32 i64 u8 u16 u32 u64)
open Go Go.RowKit
def iP:Zb:=⟨[],[],[],0⟩
def sj(s:Zb)(e:Zh):Zb:=
 ⟨s.vars.take e.Ζ.toNat++[e.name]++s.vars.drop e.Ζ.toNat,ir (my s.vars.length e.Ζ.toNat) s.eqs,ir (my s.vars.length e.Ζ.toNat) s.ζ,s.next⟩
theorem tF{s:Zb}{e:Zh}(g:e.kind=1)(a:Ν s e=0):s.vars.length<4/\0<=e.Ζ/\e.Ζ<=(s.vars.length:Int)/\gb e.name=true/\Õ s.vars e.name<0:=by
 unfold Ν at a
 rw[Ă g] at a
 by_cases f:4<=s.vars.length
 .rw[Ă f] at a; exact absurd a (by decide)
 rw[Ā f] at a
 by_cases c:0<=e.Ζ/\e.Ζ<=(s.vars.length:Int)
 .rw[Ā (show ¬ ¬ _ from λk=>k c)] at a
  by_cases d:gb e.name=true/\Õ s.vars e.name<0
  .exact⟨by omega,c.1,c.2,d.1,d.2⟩
  rw[Ā d] at a; exact absurd a (by decide)
 rw[Ă c] at a; exact absurd a (by decide)
theorem XE{s:Zb}(h:Good s){e:Zh}(hp:ν e.p)(i:e.kind=1):(se s e).ο (if Ν s e=0 then (sj s e,0) else (iP,Ν s e)):=by
 refine⟨_,u9 h hp,?_⟩
 by_cases c:Ν s e=0
 .obtain⟨p,l,r,t,u⟩:=tF i c
  rw[Ă c,Cq.Zd,Ā (λn=>n c)]
  obtain⟨a,g⟩:=Ļ l
  have m:a<=s.vars.length:=by omega
  refine⟨by simp[small]; omega,?_⟩
  rw[Cq.Zd,Ă i,g]
  have v:=h.eqs.len
  have w:=h.ζ.len
  have d:=Ew (a:=s.vars.length) (b:=a) (by omega) (by omega)
  have j:=HY (a:=s.vars.length) (b:=a) (by omega) (by omega)
  refine⟨⟨by omega,by omega,by omega⟩,by simp[small]; omega,by simp[small]; omega,⟨by omega,by omega,by omega⟩,by simp[small]; omega,_,j,_,zs d (by omega) (λq f=>(h.eqs.iF q f).1),_,j,_,zs d (by omega) (λq f=>(h.ζ.iF q f).1),?_⟩
  show _=_
  unfold sj
  rw[g]
  simp
 rw[Ā c,Cq.Zd,Ă c]
 rfl
end Go.EL

namespace Go.EL
open Go.IntKind (i8 i16 i32 i64 u8 u16 u32 u64)
open Go Go.RowKit
def ug(s:Zb)(e:Zh):Zb:=⟨s.vars.set e.Ζ.toNat e.name,s.eqs,s.ζ,s.next⟩
theorem tH{s:Zb}{e:Zh}(f:e.kind=3)(a:Ν s e=0):pV s e.Ζ=true/\gb e.name=true/\(Õ s.vars e.name<0\/Õ s.vars e.name=e.Ζ):=by
 unfold Ν at a
 rw[Ā (by omega),Ā (by omega),Ă f] at a
 by_cases c:pV s e.Ζ=true
 .rw[Ă c] at a
  by_cases d:gb e.name=true/\(Õ s.vars e.name<0\/Õ s.vars e.name=e.Ζ)
  .exact⟨c,d⟩
  rw[Ā d] at a; exact absurd a (by decide)
 rw[Ā c] at a; exact absurd a (by decide)
theorem XG{s:Zb}(h:Good s){e:Zh}(hp:ν e.p)(d:e.kind=3):(se s e).ο (if Ν s e=0 then (ug s e,0) else (iP,Ν s e)):=by
 have m:=h.vars
 refine⟨_,u9 h hp,?_⟩
 by_cases a:Ν s e=0
 .obtain⟨f,j,l⟩:=tH d a
  have g:=Ĝ f
  have c:e.Ζ.toNat<s.vars.length:=by omega
  rw[Ă a,Cq.Zd,Ā (λi=>i a)]
  refine⟨by simp[small]; omega,?_⟩
  rw[Cq.Zd,Ā (by omega),Cq.Zd,Ā (by omega),Cq.Zd,Ă d]
  exact⟨s.vars[e.Ζ.toNat],⟨g.1,Ą c⟩,rfl⟩
 rw[Ā a,Cq.Zd,Ă a]
 rfl
def sG(s:Zb)(e:Zh):Zb:=
 ⟨(s.vars.set e.Ζ.toNat (s.vars.getD e.ll.toNat ByteArray.empty)).set e.ll.toNat (s.vars.getD e.Ζ.toNat ByteArray.empty),ir (l3 e.Ζ.toNat e.ll.toNat) s.eqs,ir (l3 e.Ζ.toNat e.ll.toNat) s.ζ,s.next⟩
theorem tI{s:Zb}{e:Zh}(d:e.kind=4)(a:Ν s e=0):pV s e.Ζ=true/\pV s e.ll=true:=by
 unfold Ν at a
 rw[Ā (by omega),Ā (by omega),Ā (by omega),Ă d] at a
 by_cases c:pV s e.Ζ=true/\pV s e.ll=true
 .exact c
 rw[Ā c] at a; exact absurd a (by decide)
theorem XH{s:Zb}(h:Good s){e:Zh}(hp:ν e.p)(p:e.kind=4):(se s e).ο (if Ν s e=0 then (sG s e,0) else (iP,Ν s e)):=by
 have D:=h.vars
 refine⟨_,u9 h hp,?_⟩
 by_cases f:Ν s e=0
 .obtain⟨t,u⟩:=tI p f
  have v:=Ĝ t
  have w:=Ĝ u
  obtain⟨a,m⟩:=Ļ v.1
  obtain⟨b,n⟩:=Ļ w.1
  have c:a<s.vars.length:=by omega
  have d:b<s.vars.length:=by omega
  have B:=h.eqs.len
  have C:=h.ζ.len
  have g:=swap_perm (a:=a) (b:=b) (by omega) (by omega)
  have r:=HY (a:=0) (b:=0) (by omega) (by omega)
  rw[ZtP] at r
  rw[Ă f,Cq.Zd,Ā (λy=>y f)]
  refine⟨by simp[small]; omega,?_⟩
  rw[Cq.Zd,Ā (by omega),Cq.Zd,Ā (by omega),Cq.Zd,Ā (by omega),Cq.Zd,Ă p,m,n]
  have A:∃ l,(s.vars.set (a:Int).toNat s.vars[b])[(b:Int).toNat]? = some l:=⟨_,Ą (by simp; omega)⟩
  obtain⟨l,j⟩:=A
  refine⟨_,r,⟨by omega,by omega⟩,⟨by omega,by omega⟩,s.vars[b],â d,s.vars[a],â c,s.vars[a],â c,l,⟨by omega,j⟩,ir (l3 a b) s.eqs,zs g (by omega) (λq i=>(h.eqs.iF q i).1),ir (l3 a b) s.ζ,zs g (by omega) (λq i=>(h.ζ.iF q i).1),?_⟩
  show _=_
  unfold sG
  rw[m,n]
  simp only[ģ,Ķ,Ą c,Ą d,ś]
  rfl
 rw[Ā f,Cq.Zd,Ă f]
 rfl
end Go.EL

namespace Go.EL
open Go.IntKind (i8 i16 i32 i64 u8 u16 u32 u64)
open Go Go.RowKit
def py(s:Zb)(e:Zh):Zb:=
 ⟨s.vars.take e.Ζ.toNat++s.vars.drop (e.Ζ.toNat+1),ir (my e.Ζ.toNat (s.vars.length-1)) s.eqs,ir (my e.Ζ.toNat (s.vars.length-1)) s.ζ,s.next⟩
theorem tG{s:Zb}{e:Zh}(f:e.kind=2)(a:Ν s e=0):pV s e.Ζ=true/\oV s e.Ζ=false:=by
 unfold Ν at a
 rw[Ā (by omega),Ă f] at a
 cases c:pV s e.Ζ with
 | false=>rw[c,Ā (by decide)] at a; exact absurd a (by decide)
 | true=>
  rw[c,Ă rfl] at a
  cases d:oV s e.Ζ with
  | false=>exact⟨rfl,rfl⟩
  | true=>rw[d,Ă rfl] at a; exact absurd a (by decide)
theorem XF{s:Zb}(h:Good s){e:Zh}(hp:ν e.p)(i:e.kind=2):(se s e).ο (if Ν s e=0 then (py s e,0) else (iP,Ν s e)):=by
 have w:=h.vars
 refine⟨_,u9 h hp,?_⟩
 by_cases c:Ν s e=0
 .obtain⟨l,t⟩:=tG i c
  have m:=Ĝ l
  obtain⟨a,g⟩:=Ļ m.1
  have n:a<s.vars.length:=by omega
  have u:=h.eqs.len
  have v:=h.ζ.len
  have d:=Ew (a:=a) (b:=s.vars.length-1) (by omega) (by omega)
  have j:=HY (a:=a) (b:=s.vars.length-1) (by omega) (by omega)
  have r:i64.wrap ((s.vars.length:Int)-1)=((s.vars.length-1:Nat):Int):=by rw[wrap64 (by omega)]; omega
  rw[Ă c,Cq.Zd,Ā (λp=>p c)]
  refine⟨by simp[small]; omega,?_⟩
  rw[Cq.Zd,Ā (by omega),Cq.Zd,Ă i,g,Β (by omega),r]
  refine⟨⟨by omega,by omega,by omega⟩,by simp[small]; omega,⟨by omega,by omega,by omega⟩,by simp[small]; omega,_,j,_,zs d (by omega) (λq f=>(h.eqs.iF q f).1),_,j,_,zs d (by omega) (λq f=>(h.ζ.iF q f).1),?_⟩
  show _=_
  unfold py
  rw[g]
  simp
 rw[Ā c,Cq.Zd,Ă c]
 rfl
end Go.EL

namespace Go.EL
open Go.IntKind (i8 i16 i32 i64 u8 u16 u32 u64)
open Go Go.RowKit
def iX(l:Ŀ Zc)(id:Int):ŀ Zc:=l.find? λq=>decide (q.id=id)
theorem Nj(id:Int):∀ (l:Ŀ Zc) (k:Nat),(iX l id=none/\kE id l k = -1)\/∃ j q,iX l id=some q/\kE id l k=((k+j:Nat):Int)/\l[j]? = some q
 | [],_=>.inl ⟨rfl,rfl⟩
 | x::xs,k=>by
  unfold iX
  simp only[kE,List.find?_cons]
  by_cases h:x.id=id
  .rw[Ă h,ē h]
   exact .inr ⟨0,x,rfl,by simp,rfl⟩
  rw[Ā h,ċ h]
  rcases Nj id xs (k+1) with ⟨a,c⟩|⟨j,q,a,c,d⟩
  .exact .inl ⟨a,c⟩
  exact .inr ⟨j+1,q,a,by rw[c]; omega,by simpa using d⟩
theorem Bb(l:Ŀ Zc)(id:Int):(iX l id=none/\hL l id = -1)\/∃ j q,iX l id=some q/\hL l id=((j:Nat):Int)/\l[j]? = some q:=by
 rcases Nj id l 0 with h|⟨j,q,a,c,d⟩
 .exact .inl h
 exact .inr ⟨j,q,a,by unfold hL; rw[c]; simp,d⟩
theorem OM{l:Ŀ Zc}{id:Int}:decide (0<=hL l id)=(iX l id).isSome:=by
 rcases Bb l id with ⟨a,c⟩|⟨j,q,a,c,_⟩
 .rw[a,c]; rfl
 rw[a,c,ē (by omega)]; rfl
def nj(s:Zb)(id:Int):Zc×Bool×Bool:=
 match iX s.eqs id with
 | some q=>(q,false,true)
 | none=>match iX s.ζ id with
  | some q=>(q,true,true)
  | none=>(⟨0,[]⟩,false,false)
end Go.EL

namespace Go.EL
open Go.IntKind (i8 i16 i32 i64 u8 u16 u32 u64)
open Go Go.RowKit
theorem Oo{l:Ŀ Zc}{id:Int}(h:hL l id = -1):kD l id=l:=by
 unfold kD
 rw[aaZ]
 intro q c
 rcases Bb l id with ⟨a,_⟩|⟨j,q',_,d,_⟩
 .unfold iX at a
  have:=List.find?_eq_none.1 a q c
  simpa using this
 omega
end Go.EL

namespace Go.EL
open Go.IntKind (i8 i16 i32 i64 u8 u16 u32 u64)
open Go Go.RowKit
end Go.EL

namespace Go.EL
open Go.IntKind (i8 i16 i32 i64 u8 u16 u32 u64)
open Go Go.RowKit
def sA(s:Zb)(q:Zc)(neq:Bool):Zb:=if neq=true then ⟨s.vars,s.eqs,kd s.ζ q,s.next⟩ else ⟨s.vars,kd s.eqs q,s.ζ,s.next⟩
end Go.EL

namespace Go.EL
open Go.IntKind (i8 i16 i32 i64 u8 u16 u32 u64)
open Go Go.RowKit
theorem xM{l:Ŀ Zc}{id:Int}{q:Zc}(h:iX l id=some q):q ∈ l/\q.id=id:=by
 unfold iX at h
 exact⟨List.mem_of_find?_eq_some h,by have:=List.find?_some h; simpa using this⟩
theorem Ic{l:Ŀ Zc}{id:Int}(h:iX l id=none):∀ q ∈ l,q.id≠id:=λq a e=>by
 unfold iX at h
 have:=List.find?_eq_none.1 h q a
 simp at this; exact this e
theorem Kb(s:Zb)(id:Int):hasB s id=true↔(∃ q ∈ s.eqs,q.id=id)\/∃ q ∈ s.ζ,q.id=id:=by
 unfold hasB
 rw[OM,OM,ń,ū,ū]
 constructor
 .rintro (⟨q,h⟩|⟨q,h⟩)
  .exact .inl ⟨q,xM h⟩
  exact .inr ⟨q,xM h⟩
 rintro (⟨q,a,c⟩|⟨q,a,c⟩)
 .cases h:iX s.eqs id with
  | some q=>exact .inl ⟨q,rfl⟩
  | none=>exact absurd c (Ic h q a)
 cases h:iX s.ζ id with
 | some q=>exact .inr ⟨q,rfl⟩
 | none=>exact absurd c (Ic h q a)
theorem Ztt{s:Zb}(h:Good s){id:Int}(e:s.next<=id):hasB s id=false:=by
 cases d:hasB s id with
 | false=>rfl
 | true=>
  rcases (Kb s id).1 d with ⟨q,a,c⟩|⟨q,a,c⟩
  .have:=h.eqs.ids q a; omega
  have:=h.ζ.ids q a; omega
def iN(s:Zb)(e:Zh):Int:=if e.id=0 then s.next else e.id
def pK(s:Zb)(e:Zh):Zb:=
 ⟨s.vars,if e.neq=true then s.eqs else kd s.eqs ⟨iN s e,e.p⟩,if e.neq=true then kd s.ζ ⟨iN s e,e.p⟩ else s.ζ,if s.next<iN s e+1 then iN s e+1 else s.next⟩
theorem qZ{s:Zb}{e:Zh}(j:e.kind=5)(a:Ν s e=0):0<=e.id/\e.id<=999999/\(0<e.id->hasB s e.id=false)/\(e.neq=false->s.eqs.length<12)/\(e.neq=true->s.ζ.length<12)/\(e.id=0->s.next<1000000)/\Í e.p (s.vars.length:Int)=true:=by
 unfold Ν at a
 rw[Ā (by omega),Ā (by omega),Ā (by omega),Ā (by omega),Ă j] at a
 unfold vh at a
 by_cases c:e.id<0\/999999<e.id\/(0<e.id/\hasB s e.id=true)
 .rw[Ă c] at a; exact absurd a (by decide)
 rw[Ā c] at a
 by_cases d:(e.neq=false/\12<=s.eqs.length)\/(e.neq=true/\12<=s.ζ.length)\/(e.id=0/\1000000<=s.next)
 .rw[Ă d] at a; exact absurd a (by decide)
 rw[Ā d] at a
 by_cases g:Í e.p (s.vars.length:Int)=true
 .refine⟨abu.1 λh=>c (.inl h),abu.1 λh=>c (.inr (.inl h)),λh=>?_,λh=>abQ.1 λf=>d (.inl ⟨h,f⟩),λh=>abQ.1 λf=>d (.inr (.inl ⟨h,f⟩)),λh=>Int.not_le.1 λf=>d (.inr (.inr ⟨h,f⟩)),g⟩
  cases i:hasB s e.id with
  | false=>rfl
  | true=>exact absurd (.inr (.inr ⟨h,i⟩)) c
 rw[Ā g] at a; exact absurd a (by decide)
theorem ZuS{s:Zb}(h:Good s){e:Zh}(d:0<=e.id)(c:0<e.id->hasB s e.id=false):hasB s (iN s e)=false:=by
 unfold iN
 by_cases a:e.id=0
 .rw[Ă a]; exact Ztt h (ň _)
 rw[Ā a]; exact c (by omega)
end Go.EL

namespace Go.EL
open Go.IntKind (i8 i16 i32 i64 u8 u16 u32 u64)
open Go Go.RowKit
def mn(s:Zb)(id:Int):Zb:=⟨s.vars,kD s.eqs id,kD s.ζ id,s.next⟩
def n2(id:Int)(p:Ŀ Za)(l:Ŀ Zc):Ŀ Zc:=l.map λq=>if q.id=id then ⟨q.id,p⟩ else q
def rk(s:Zb)(e:Zh):Zb:=⟨s.vars,n2 e.id e.p s.eqs,n2 e.id e.p s.ζ,s.next⟩
def kS(s:Zb)(id:Int):Zb:=sA (mn s id) (nj s id).1 (!(nj s id).2.1)
theorem oK{s:Zb}{e:Zh}(a:e.kind=6\/e.kind=7\/e.kind=8):Ν s e=yC s e:=by
 unfold Ν
 rw[Ā (by omega),Ā (by omega),Ā (by omega),Ā (by omega),Ā (by omega),Ă a]
end Go.EL

namespace Go.EL
open Go.IntKind (i8 i16 i32 i64 u8 u16 u32 u64)
open Go Go.RowKit
theorem Yn{l:Ŀ Zc}(h:l.Pairwise λa b=>a.id<b.id)(id:Int):(kD l id).Pairwise λa b=>a.id<b.id:=h.filter _
theorem Yo(l:Ŀ Zc)(id:Int):(kD l id).length<=l.length:=ĺ _ _
end Go.EL

namespace Go.EL
open Go.IntKind (i8 i16 i32 i64 u8 u16 u32 u64)
open Go Go.RowKit
theorem XI{s:Zb}(h:Good s){e:Zh}(hp:ν e.p)(g:e.kind=5):(se s e).ο (if Ν s e=0 then (pK s e,0) else (iP,Ν s e)):=by
 have q:=h.vars
 have n:=h.eqs.len
 have p:=h.ζ.len
 refine⟨_,u9 h hp,?_⟩
 by_cases f:Ν s e=0
 .obtain⟨r,t,u,v,w,l,y⟩:=qZ g f
  have m:iN s e<1000000/\0<=iN s e:=by
   have:=h.next
   unfold iN
   split
   .rename_i d; have:=l d; omega
   omega
  rw[Ă f,Cq.Zd,Ā (λj=>j f)]
  refine⟨by simp[small]; omega,?_⟩
  rw[Cq.Zd,Ā (by omega),Cq.Zd,Ā (by omega),Cq.Zd,Ā (by omega),Cq.Zd,Ā (by omega)]
  refine⟨pK s e,?_,rfl⟩
  refine⟨_,te (by omega) _,_,te (by omega) _,?_⟩
  rw[Cq.Zd,Ă g]
  have c:(AR s e (Zc.mk (iN s e) e.p)).wp λa=>a=pK s e:=by
   unfold AR
   rw[Cq.Zd]
   cases i:e.neq with
   | true=>
    rw[Ă rfl]
    refine⟨_,zL (by omega) h.ζ.inc _,?_⟩
    show _=_
    unfold pK
    rw[i,wrap64 (x:=iN s e+1) (by omega)]
    rfl
   | false=>
    rw[Ā (by decide)]
    refine⟨_,zL (by omega) h.eqs.inc _,?_⟩
    show _=_
    unfold pK
    rw[i,wrap64 (x:=iN s e+1) (by omega)]
    rfl
  rw[Cq.Zd]
  unfold iN at c
  by_cases d:e.id=0
  .rw[Ă d]; rw[Ă d] at c; exact c
  rw[Ā d]; rw[Ā d] at c; exact c
 rw[Ā f,Cq.Zd,Ă f]
 rfl
theorem XJ{s:Zb}(h:Good s){e:Zh}(hp:ν e.p)(d:e.kind=6):(se s e).ο (if Ν s e=0 then (mn s e.id,0) else (iP,Ν s e)):=by
 have i:=h.vars
 have f:=h.eqs.len
 have g:=h.ζ.len
 refine⟨_,u9 h hp,?_⟩
 by_cases a:Ν s e=0
 .rw[Ă a,Cq.Zd,Ā (λc=>c a)]
  refine⟨by simp[small]; omega,?_⟩
  rw[Cq.Zd,Ā (by omega),Cq.Zd,Ā (by omega),Cq.Zd,Ā (by omega),Cq.Zd,Ā (by omega)]
  refine⟨mn s e.id,?_,rfl⟩
  refine⟨_,te (by omega) _,_,te (by omega) _,?_⟩
  rw[Cq.Zd,Ā (by omega),Cq.Zd,Ă d]
  exact⟨_,EB (by omega) _,_,EB (by omega) _,rfl⟩
 rw[Ā a,Cq.Zd,Ă a]
 rfl
theorem IX{id:Int}{p:Ŀ Za}{l:Ŀ Zc}(h:∀ q ∈ l,q.id≠id):n2 id p l=l:=by
 unfold n2
 refine (Ş (g:=λq=>q) λq a=>?_).trans (List.map_id' l)
 rw[Ā (h q a)]
theorem JS{x:Zc}:∀ {l:Ŀ Zc},(l.Pairwise λa b=>a.id<b.id)->(∃ q ∈ l,q.id=x.id)->kd l x=n2 x.id x.p l
 | [],_,⟨q,d,_⟩=>by cases d
 | y::l,hi,⟨q,d,e⟩=>by
  obtain⟨g,m⟩:=Ğ.1 hi
  by_cases h:y.id=x.id
  .have n:∀ z ∈ l,z.id≠x.id:=λz c=>by have:=g z c; omega
   have j:n2 x.id x.p (y::l)=x::n2 x.id x.p l:=by
    show (if y.id=x.id then (⟨y.id,x.p⟩:Zc) else y)::_=_
    rw[Ă h,h]; rfl
   rw[j,IX n]
   unfold kd
   rw[filter_none (l:=y::l) (p:=λq=>decide (q.id<x.id)) (λz c=>ċ (by
    rcases ą.1 c with rfl|c
    .omega
    have:=g z c; omega)),Ņ,Ų (by simp; omega),filter_all (l:=l) (λz c=>ē (by have:=g z c; omega))]
  have f:q ∈ l:=by
   rcases ą.1 d with rfl|d
   .exact absurd e h
   exact d
  have i:y.id<x.id:=by have:=g q f; omega
  have r:=JS m ⟨q,f,e⟩
  have j:n2 x.id x.p (y::l)=y::n2 x.id x.p l:=by
   show (if y.id=x.id then (⟨y.id,x.p⟩:Zc) else y)::_=_
   rw[Ā h]; rfl
  rw[j,<- r]
  unfold kd
  rw[aax (by simpa using i),Ų (by simp; omega)]
  rfl
theorem On{l:Ŀ Zc}{id:Int}(h:∀ q ∈ l,q.id≠id):kD l id=l:=filter_all λq a=>ē (h q a)
theorem Ka{s:Zb}(h:Good s){id:Int}(n:0<=hL s.eqs id):∃ j q,iX s.eqs id=some q/\hL s.eqs id=((j:Nat):Int)/\s.eqs[j]? = some q/\q ∈ s.eqs/\q.id=id/\iX s.ζ id=none/\∀ z ∈ s.ζ,z.id≠id:=by
 rcases Bb s.eqs id with ⟨_,c⟩|⟨j,q,c,g,i⟩
 .omega
 obtain⟨d,l⟩:=xM c
 have a:∀ z ∈ s.ζ,z.id≠id:=λz m e=>h.apart q d z m (by omega)
 refine⟨j,q,c,g,i,d,l,?_,a⟩
 cases f:iX s.ζ id with
 | none=>rfl
 | some z=>exact absurd (xM f).2 (a z (xM f).1)
theorem Jl{s:Zb}{id:Int}(c:hasB s id=true)(h:¬ 0<=hL s.eqs id):iX s.eqs id=none/\hL s.eqs id = -1/\(∀ z ∈ s.eqs,z.id≠id)/\∃ j q,iX s.ζ id=some q/\hL s.ζ id=((j:Nat):Int)/\s.ζ[j]? = some q/\q ∈ s.ζ/\q.id=id:=by
 rcases Bb s.eqs id with ⟨d,e⟩|⟨j,q,d,e,a⟩
 .refine⟨d,e,Ic d,?_⟩
  rcases Bb s.ζ id with ⟨a,f⟩|⟨j,q,a,f,g⟩
  .unfold hasB at c
   rw[e,f] at c
   exact absurd c (by decide)
  exact⟨j,q,a,f,g,(xM a).1,(xM a).2⟩
 omega
theorem nE{s:Zb}{e:Zh}(d:e.kind=6\/e.kind=7\/e.kind=8)(a:Ν s e=0):hasB s e.id=true:=by
 rw[oK d] at a
 unfold yC at a
 cases c:hasB s e.id with
 | true=>rfl
 | false=>rw[c,Ă rfl] at a; exact absurd a (by decide)
theorem XK{s:Zb}(h:Good s){e:Zh}(hp:ν e.p)(g:e.kind=7):(se s e).ο (if Ν s e=0 then (rk s e,0) else (iP,Ν s e)):=by
 have t:=h.vars
 have p:=h.eqs.len
 have r:=h.ζ.len
 refine⟨_,u9 h hp,?_⟩
 by_cases a:Ν s e=0
 .rw[Ă a,Cq.Zd,Ā (λn=>n a)]
  refine⟨by simp[small]; omega,?_⟩
  rw[Cq.Zd,Ā (by omega),Cq.Zd,Ā (by omega),Cq.Zd,Ā (by omega),Cq.Zd,Ā (by omega)]
  refine⟨rk s e,?_,rfl⟩
  refine⟨_,te (by omega) _,_,te (by omega) _,?_⟩
  rw[Cq.Zd,Ā (by omega),Cq.Zd,Ā (by omega),Cq.Zd,Ă g,Cq.Zd]
  have m:=nE (.inr (.inl g)) a
  by_cases c:0<=hL s.eqs e.id
  .obtain⟨j,q,_,_,_,d,f,_,l⟩:=Ka h c
   rw[Ă c]
   refine⟨_,zL (by omega) h.eqs.inc _,?_⟩
   show _=_
   unfold rk
   rw[JS h.eqs.inc ⟨q,d,f⟩,IX l]
  obtain⟨_,_,i,j,q,_,_,_,d,f⟩:=Jl m c
  rw[Ā c]
  refine⟨_,zL (by omega) h.ζ.inc _,?_⟩
  show _=_
  unfold rk
  rw[JS h.ζ.inc ⟨q,d,f⟩,IX i]
 rw[Ā a,Cq.Zd,Ă a]
 rfl
theorem XL{s:Zb}(h:Good s){e:Zh}(hp:ν e.p)(m:e.kind=8):(se s e).ο (if Ν s e=0 then (kS s e.id,0) else (iP,Ν s e)):=by
 have y:=h.vars
 have v:=h.eqs.len
 have w:=h.ζ.len
 refine⟨_,u9 h hp,?_⟩
 by_cases a:Ν s e=0
 .rw[Ă a,Cq.Zd,Ā (λu=>u a)]
  refine⟨by simp[small]; omega,?_⟩
  rw[Cq.Zd,Ā (by omega),Cq.Zd,Ā (by omega),Cq.Zd,Ā (by omega),Cq.Zd,Ā (by omega)]
  refine⟨kS s e.id,?_,rfl⟩
  refine⟨_,te (by omega) _,_,te (by omega) _,?_⟩
  rw[Cq.Zd,Ā (by omega),Cq.Zd,Ā (by omega),Cq.Zd,Ā (by omega),Cq.Zd,Ă m]
  refine⟨_,EB (by omega) _,_,EB (by omega) _,?_⟩
  rw[Cq.Zd]
  have t:=nE (.inr (.inr m)) a
  by_cases c:0<=hL s.eqs e.id
  .obtain⟨j,q,d,f,i,p,r,l,g⟩:=Ka h c
   rw[Ă c,f]
   refine⟨q,⟨by omega,i⟩,_,zL (by omega) h.ζ.inc _,?_⟩
   show _=_
   unfold kS nj
   rw[d]
   unfold sA mn
   rw[Ă (by rfl)]
   simp only
   rw[On g]
  obtain⟨d,f,i,j,q,n,l,g,p,r⟩:=Jl t c
  rw[Ā c,l]
  refine⟨q,⟨by omega,g⟩,_,zL (by omega) h.eqs.inc _,?_⟩
  show _=_
  unfold kS nj
  rw[d,n]
  unfold sA mn
  rw[Ā (show ¬ (!true)=true by decide)]
  simp only
  rw[Oo f]
 rw[Ā a,Cq.Zd,Ă a]
 rfl
end Go.EL

namespace Go.EL
open Go.IntKind (i8 i16 i32 i64 u8 u16 u32 u64)
open Go Go.RowKit
def ni(s:Zb)(e:Zh):Zb:=
 if e.kind=1 then sj s e else if e.kind=2 then py s e else if e.kind=3 then ug s e else if e.kind=4 then sG s e
 else if e.kind=5 then pK s e else if e.kind=6 then mn s e.id else if e.kind=7 then rk s e else kS s e.id
def ns(s:Zb)(e:Zh):Zb×Int:=if Ν s e=0 then (ni s e,0) else (iP,Ν s e)
theorem Ci{s:Zb}{e:Zh}(h:e.kind=1):ni s e=sj s e:=Ă h
theorem Cj{s:Zb}{e:Zh}(h:e.kind=2):ni s e=py s e:=by unfold ni; rw[if_neg (by omega),if_pos h]
theorem Ck{s:Zb}{e:Zh}(h:e.kind=3):ni s e=ug s e:=by unfold ni; rw[if_neg (by omega),if_neg (by omega),if_pos h]
theorem Cl{s:Zb}{e:Zh}(h:e.kind=4):ni s e=sG s e:=by unfold ni; rw[if_neg (by omega),if_neg (by omega),if_neg (by omega),if_pos h]
theorem Cm{s:Zb}{e:Zh}(h:e.kind=5):ni s e=pK s e:=by unfold ni; rw[if_neg (by omega),if_neg (by omega),if_neg (by omega),if_neg (by omega),if_pos h]
theorem Cn{s:Zb}{e:Zh}(h:e.kind=6):ni s e=mn s e.id:=by unfold ni; rw[if_neg (by omega),if_neg (by omega),if_neg (by omega),if_neg (by omega),if_neg (by omega),if_pos h]
theorem Co{s:Zb}{e:Zh}(h:e.kind=7):ni s e=rk s e:=by unfold ni; rw[if_neg (by omega),if_neg (by omega),if_neg (by omega),if_neg (by omega),if_neg (by omega),if_neg (by omega),if_pos h]
theorem Cp{s:Zb}{e:Zh}(h:e.kind=8):ni s e=kS s e.id:=by unfold ni; rw[if_neg (by omega),if_neg (by omega),if_neg (by omega),if_neg (by omega),if_neg (by omega),if_neg (by omega),if_neg (by omega)]
theorem OQ{s:Zb}{e:Zh}:(e.kind=1\/e.kind=2\/e.kind=3\/e.kind=4\/e.kind=5\/e.kind=6\/e.kind=7\/e.kind=8)\/(¬ (1<=e.kind/\e.kind<=8)/\Ν s e=1):=by
 by_cases h:1<=e.kind/\e.kind<=8
 .exact .inl (by omega)
 refine .inr ⟨h,?_⟩
 unfold Ν
 rw[Ā (by omega),Ā (by omega),Ā (by omega),Ā (by omega),Ā (by omega),Ā (by omega)]
theorem A2{s:Zb}(h:Good s){e:Zh}(hp:ν e.p):(se s e).ο (ns s e):=by
 unfold ns
 rcases OQ (s:=s) (e:=e) with (k|k|k|k|k|k|k|k)|⟨k,a⟩
 .rw[Ci k]; exact XE h hp k
 .rw[Cj k]; exact XF h hp k
 .rw[Ck k]; exact XG h hp k
 .rw[Cl k]; exact XH h hp k
 .rw[Cm k]; exact XI h hp k
 .rw[Cn k]; exact XJ h hp k
 .rw[Co k]; exact XK h hp k
 .rw[Cp k]; exact XL h hp k
 rw[Ā (show ¬ Ν s e=0 by omega)]
 refine⟨_,u9 h hp,?_⟩
 rw[Cq.Zd,Ă (by omega)]
 rfl
def s7(e:Zh):Prop:=-1000<=e.kind/\e.kind<=1000
end Go.EL

namespace Go.EL
open Go.IntKind (i8 i16 i32 i64 u8 u16 u32 u64)
open Go Go.RowKit
theorem JA(v:Ĳ):∀ (l:Ŀ Ĳ) (k:Nat),(v ∉ l/\idxFrom v l k = -1)\/∃ j,idxFrom v l k=((k+j:Nat):Int)/\l[j]? = some v
 | [],_=>.inl ⟨by simp,rfl⟩
 | x::xs,k=>by
  unfold idxFrom
  by_cases h:x=v
  .rw[Ă h]
   exact .inr ⟨0,by simp,by simp[h]⟩
  rw[Ā h]
  rcases JA v xs (k+1) with ⟨a,c⟩|⟨j,a,c⟩
  .exact .inl ⟨λd=>by
    rcases ą.1 d with e|d
    .exact h e.symm
    exact a d,c⟩
  exact .inr ⟨j+1,by rw[a]; omega,by simpa using c⟩
theorem BU{l:Ŀ Ĳ}{v:Ĳ}(h:Õ l v<0):v ∉ l:=by
 rcases JA v l 0 with ⟨a,_⟩|⟨j,a,_⟩
 .exact a
 unfold Õ at h; omega
theorem BT{l:Ŀ Ĳ}{v:Ĳ}{k:Nat}(h:Õ l v=(k:Int)):l[k]? = some v:=by
 rcases JA v l 0 with ⟨_,a⟩|⟨j,a,c⟩
 .unfold Õ at h; omega
 unfold Õ at h
 rw[h] at a
 rw[show k=j by omega]; exact c
theorem Jh{π:M}(h:Ê π){p:Ŀ Za}(hp:ν p){n n':Nat}(r:n<=8)(e:n'<=8)(m:Í p (n:Int)=true)(s:∀ i:Fin 8,n'<=i.val->∃ j:Fin 8,(i.val:Int)=π j/\(n<=j.val\/iA j p=false)):Í (Ε π p) (n':Int)=true:=by
 obtain⟨g,l⟩:=(ve r).1 m
 refine (ve e).2 ⟨λt f i hi=>?_,λt f=>?_⟩
 .obtain⟨y,d,rfl⟩:=ă.1 ((ZR h hp.ord).1.mem_iff.1 f)
  obtain⟨j,q,a⟩:=s i hi
  show ¬ 0<iH π y.m i
  rw[uH h y.m j i q]
  rcases a with a|a
  .exact g y d j a
  intro c
  unfold iA at a
  have:=aaI.1 a y d
  simp only[Ģ] at this
  exact this c
 obtain⟨y,d,rfl⟩:=ă.1 ((ZR h hp.ord).1.mem_iff.1 f)
 show gV (iH π y.m)<=12
 rw[D1 h]
 exact l y d
theorem Jb(π:M)(l:Ŀ Zc){q:Zc}(h:q ∈ ir π l):∃ y ∈ l,y.id=q.id:=by
 obtain⟨y,a,rfl⟩:=ă.1 h
 exact⟨y,a,rfl⟩
theorem zG{π:M}(h:Ê π){n n':Nat}{next:Int}{l:Ŀ Zc}(a:gW n next l)(f:∀ q ∈ l,Í (Ε π q.p) (n':Int)=true):gW n' next (ir π l) where
 len:=by unfold ir; rw[List.length_map]; exact a.len
 ids q d:=by
  obtain⟨y,c,e⟩:=Jb π l d
  have:=a.ids y c; omega
 inc:=by
  unfold ir
  exact Ľ.2 a.inc
 iF q d:=by
  obtain⟨y,c,rfl⟩:=ă.1 d
  exact⟨ZM h (a.iF y c).1,f y c⟩
theorem HV{π:M}{a b:Ŀ Zc}(h:∀ x ∈ a,∀ y ∈ b,x.id≠y.id):∀ x ∈ ir π a,∀ y ∈ ir π b,x.id≠y.id:=λx e y f=>by
 obtain⟨x',c,g⟩:=Jb π a e
 obtain⟨y',d,i⟩:=Jb π b f
 have:=h x' c y' d; omega
theorem Good.Ko{s:Zb}(h:Good s){e:Zh}(F:e.kind=1)(E:Ν s e=0):Good (sj s e):=by
 obtain⟨G,w,H,y,A⟩:=tF F E
 obtain⟨a,B⟩:=Ļ w
 have C:a<=s.vars.length:=by omega
 have g:=Ew (a:=s.vars.length) (b:=a) (by omega) (by omega)
 have m:=BU A
 have f:(s.vars.take a++[e.name]++s.vars.drop a).length=s.vars.length+1:=by simp; omega
 have c:(s.vars.take a++[e.name]++s.vars.drop a).Perm (e.name::s.vars):=by
  have r:(s.vars.take a++([e.name]++s.vars.drop a)).Perm ([e.name]++(s.vars.take a++s.vars.drop a)):=List.perm_append_comm_assoc _ _ _
  rw[Ő] at r
  rw[ď]; exact r
 have d:∀ l,gW s.vars.length s.next l->∀ q ∈ l,Í (Ε (my s.vars.length a) q.p) ((s.vars.length+1:Nat):Int)=true:=λl t q u=>
  Jh g (t.iF q u).1 (n:=s.vars.length) (by omega) (by omega) (t.iF q u).2 λi hi=>⟨i,by unfold my; rw[if_neg (by omega),if_neg (by omega),if_neg (by omega)],.inl (by omega)⟩
 unfold sj
 rw[B,ģ]
 constructor
 .show (s.vars.take a++[e.name]++s.vars.drop a).length<=4
  omega
 .intro v p
  rcases ą.1 (c.mem_iff.1 p) with rfl|p
  .exact y
  exact h.name v p
 .exact (c.pairwise_iff (λj e=>j e.symm)).2 (Ğ.2 ⟨λb D e=>m (by rw[e]; exact D),h.diff⟩)
 .exact h.next
 .show gW (s.vars.take a++[e.name]++s.vars.drop a).length _ _
  rw[f]; exact zG g h.eqs (d _ h.eqs)
 .show gW (s.vars.take a++[e.name]++s.vars.drop a).length _ _
  rw[f]; exact zG g h.ζ (d _ h.ζ)
 exact HV h.apart
theorem ZsR{i:Fin 8}{l:Ŀ Zc}(h:mF i l=false):∀ q ∈ l,iA i q.p=false:=λq a=>by
 unfold mF at h
 have:=aaI.1 h q a
 simpa using this
theorem Good.Cs{s:Zb}(h:Good s){e:Zh}(F:e.kind=2)(B:Ν s e=0):Good (py s e):=by
 obtain⟨u,p⟩:=tG F B
 have y:=h.vars
 obtain⟨j,D,G⟩:=PU h.vars u
 have A:=Ĝ u
 rw[G] at p
 have E:j.val<s.vars.length:=by omega
 have g:=Ew (a:=j.val) (b:=s.vars.length-1) (by omega) (by omega)
 have d:(s.vars.take j.val++s.vars.drop (j.val+1)).length=s.vars.length-1:=by simp; omega
 have f:(s.vars.take j.val++s.vars.drop (j.val+1)).Sublist s.vars:=by
  rw[<- List.eraseIdx_eq_take_drop_succ]; exact List.eraseIdx_sublist ..
 have m:mF j s.eqs=false/\mF j s.ζ=false:=by
  unfold mG at p
  exact Bool.or_eq_false_iff.1 p
 have c:∀ l,gW s.vars.length s.next l->mF j l=false->∀ q ∈ l,Í (Ε (my j.val (s.vars.length-1)) q.p) ((s.vars.length-1:Nat):Int)=true:=λl w t q r=>
  Jh g (w.iF q r).1 (n:=s.vars.length) (by omega) (by omega) (w.iF q r).2 λi hi=>by
   by_cases C:i.val=s.vars.length-1
   .refine⟨j,?_,.inr (ZsR t q r)⟩
    unfold my
    rw[Ă rfl]; omega
   refine⟨i,?_,.inl (by omega)⟩
   unfold my
   rw[Ā (by omega),Ā (by omega),Ā (by omega)]
 unfold py
 rw[D,ģ]
 constructor
 .show (s.vars.take j.val++s.vars.drop (j.val+1)).length<=4
  omega
 .exact λv y=>h.name v (f.subset y)
 .exact h.diff.sublist f
 .exact h.next
 .show gW (s.vars.take j.val++s.vars.drop (j.val+1)).length _ _
  rw[d]; exact zG g h.eqs (c _ h.eqs m.1)
 .show gW (s.vars.take j.val++s.vars.drop (j.val+1)).length _ _
  rw[d]; exact zG g h.ζ (c _ h.ζ m.2)
 exact HV h.apart
theorem Good.Ln{s:Zb}(h:Good s){e:Zh}(B:e.kind=3)(A:Ν s e=0):Good (ug s e):=by
 obtain⟨w,y,d⟩:=tH B A
 have g:=Ĝ w
 obtain⟨a,t⟩:=Ļ g.1
 have l:a<s.vars.length:=by omega
 unfold ug
 rw[t,ģ]
 have c:(s.vars.set a e.name).length=s.vars.length:=Ũ
 constructor
 .show (s.vars.set a e.name).length<=4
  rw[c]; exact h.vars
 .intro v p
  rcases List.mem_or_eq_of_mem_set p with p|rfl
  .exact h.name v p
  exact y
 .show (s.vars.set a e.name).Pairwise λa b=>a≠b
  rcases d with d|d
  .have f:=BU d
   refine Ę.2 λi j hi n m=>?_
   rw[aam,aam]
   rw[c] at hi n
   by_cases q:a=i
   .rw[Ă q,Ā (by omega)]
    exact λe=>f (by rw[e]; exact Ċ n)
   rw[Ā q]
   by_cases r:a=j
   .rw[Ă r]
    exact λe=>f (by rw[<- e]; exact Ċ hi)
   rw[Ā r]
   exact Ę.1 h.diff i j hi n m
  have u:=BT (k:=a) (by rw[d,t])
  rw[Ą l] at u
  rw[<- Ŵ u,List.set_getElem_self]
  exact h.diff
 .exact h.next
 .show gW (s.vars.set a e.name).length _ _
  rw[c]; exact h.eqs
 .show gW (s.vars.set a e.name).length _ _
  rw[c]; exact h.ζ
 exact h.apart
def nk(l:Ŀ Ĳ)(a b:Nat):Ŀ Ĳ:=(l.set a (l.getD b ByteArray.empty)).set b (l.getD a ByteArray.empty)
theorem Br(l:Ŀ Ĳ)(a b:Nat):(nk l a b).length=l.length:=by unfold nk; rw[List.length_set,List.length_set]
theorem I1{l:Ŀ Ĳ}{a b:Nat}(d:a<l.length)(e:b<l.length){i:Nat}(hi:i<(nk l a b).length):(nk l a b)[i]=if b=i then l[a] else if a=i then l[b] else l[i]'(by rw[Br] at hi; exact hi):=by
 have c:i<((l.set a (l.getD b ByteArray.empty)).set b (l.getD a ByteArray.empty)).length:=hi
 show ((l.set a (l.getD b ByteArray.empty)).set b (l.getD a ByteArray.empty))[i]'c=_
 rw[aam,aam]
 simp[Ķ,Ą d,Ą e]
theorem ZsN{l:Ŀ Ĳ}{a b:Nat}(c:a<l.length)(d:b<l.length){v:Ĳ}(e:v ∈ nk l a b):v ∈ l:=by
 obtain⟨i,hi,rfl⟩:=Ĩ.1 e
 rw[I1 c d hi]
 split
 .exact Ċ _
 split <;> exact Ċ _
theorem uJ{l:Ŀ Ĳ}(h:l.Pairwise λa b=>a≠b){i j:Nat}(hi:i<l.length)(f:j<l.length)(d:i≠j):l[i]≠l[j]:=by
 rcases Nat.lt_or_gt_of_ne d with c|c
 .exact Ę.1 h i j hi f c
 exact λe=>Ę.1 h j i f hi c e.symm
theorem X0{l:Ŀ Ĳ}{a b:Nat}(c:a<l.length)(d:b<l.length)(h:l.Pairwise λa b=>a≠b):(nk l a b).Pairwise λa b=>a≠b:=by
 refine Ę.2 λi j hi g p=>?_
 rw[I1 c d hi,I1 c d g]
 rw[Br] at hi g
 by_cases m:b=i
 .rw[Ă m,Ā (by omega)]
  by_cases e:a=j
  .rw[Ă e]; exact uJ h c d (by omega)
  rw[Ā e]; exact uJ h c g (by omega)
 rw[Ā m]
 by_cases e:b=j
 .rw[Ă e]
  by_cases f:a=i
  .rw[Ă f]; exact uJ h d c (by omega)
  rw[Ā f]; exact uJ h hi c (by omega)
 rw[Ā e]
 by_cases f:a=i
 .rw[Ă f,Ā (by omega)]; exact uJ h d g (by omega)
 rw[Ā f]
 by_cases n:a=j
 .rw[Ă n]; exact uJ h hi d (by omega)
 rw[Ā n]; exact uJ h hi g (by omega)
theorem ZsM{a b:Nat}{i:Fin 8}(c:a≠i.val)(d:b≠i.val):l3 a b i=(i.val:Int):=by
 unfold l3 å
 rw[Ā (by omega),Ā (by omega)]
 rfl
theorem Good.CZ{s:Zb}(h:Good s){e:Zh}(C:e.kind=4)(B:Ν s e=0):Good (sG s e):=by
 obtain⟨u,w⟩:=tI C B
 have t:=h.vars
 have j:=Ĝ u
 have m:=Ĝ w
 obtain⟨a,y⟩:=Ļ j.1
 obtain⟨b,A⟩:=Ļ m.1
 have f:a<s.vars.length:=by omega
 have g:b<s.vars.length:=by omega
 have d:=swap_perm (a:=a) (b:=b) (by omega) (by omega)
 have c:∀ l,gW s.vars.length s.next l->∀ q ∈ l,Í (Ε (l3 a b) q.p) (s.vars.length:Int)=true:=λl p q r=>
  Jh d (p.iF q r).1 (n:=s.vars.length) (by omega) (by omega) (p.iF q r).2 λi hi=>⟨i,(ZsM (by omega) (by omega)).symm,.inl hi⟩
 unfold sG
 rw[y,A,ģ,ģ]
 show Good ⟨nk s.vars a b,_,_,_⟩
 constructor
 .show (nk s.vars a b).length<=4
  rw[Br]; exact h.vars
 .exact λv t=>h.name v (ZsN f g t)
 .exact X0 f g h.diff
 .exact h.next
 .show gW (nk s.vars a b).length _ _
  rw[Br]; exact zG d h.eqs (c _ h.eqs)
 .show gW (nk s.vars a b).length _ _
  rw[Br]; exact zG d h.ζ (c _ h.ζ)
 exact HV h.apart
theorem ZtN(l:Ŀ Zc)(x:Zc):(kd l x).length<=l.length+1:=by
 have h:∀ l:Ŀ Zc,(l.filter λq=>decide (q.id<x.id)).length+(l.filter λq=>decide (x.id<q.id)).length<=l.length:=λl=>by
  induction l with
  | nil=>simp
  | cons y l d=>
   by_cases a:y.id<x.id
   .rw[aax (by simpa using a),Ų (by simp; omega)]
    simp only[Ġ]; omega
   rw[Ų (by simp; omega)]
   by_cases c:x.id<y.id
   .rw[aax (by simpa using c)]; simp only[Ġ]; omega
   rw[Ų (by simp; omega)]; simp only[Ġ]; omega
 have:=h l
 unfold kd
 rw[ā,Ġ]
 omega
theorem zI{l:Ŀ Zc}{x q:Zc}(h:q ∈ kd l x):q=x\/(q ∈ l/\q.id≠x.id):=by
 unfold kd at h
 rcases ĉ.1 h with h|h
 .obtain⟨a,c⟩:=Ė.1 h
  have:=Ĝ c
  exact .inr ⟨a,by omega⟩
 rcases ą.1 h with h|h
 .exact .inl h
 obtain⟨a,c⟩:=Ė.1 h
 have:=Ĝ c
 exact .inr ⟨a,by omega⟩
theorem ZtM{l:Ŀ Zc}(h:l.Pairwise λa b=>a.id<b.id)(x:Zc):(kd l x).Pairwise λa b=>a.id<b.id:=by
 unfold kd
 refine ţ.2 ⟨h.filter _,Ğ.2 ⟨λb c=>?_,h.filter _⟩,λa e b c=>?_⟩
 .exact Ĝ (Ė.1 c).2
 have d:a.id<x.id:=Ĝ (Ė.1 e).2
 rcases ą.1 c with rfl|c
 .exact d
 have f:x.id<b.id:=Ĝ (Ė.1 c).2
 omega
theorem Fj{n:Nat}{next a:Int}{l:Ŀ Zc}(h:gW n next l)(g:l.length<12){x:Zc}(e:ν x.p/\Í x.p (n:Int)=true)(d:1<=x.id/\x.id<a)(f:next<=a):gW n a (kd l x) where
 len:=by have:=ZtN l x; omega
 ids q c:=by
  rcases zI c with rfl|⟨c,_⟩
  .exact d
  have:=h.ids q c; omega
 inc:=ZtM h.inc x
 iF q c:=by
  rcases zI c with rfl|⟨c,_⟩
  .exact e
  exact h.iF q c
theorem gW.up{n:Nat}{next a:Int}{l:Ŀ Zc}(h:gW n next l)(d:next<=a):gW n a l where
 len:=h.len
 ids q c:=by have:=h.ids q c; omega
 inc:=h.inc
 iF:=h.iF
theorem E0{n:Nat}{next:Int}{l:Ŀ Zc}(h:gW n next l)(id:Int):gW n next (kD l id) where
 len:=by have:=Yo l id; have:=h.len; omega
 ids q a:=h.ids q (Ė.1 a).1
 inc:=Yn h.inc id
 iF q a:=h.iF q (Ė.1 a).1
theorem Fc{id:Int}{p:Ŀ Za}{l:Ŀ Zc}{q:Zc}(h:q ∈ n2 id p l):∃ y ∈ l,y.id=q.id/\(q.p=y.p\/q.p=p):=by
 obtain⟨y,a,rfl⟩:=ă.1 h
 refine⟨y,a,?_⟩
 split
 .exact⟨rfl,.inr rfl⟩
 exact⟨rfl,.inl rfl⟩
theorem RD{n:Nat}{next:Int}{l:Ŀ Zc}(h:gW n next l)(id:Int){p:Ŀ Za}(hp:ν p/\Í p (n:Int)=true):gW n next (n2 id p l) where
 len:=by unfold n2; rw[List.length_map]; exact h.len
 ids q d:=by
  obtain⟨y,f,e,_⟩:=Fc d
  have:=h.ids y f; omega
 inc:=by
  unfold n2
  refine Ľ.2 (h.inc.imp λ{a b} c=>?_)
  have g:∀ z:Zc,(if z.id=id then (⟨z.id,p⟩:Zc) else z).id=z.id:=λz=>by split <;> rfl
  rw[g,g]; exact c
 iF q d:=by
  obtain⟨y,f,_,e|e⟩:=Fc d
  .rw[e]; exact h.iF y f
  rw[e]; exact hp
theorem Zvs{s:Zb}(h:Good s){e:Zh}(c:e.kind=5)(a:Ν s e=0):1<=iN s e/\iN s e<1000000:=by
 obtain⟨g,i,j,l,m,f,n⟩:=qZ c a
 have:=h.next
 unfold iN
 split
 .rename_i d; have:=f d; omega
 omega
theorem Good.Kp{s:Zb}(h:Good s){e:Zh}(hp:ν e.p)(m:e.kind=5)(l:Ν s e=0):Good (pK s e):=by
 obtain⟨r,w,t,u,v,y,n⟩:=qZ m l
 have f:=ZuS h r t
 have d:=Zvs h m l
 have p:=h.next
 have j:(∀ q ∈ s.eqs,q.id≠iN s e)/\∀ q ∈ s.ζ,q.id≠iN s e:=⟨λq i e'=>absurd ((Kb s _).2 (.inl ⟨q,i,e'⟩)) (by rw[f]; decide),λq i e'=>absurd ((Kb s _).2 (.inr ⟨q,i,e'⟩)) (by rw[f]; decide)⟩
 have c:(if s.next<iN s e+1 then iN s e+1 else s.next)<=1000000/\s.next<=(if s.next<iN s e+1 then iN s e+1 else s.next)/\iN s e<(if s.next<iN s e+1 then iN s e+1 else s.next):=by split <;> omega
 unfold pK
 generalize (if s.next<iN s e+1 then iN s e+1 else s.next)=nx at c
 cases i:e.neq with
 | false=>
  rw[Ā (by decide),Ā (by decide)]
  exact⟨h.vars,h.name,h.diff,⟨by show 1<=nx; omega,c.1⟩,Fj h.eqs (u i) ⟨hp,n⟩ ⟨d.1,c.2.2⟩ c.2.1,h.ζ.up c.2.1,λa g b d=>by
   rcases zI g with rfl|⟨g,_⟩
   .exact λe=>j.2 b d e.symm
   exact h.apart a g b d⟩
 | true=>
  rw[Ă rfl,Ă rfl]
  exact⟨h.vars,h.name,h.diff,⟨by show 1<=nx; omega,c.1⟩,h.eqs.up c.2.1,Fj h.ζ (v i) ⟨hp,n⟩ ⟨d.1,c.2.2⟩ c.2.1,λa g b d=>by
   rcases zI d with rfl|⟨d,_⟩
   .exact j.1 a g
   exact h.apart a g b d⟩
theorem Good.Ct{s:Zb}(h:Good s)(id:Int):Good (mn s id):=
 ⟨h.vars,h.name,h.diff,h.next,E0 h.eqs id,E0 h.ζ id,λa c b d=>h.apart a (Ė.1 c).1 b (Ė.1 d).1⟩
theorem tJ{s:Zb}{e:Zh}(c:e.kind=7)(a:Ν s e=0):Í e.p (s.vars.length:Int)=true:=by
 have d:=nE (.inr (.inl c)) a
 rw[oK (.inr (.inl c))] at a
 unfold yC at a
 rw[d,Ā (by decide)] at a
 cases f:Í e.p (s.vars.length:Int) with
 | true=>rfl
 | false=>rw[Ă ⟨c,f⟩] at a; exact absurd a (by decide)
theorem yn{s:Zb}{e:Zh}(d:e.kind=8)(a:Ν s e=0):(0<=hL s.eqs e.id->s.ζ.length<12)/\(¬ 0<=hL s.eqs e.id->s.eqs.length<12):=by
 have h:=nE (.inr (.inr d)) a
 rw[oK (.inr (.inr d))] at a
 unfold yC at a
 rw[h,Ā (by decide),Ā (λk=>by omega)] at a
 by_cases c:e.kind=8/\((0<=hL s.eqs e.id/\12<=s.ζ.length)\/(¬ 0<=hL s.eqs e.id/\12<=s.eqs.length))
 .rw[Ă c] at a; exact absurd a (by decide)
 exact⟨λf=>abQ.1 λg=>c ⟨d,.inl ⟨f,g⟩⟩,λf=>abQ.1 λg=>c ⟨d,.inr ⟨f,g⟩⟩⟩
theorem Good.Lw{s:Zb}(h:Good s){e:Zh}(hp:ν e.p)(g:e.kind=7)(f:Ν s e=0):Good (rk s e):=
 ⟨h.vars,h.name,h.diff,h.next,RD h.eqs e.id ⟨hp,tJ g f⟩,RD h.ζ e.id ⟨hp,tJ g f⟩,λa i b j=>by
  obtain⟨a',c,l,_⟩:=Fc i
  obtain⟨b',d,m,_⟩:=Fc j
  have:=h.apart a' c b' d
  omega⟩
theorem Yr{s:Zb}(h:Good s){id:Int}(p:hasB s id=true):
  (0<=hL s.eqs id/\∃ q ∈ s.eqs,q.id=id/\nj s id=(q,false,true)/\(∀ z ∈ s.ζ,z.id≠id)/\kS s id=⟨s.vars,kD s.eqs id,kd s.ζ q,s.next⟩)
  \/(¬ 0<=hL s.eqs id/\∃ q ∈ s.ζ,q.id=id/\nj s id=(q,true,true)/\(∀ z ∈ s.eqs,z.id≠id)/\kS s id=⟨s.vars,kd s.eqs q,kD s.ζ id,s.next⟩):=by
 by_cases c:0<=hL s.eqs id
 .obtain⟨j,q,d,i,l,e,f,n,g⟩:=Ka h c
  have a:nj s id=(q,false,true):=by unfold nj; rw[d]
  refine .inl ⟨c,q,e,f,a,g,?_⟩
  unfold kS
  rw[a]
  unfold sA mn
  rw[Ă (by rfl)]
  simp only
  rw[On g]
 obtain⟨d,i,l,j,q,m,n,g,e,f⟩:=Jl p c
 have a:nj s id=(q,true,true):=by unfold nj; rw[d,m]
 refine .inr ⟨c,q,e,f,a,l,?_⟩
 unfold kS
 rw[a]
 unfold sA mn
 rw[Ā (show ¬ (!true)=true by decide)]
 simp only
 rw[Oo i]
theorem Good.CA{s:Zb}(h:Good s){e:Zh}(u:e.kind=8)(t:Ν s e=0):Good (kS s e.id):=by
 obtain⟨v,w⟩:=yn u t
 rcases Yr h (nE (.inr (.inr u)) t) with ⟨p,q,f,g,_,r,i⟩|⟨p,q,f,g,_,r,i⟩
 .rw[i]
  exact⟨h.vars,h.name,h.diff,h.next,E0 h.eqs _,Fj h.ζ (v p) (h.eqs.iF q f) (h.eqs.ids q f) (ň _),λa c b d=>by
   obtain⟨j,l⟩:=Ė.1 c
   rcases zI d with rfl|⟨d,_⟩
   .rw[g]; exact Ĝ l
   exact h.apart a j b d⟩
 rw[i]
 exact⟨h.vars,h.name,h.diff,h.next,Fj h.eqs (w p) (h.ζ.iF q f) (h.ζ.ids q f) (ň _),E0 h.ζ _,λa c b d=>by
  obtain⟨m,n⟩:=Ė.1 d
  rcases zI c with rfl|⟨c,_⟩
  .rw[g]; exact λk=>Ĝ n k.symm
  exact h.apart a c b m⟩
theorem Good.edit{s:Zb}(h:Good s){e:Zh}(hp:ν e.p)(a:Ν s e=0):Good (ni s e):=by
 rcases OQ (s:=s) (e:=e) with (k|k|k|k|k|k|k|k)|⟨_,k⟩
 .rw[Ci k]; exact h.Ko k a
 .rw[Cj k]; exact h.Cs k a
 .rw[Ck k]; exact h.Ln k a
 .rw[Cl k]; exact h.CZ k a
 .rw[Cm k]; exact h.Kp hp k a
 .rw[Cn k]; exact h.Ct e.id
 .rw[Co k]; exact h.Lw hp k a
 .rw[Cp k]; exact h.CA k a
 omega
theorem Yq(s:Zb)(id:Int):(kS s id).next=s.next/\(kS s id).vars=s.vars:=by
 unfold kS sA mn
 split <;> exact⟨rfl,rfl⟩
theorem Zsl(s:Zb)(e:Zh):s.next<=(ni s e).next/\((ni s e).next=s.next\/(ni s e).next=iN s e+1):=by
 unfold ni
 repeat' split
 .exact⟨ň _,.inl rfl⟩
 .exact⟨ň _,.inl rfl⟩
 .exact⟨ň _,.inl rfl⟩
 .exact⟨ň _,.inl rfl⟩
 .show s.next<=(if s.next<iN s e+1 then iN s e+1 else s.next)/\((if s.next<iN s e+1 then iN s e+1 else s.next)=s.next\/_=_)
  split
  .rename_i a
   exact⟨by omega,.inr (Ă a)⟩
  exact⟨by omega,.inl rfl⟩
 .exact⟨ň _,.inl rfl⟩
 .exact⟨ň _,.inl rfl⟩
 rw[(Yq s e.id).1]; exact⟨ň _,.inl rfl⟩
end Go.EL

namespace Go.EL
open Go.IntKind (i8 i16 i32 i64 u8 u16 u32 u64)
open Go Go.RowKit
theorem Wu{t:Za}(h:iR t):(DI t t).ο true:=by
 obtain⟨⟨c,e,a,d,f⟩,_⟩:=h
 have:=Zv ZtR (x:=c) d f
 unfold DI
 rw[Ă rfl]
 refine⟨true,?_,rfl⟩
 rw[e]
 exact ZC (by simpa [a] using this)
theorem Yb{p:Ŀ Za}(h:ν p):(ER p p).ο true:=by
 have d:=h.len
 unfold ER
 rw[Ā (λk=>k rfl)]
 refine Cq.Zp p.length (λk s=>s=(k:Int)) (λk s a c=>?_) (λs c=>?_) rfl
 .subst c
  rw[Cq.Zd,Ă (by omega)]
  refine⟨p[k],â a,p[k],â a,true,Wu (h.at a),?_⟩
  rw[Cq.Zd,Ā (by decide)]
  exact Β (by omega)
 subst c
 rw[Cq.Zd,Ā (by omega)]
 rfl
theorem Nc{l:Ŀ Zc}(d:l.length<=100)(h:∀ q ∈ l,ν q.p):(AZ l l).ο true:=by
 unfold AZ
 rw[Ā (λk=>k rfl)]
 refine Cq.Zp l.length (λk s=>s=(k:Int)) (λk s a c=>?_) (λs c=>?_) rfl
 .subst c
  rw[Cq.Zd,Ă (by omega)]
  refine⟨l[k],â a,l[k],â a,?_⟩
  rw[Cq.Zd,Ā (λk=>k rfl)]
  refine⟨l[k],â a,l[k],â a,true,Yb (h _ (Ċ a)),?_⟩
  rw[Cq.Zd,Ā (by decide)]
  exact Β (by omega)
 subst c
 rw[Cq.Zd,Ā (by omega)]
 rfl
structure pI (s:Zb):Prop where
 v:s.vars.length<=100
 e:s.eqs.length<=100/\∀ q ∈ s.eqs,ν q.p
 n:s.ζ.length<=100/\∀ q ∈ s.ζ,ν q.p
theorem Good.sys{s:Zb}(h:Good s):pI s:=
 ⟨by have:=h.vars; omega,⟨by have:=h.eqs.len; omega,λq a=>(h.eqs.iF q a).1⟩,⟨by have:=h.ζ.len; omega,λq a=>(h.ζ.iF q a).1⟩⟩
theorem Qy{s:Zb}(h:pI s):(BH s s).ο true:=by
 have d:=h.v
 unfold BH
 rw[Ā (λk=>k rfl),Ā (λk=>k rfl)]
 refine⟨true,Nc h.e.1 h.e.2,true,Nc h.n.1 h.n.2,?_⟩
 rw[Cq.Zd,Ā (by decide)]
 refine Cq.Zp s.vars.length (λk st=>st=(k:Int)) (λk st c a=>?_) (λst a=>?_) rfl
 .subst a
  rw[Cq.Zd,Ă (by omega)]
  refine⟨s.vars[k],â c,s.vars[k],â c,?_⟩
  rw[Cq.Zd,Ā (λk=>k rfl)]
  exact Β (by omega)
 subst a
 rw[Cq.Zd,Ā (by omega)]
 rfl
theorem Kl:ν []:=⟨List.Pairwise.nil,λt a=>absurd a ĝ,by decide⟩
end Go.EL

namespace Go.EL
open Go.IntKind (i8 i16 i32 i64 u8 u16 u32 u64)
open Go Go.RowKit
def oH:Zb->Ŀ Zh->Nat->ZI
 | s,[],k=>⟨s,(k:Int),0⟩
 | s,e::l,k=>if Ν s e=0 then oH (ni s e) l (k+1) else ⟨iP,(k:Int),Ν s e⟩
theorem Zuq{s:Zb}{l:Ŀ Zh}{k:Nat}(a:k<l.length):oH s (l.drop k) k=if Ν s l[k]=0 then oH (ni s l[k]) (l.drop (k+1)) (k+1) else ⟨iP,(k:Int),Ν s l[k]⟩:=by
 rw[Ĵ a]; rfl
theorem Zvb{l:Ŀ Zh}(m:l.length<=1000)(hp:∀ e ∈ l,ν e.p){s:Zb}(h:Good s):(Km s l).ο (oH s l 0):=by
 show (Cq.next _ _).wp _
 refine Cq.Zp l.length (λk st=>∃ t,st=((k:Int),t,ZI.mk iP 0 0)/\Good t/\oH s l 0=oH t (l.drop k) k) (λk st g i=>?_) (λst i=>?_) ⟨s,rfl,h,rfl⟩
 .obtain⟨t,rfl,f,a⟩:=i
  have d:=hp l[k] (Ċ g)
  rw[Zuq g] at a
  refine Cq.wp.yes (p:=(k:Int)<(l.length:Int)) (by omega) ?_
  refine⟨l[k],â g,_,A2 f d,?_⟩
  rw[Cq.Zd]
  unfold ns
  by_cases c:Ν t l[k]=0
  .rw[Ă c] at a
   rw[Ă c,Ā (λj=>j rfl)]
   refine⟨ni t l[k],?_,f.edit d c,a⟩
   show _=_
   rw[Β (by omega)]
  rw[Ā c] at a
  rw[Ā c,Ă c]
  show _=_
  rw[a]; rfl
 obtain⟨t,rfl,f,a⟩:=i
 rw[ũ] at a
 refine Cq.wp.no (p:=((l.length:Nat):Int)<(l.length:Int)) (by omega) ?_
 show _=_
 rw[a]; rfl
structure lM (x:Zx):Prop where
 kind:0<=x.kind/\x.kind<=255
 a:0<=x.a/\x.a<=255
 b:0<=x.b/\x.b<=255
 n:0<=x.n/\x.n<=255
 p:oD x.p
def qU(p:Ŀ Za):Prop:=p.length<=3/\∀ t ∈ p,(∃ c:Int,t.c=ð c/\-9<=c/\c<=9)/\gV t.m<=2
structure nP (s:Zb) (e:Zh):Prop where
 kind:1<=e.kind/\e.kind<=8
 p:ν e.p
 small:qU e.p
 id:0<=e.id/\e.id<=s.next
theorem nP.k{s:Zb}{e:Zh}(h:nP s e):s7 e:=by have:=h.kind; exact⟨by omega,by omega⟩
structure Fit (s:Zb):Prop where
 vars:s.vars.length<=4
 next:0<=s.next/\s.next<=1000000
theorem Good.fit{s:Zb}(h:Good s):Fit s:=⟨h.vars,by have:=h.next; omega,h.next.2⟩
theorem JX{s:Zb}(h:Fit s){x:Zx}(g:lM x)(b:Zh):∃ e,(Be s x b).ο e/\e.kind=b.kind/\e.id=b.id/\ν e.p/\qU e.p:=by
 have l:=h.vars
 have i:(if 3<(s.vars.length:Int) then 3 else (s.vars.length:Int))=((min s.vars.length 3:Nat):Int):=by split <;> omega
 refine⟨⟨b.kind,b.name,b.Ζ,b.ll,b.id,tY x.p (min s.vars.length 3) 2 3,b.neq⟩,⟨_,by rw[i]; exact YV g.p (by omega) (by decide) (by decide) (by decide),rfl⟩,rfl,rfl,?_⟩
 have a:=Ztz g.p (n:=min s.vars.length 3) (by omega) (d:=2) (by decide) 3
 refine⟨a.iF (by decide) (by decide) (by decide),a.len,λt f=>⟨?_,(a.qa t f).2.2⟩⟩
 obtain⟨c,j,_,m,p⟩:=a.zR t f
 exact⟨c,j,by omega,by omega⟩
theorem Zuh{s:Zb}(h:Fit s){x:Zx}(g:lM x)(b:Zh)(m:0<=b.id/\b.id<=s.next):∃ e,(xB s x b).ο e/\e.kind=b.kind/\(0<=e.id/\e.id<=s.next)/\ν e.p/\qU e.p:=by
 have n:=h.next
 unfold xB
 by_cases i:b.kind=5
 .rw[Ă i]
  by_cases j:0<Int.tmod x.n 4
  .rw[Ă j]
   obtain⟨e,a,c,f,d⟩:=JX h g (Zh.mk b.kind b.name b.Ζ b.ll 0 b.p b.neq)
   have l:e.id=0:=f
   exact⟨e,a,c,by omega,d⟩
  rw[Ā j]
  obtain⟨e,a,c,f,d⟩:=JX h g b
  exact⟨e,a,c,by omega,d⟩
 rw[Ā i]
 obtain⟨e,a,c,f,d⟩:=JX h g b
 exact⟨e,a,c,by omega,d⟩
theorem Q3{s:Zb}(h:Fit s){x:Zx}(j:lM x):∃ e,(BI s x).ο e/\nP s e:=by
 have w:=h.vars
 have u:=h.next
 obtain⟨y,A⟩:=j.kind
 have B:=j.a
 have C:=j.n
 have w1:i64.wrap ((s.vars.length:Int)+1)=(s.vars.length:Int)+1:=wrap64 (by omega)
 have w2:i64.wrap (s.next+1)=s.next+1:=wrap64 (by omega)
 have w3:i64.wrap x.n=x.n:=wrap64 (by omega)
 have t6:=wm (a:=x.n) (b:=6) (by omega) (by omega)
 have t16:=wm (a:=x.kind) (b:=16) (by omega) (by omega)
 have t4:=wm (a:=x.a) (b:=4) (by omega) (by omega)
 have D:=wm (a:=x.n) (b:=s.next+1) (by omega) (by omega)
 have f:∃ v,0<=Int.tmod x.n 6/\([Zr,uD,wa,vb,uE,Z1]:Ŀ Ĳ)[(Int.tmod x.n 6).toNat]? = some v:=⟨_,t6.1,Ą (show (Int.tmod x.n 6).toNat<6 by omega)⟩
 obtain⟨v,g⟩:=f
 have key:∀ b:Zh,1<=b.kind/\b.kind<=8->b.id=Int.tmod (i64.wrap x.n) (i64.wrap (s.next+1))->∃ e,(xB s x b).ο e/\nP s e:=λb t m=>by
  rw[w2,w3] at m
  obtain⟨e,d,i,q,p⟩:=Zuh h j b (by omega)
  exact⟨e,d,⟨by omega,p.1,p.2,q⟩⟩
 have wrap:∀ {e:Zh}{c:Cq Zh},(c).ο e->(Cq.ì ((i64.wrap ((s.vars.length:Int)+1))≠0) (Cq.ì ((i64.wrap ((s.vars.length:Int)+1))≠0) (Cq.ì ((i64.wrap (s.next+1))≠0) c))).ο e:=λ{e c} r=>⟨by rw[w1]; omega,by rw[w1]; omega,by rw[w2]; omega,r⟩
 unfold BI
 by_cases l:8<=Int.tmod x.kind 16
 .by_cases n:Int.tmod x.a 8<5
  .obtain⟨e,d,i⟩:=key (Zh.mk 5 v (Int.tmod (i64.wrap x.a) (i64.wrap ((s.vars.length:Int)+1))) (Int.tmod (i64.wrap x.b) (i64.wrap ((s.vars.length:Int)+1))) (Int.tmod (i64.wrap x.n) (i64.wrap (s.next+1))) [] (decide ((Int.tmod x.b 4)=3))) (by show 1<=(5:Int)/\(5:Int)<=8; decide) rfl
   refine⟨e,wrap ⟨_,rfl,v,g,?_⟩,i⟩
   rw[Cq.Zd,Ă l,Cq.Zd,Ă n]; exact d
  have w4:i64.wrap (5+(i64.wrap (Int.tmod x.a 4)))=5+Int.tmod x.a 4:=by rw[wrap64 (x:=Int.tmod x.a 4) (by omega),wrap64 (by omega)]
  obtain⟨e,d,i⟩:=key (Zh.mk (i64.wrap (5+(i64.wrap (Int.tmod x.a 4)))) v (Int.tmod (i64.wrap x.a) (i64.wrap ((s.vars.length:Int)+1))) (Int.tmod (i64.wrap x.b) (i64.wrap ((s.vars.length:Int)+1))) (Int.tmod (i64.wrap x.n) (i64.wrap (s.next+1))) [] (decide ((Int.tmod x.b 4)=3))) (by show 1<=i64.wrap (5+(i64.wrap (Int.tmod x.a 4)))/\i64.wrap (5+(i64.wrap (Int.tmod x.a 4)))<=8; rw[w4]; omega) rfl
  refine⟨e,wrap ⟨_,rfl,v,g,?_⟩,i⟩
  rw[Cq.Zd,Ă l,Cq.Zd,Ā n]; exact d
 have w4:i64.wrap (1+(i64.wrap (Int.tmod x.kind 16)))=1+Int.tmod x.kind 16:=by rw[wrap64 (x:=Int.tmod x.kind 16) (by omega),wrap64 (by omega)]
 obtain⟨e,d,i⟩:=key (Zh.mk (i64.wrap (1+(i64.wrap (Int.tmod x.kind 16)))) v (Int.tmod (i64.wrap x.a) (i64.wrap ((s.vars.length:Int)+1))) (Int.tmod (i64.wrap x.b) (i64.wrap ((s.vars.length:Int)+1))) (Int.tmod (i64.wrap x.n) (i64.wrap (s.next+1))) [] (decide ((Int.tmod x.b 4)=3))) (by show 1<=i64.wrap (1+(i64.wrap (Int.tmod x.kind 16)))/\i64.wrap (1+(i64.wrap (Int.tmod x.kind 16)))<=8; rw[w4]; omega) rfl
 refine⟨e,wrap ⟨_,rfl,v,g,?_⟩,i⟩
 rw[Cq.Zd,Ā l]; exact d
def CR:Zb:=⟨[],[],[],1⟩
theorem ZtF:Good CR:=⟨by decide,λv e=>absurd e ĝ,List.Pairwise.nil,by decide,⟨by decide,λq c=>absurd c ĝ,List.Pairwise.nil,λq c=>absurd c ĝ⟩,⟨by decide,λq c=>absurd c ĝ,List.Pairwise.nil,λq c=>absurd c ĝ⟩,λa d=>absurd d ĝ⟩
theorem PD{s:Zb}{e:Zh}(c:nP s e):(ni s e).next<=s.next+1:=by
 have a:=Zsl s e
 have d:=c.id
 unfold iN at a
 split at a <;> omega
theorem Iy{l:Ŀ Zx}(n:∀ x ∈ l,lM x){m:Nat}(q:m<=12):∀ (d k:Nat) (s:Zb),k+d=min l.length m->Good s->s.next<=(k:Int)+1->∃ r,(N0 l (m:Int) ((k:Int),s)).ο r/\Good r/\r.next<=13
 | 0,k,s,t,a,u=>by
  refine⟨s,Cq.sK ?_,a,by omega⟩
  show (if (k:Int)<(l.length:Int) then _ else _:Cq _).wp _
  rw[Cq.Zd]
  by_cases c:(k:Int)<(l.length:Int)
  .rw[Ă c,Cq.Zd,Ā (by omega)]; rfl
  rw[Ā c]; rfl
 | d+1,k,s,t,a,u=>by
  have f:k<l.length:=by omega
  obtain⟨e,p,g⟩:=Q3 a.fit (n l[k] (Ċ f))
  by_cases h:Ν s e=0
  .have v:=PD g
   obtain⟨r,i,j⟩:=Iy n q d (k+1) (ni s e) (by omega) (a.edit g.p h) (by omega)
   refine⟨r,Cq.sK ?_,j⟩
   show (if (k:Int)<(l.length:Int) then _ else _:Cq _).wp _
   rw[Cq.Zd,Ă (by omega),Cq.Zd,Ă (by omega)]
   refine⟨l[k],â f,e,p,_,A2 a g.p,?_⟩
   unfold ns
   rw[Cq.Zd,Ă h,Ă rfl]
   show (Cq.loop _ _).wp _
   rw[Β (by omega)]
   exact i
  obtain⟨r,i,j⟩:=Iy n q d (k+1) s (by omega) a (by omega)
  refine⟨r,Cq.sK ?_,j⟩
  show (if (k:Int)<(l.length:Int) then _ else _:Cq _).wp _
  rw[Cq.Zd,Ă (by omega),Cq.Zd,Ă (by omega)]
  refine⟨l[k],â f,e,p,_,A2 a g.p,?_⟩
  unfold ns
  rw[Cq.Zd,Ā h,Ā h]
  show (Cq.loop _ _).wp _
  rw[Β (by omega)]
  exact i
theorem Zuj{l:Ŀ Zx}(e:∀ x ∈ l,lM x){m:Nat}(d:m<=12):∃ r,(Jq l (m:Int)).ο r/\Good r/\r.next<=13:=by
 obtain⟨r,a,c⟩:=Iy e d (min l.length m) 0 CR (by omega) ZtF (by decide)
 refine⟨r,?_,c⟩
 show (Cq.next _ _).wp _
 exact a
def nz:Zb->Ŀ Zh->Prop
 | _,[]=>True
 | s,e::l=>nP s e/\Ν s e=0/\nz (ni s e) l
theorem Ij{l:Ŀ Zx}(p:∀ x ∈ l,lM x){m:Nat}(t:m<=12):∀ (d k:Nat) (s:Zb) (a:Ŀ Zh),k+d=min l.length m->a.length<=k->Good s->∃ r,(M9 l (m:Int) (a,(k:Int),s)).ο (a++r)/\r.length<=d/\nz s r
 | 0,k,s,a,v,w,g=>by
  refine⟨[],Cq.sK ?_,by simp,trivial⟩
  show (if (k:Int)<(l.length:Int) then _ else _:Cq _).wp _
  rw[Cq.Zd,ğ]
  by_cases c:(k:Int)<(l.length:Int)
  .rw[Ă c,Cq.Zd,Ā (by omega)]; rfl
  rw[Ā c]; rfl
 | d+1,k,s,a,v,w,g=>by
  have f:k<l.length:=by omega
  obtain⟨e,q,i⟩:=Q3 g.fit (p l[k] (Ċ f))
  by_cases h:Ν s e=0
  .obtain⟨r,j,u,n⟩:=Ij p t d (k+1) (ni s e) (a++[e]) (by omega) (by simp; omega) (g.edit i.p h)
   refine⟨e::r,Cq.sK ?_,by simp; omega,i,h,n⟩
   show (if (k:Int)<(l.length:Int) then _ else _:Cq _).wp _
   rw[Cq.Zd,Ă (by omega),Cq.Zd,Ă (by omega)]
   refine⟨l[k],â f,e,q,_,A2 g i.p,?_⟩
   unfold ns
   rw[Cq.Zd,Ă h,Ă rfl]
   refine⟨by simp[small]; omega,?_⟩
   show (Cq.loop _ _).wp _
   rw[Β (by omega)]
   rw[ď] at j
   exact j
  obtain⟨r,j,u,n⟩:=Ij p t d (k+1) s a (by omega) (by omega) g
  refine⟨r,Cq.sK ?_,by omega,n⟩
  show (if (k:Int)<(l.length:Int) then _ else _:Cq _).wp _
  rw[Cq.Zd,Ă (by omega),Cq.Zd,Ă (by omega)]
  refine⟨l[k],â f,e,q,_,A2 g i.p,?_⟩
  unfold ns
  rw[Cq.Zd,Ā h,Ā h]
  show (Cq.loop _ _).wp _
  rw[Β (by omega)]
  exact j
theorem Pz{l:Ŀ Zx}(f:∀ x ∈ l,lM x){m:Nat}(e:m<=12){s:Zb}(d:Good s):∃ r,(Eb s l (m:Int)).ο r/\r.length<=m/\nz s r:=by
 obtain⟨r,a,g,c⟩:=Ij f e (min l.length m) 0 s [] (by omega) (by simp) d
 refine⟨r,?_,by omega,c⟩
 show (Cq.next _ _).wp _
 exact a
theorem QV:∀ {l:Ŀ Zh}{s:Zb},nz s l->∀ e ∈ l,ν e.p/\s7 e
 | [],_,_,_,a=>by cases a
 | x::l,s,⟨c,_,d⟩,e,a=>by
  rcases ą.1 a with rfl|a
  .exact⟨c.p,c.k⟩
  exact QV d e a
end Go.EL

namespace Go.EL
open Go.IntKind (i8 i16 i32 i64 u8 u16 u32 u64)
open Go Go.RowKit
end Go.EL

namespace Go.EL
open Go.IntKind (i8 i16 i32 i64 u8 u16 u32 u64)
open Go Go.RowKit
instance FC:DecidableEq Za:=λ⟨a1,a2⟩ ⟨a,c⟩=>decidable_of_iff (a1=a/\a2=c) (by simp)
end Go.EL

namespace Go.EL
open Go.IntKind (i8 i16 i32 i64 u8 u16 u32 u64)
open Go Go.RowKit
theorem Ztb{x y:Za}(n:iR x)(p:iR y):∃ v,(xG x.c y.c).ο v/\(v=0↔x.c=y.c):=by
 obtain⟨⟨a,e,a0,a1,a2⟩,_⟩:=n
 obtain⟨⟨b,f,g,h,i⟩,_⟩:=p
 have j:=Zv P9 (x:=a) a1 a2
 have l:(ú (-12) 12 λb=>b == 0 || runs 30 (xG (ð a) (ð b)) (if a<b then -1 else if a=b then 0 else 1))=true:=by simpa [a0] using j
 have m:=Zv l (x:=b) h i
 refine⟨_,by rw[e,f]; exact ZC (by simpa [g] using m),?_⟩
 rw[e,f]
 by_cases d:a<b
 .rw[Ă d]
  exact⟨λk=>absurd k (by decide),λk=>by have:=P7 k; omega⟩
 rw[Ā d]
 by_cases c:a=b
 .rw[Ă c,c]; exact⟨λ_=>rfl,λ_=>rfl⟩
 rw[Ā c]
 exact⟨λk=>absurd k (by decide),λk=>absurd (P7 k) c⟩
theorem WG{x y:Za}(e:iR x)(f:iR y):(zg x y).ο (decide (x=y)):=by
 unfold zg
 by_cases a:x.m=y.m
 .rw[Ă a]
  obtain⟨v,c,d⟩:=Ztb e f
  refine⟨v,c,?_⟩
  refine ž.2 (d.trans ⟨λk=>?_,λk=>by rw[k]⟩)
  cases x; cases y
  simp only at a k
  rw[a,k]
 rw[Ā a]
 exact (ċ λk=>a (by rw[k])).symm
theorem Pd{p q:Ŀ Za}(hp:ν p)(h:ν q):(xH p q).ο (decide (p=q)):=by
 have i:=hp.len
 refine⟨_,?_,rfl⟩
 unfold Zu
 by_cases a:p.length=q.length
 .rw[Ā (λk=>k (by omega))]
  refine Cq.Zp p.length (λk s=>s=(k:Int)/\p.take k=q.take k) (λk s f g=>?_) (λs g=>?_) ⟨rfl,rfl⟩
  .obtain⟨rfl,d⟩:=g
   have c:k<q.length:=by omega
   rw[Cq.Zd,Ă (by omega)]
   refine⟨p[k],â f,q[k],â c,_,WG (hp.at f) (h.at c),?_⟩
   rw[Cq.Zd]
   by_cases e:p[k]=q[k]
   .rw[ē e,Ā (by decide)]
    refine⟨Β (by omega),?_⟩
    rw[<- Ě f,<- Ě c,d,e]
   rw[ċ e,Ă (by decide)]
   show _=_
   refine (ċ λk'=>e ?_).symm
   simp only[k']
  obtain⟨rfl,d⟩:=g
  rw[Cq.Zd,Ā (by omega)]
  show _=_
  refine (ē ?_).symm
  rw[ě,a,ě] at d
  exact d
 rw[Ă (λk=>a (by omega))]
 exact (ċ λk=>a (by rw[k])).symm
theorem Pb{a b:Ŀ Ĳ}(i:a.length<=100):(ZU a b).ο (decide (a=b)):=by
 unfold ZU
 by_cases c:a.length=b.length
 .rw[Ā (λk=>k (by omega))]
  refine Cq.Zp a.length (λk s=>s=(k:Int)/\a.take k=b.take k) (λk s h g=>?_) (λs g=>?_) ⟨rfl,rfl⟩
  .obtain⟨rfl,f⟩:=g
   have d:k<b.length:=by omega
   rw[Cq.Zd,Ă (by omega)]
   refine⟨a[k],â h,b[k],â d,?_⟩
   rw[Cq.Zd]
   by_cases e:a[k]=b[k]
   .rw[Ā (λk=>k e)]
    refine⟨Β (by omega),?_⟩
    rw[<- Ě h,<- Ě d,f,e]
   rw[Ă e]
   show _=_
   refine (ċ λk'=>e ?_).symm
   simp only[k']
  obtain⟨rfl,f⟩:=g
  rw[Cq.Zd,Ā (by omega)]
  show _=_
  refine (ē ?_).symm
  rw[ě,c,ě] at f
  exact f
 rw[Ă (λk=>c (by omega))]
 exact (ċ λk=>c (by rw[k])).symm
end Go.EL

namespace Go.EL
open Go.IntKind (i8 i16 i32 i64 u8 u16 u32 u64)
open Go Go.RowKit
structure pD (l:Ŀ Zx):Prop where
 ok:∀ x ∈ l,lM x
end Go.EL

namespace Go.EL
open Go.IntKind (i8 i16 i32 i64 u8 u16 u32 u64)
open Go Go.RowKit
def qj:Zb->Ŀ Zh->Zb
 | s,[]=>s
 | s,e::l=>qj (ni s e) l
theorem Ju:∀ {l:Ŀ Zh}{s:Zb},Good s->nz s l->Good (qj s l)
 | [],_,h,_=>h
 | e::l,s,h,⟨a,c,d⟩=>Ju (l:=l) (s:=ni s e) (h.edit a.p c) d
theorem Q7:∀ {l:Ŀ Zh}{s:Zb},nz s l->∀ (m:Ŀ Zh) (k:Nat),oH s (l++m) k=oH (qj s l) m (k+l.length)
 | [],_,_,_,_=>rfl
 | e::l,s,⟨f,c,d⟩,m,k=>by
  have a:oH s (e::l++m) k=oH (ni s e) (l++m) (k+1):=Ă c
  rw[a,Q7 d m (k+1),show k+1+l.length=k+(e::l).length by simp only[Ġ]; omega]
  rfl
theorem YX{l:Ŀ Zh}{s:Zb}(h:nz s l):oH s l 0=⟨qj s l,(l.length:Int),0⟩:=by
 have:=Q7 h [] 0
 rw[ğ,ļ] at this
 exact this
end Go.EL

namespace Go.EL
open Go.IntKind (i8 i16 i32 i64 u8 u16 u32 u64)
open Go Go.RowKit
end Go.EL

namespace Go.EL
open Go.IntKind (i8 i16 i32 i64 u8 u16 u32 u64)
open Go Go.RowKit
theorem wq{x:Int}(h:0<=x/\x<18446744073709551616):u64.wrap x=x:=by
 simp only[IntKind.wrap,IntKind.bits,IntKind.signed,Ű,Ŏ,aad]
 omega
def vC(x:Int):Ŀ Int:=if x=0 then [] else [x]
def Ø(n:Int):Zi:=⟨decide (n<0),vC (n.natAbs:Int)⟩
theorem ZtO(n:Int):ð n=⟨Ø n,⟨false,[1]⟩⟩:=by
 unfold ð Ø vC
 by_cases h:n=0
 .subst h; rfl
 rw[Ā h,Ā (by omega)]
end Go.EL

namespace Go.EL
open Go.IntKind (i8 i16 i32 i64 u8 u16 u32 u64)
open Go Go.RowKit
end Go.EL

namespace Go.EL
open Go.IntKind (i8 i16 i32 i64 u8 u16 u32 u64)
open Go Go.RowKit
end Go.EL

namespace Go.EL
open Go.IntKind (i8 i16 i32 i64 u8 u16 u32 u64)
open Go Go.RowKit
theorem ZtH:(ú (-12) 12 λa=>runs 60 (uC (ð a) (ð 1)) (ð a))=true:=by decide +kernel
theorem ZtI{a:Int}(c:-12<=a)(d:a<=12):(uC (ð a) (ð 1)).ο (ð a):=ZC (Zv ZtH c d)
theorem PA{a b:M}(f:Ok a)(g:Ok b)(d:Ok (mulM a b)):(DO a b).ο (mulM a b,0):=by
 show (Cq.next _ _).wp _
 refine Cq.Zp 8 (λk s=>s=((k:Int),oR k (mulM a b) a)) (λk s c e=>?_) (λs e=>?_) (by rw[Qj]; rfl)
 .subst e
  have h:=f ⟨k,c⟩
  have i:=g ⟨k,c⟩
  rw[Cq.Zd,Ă (by omega)]
  refine⟨by omega,by omega,by omega,?_⟩
  show _=_
  rw[Β (by omega),hU c,hU c,RF,wrap64 (by omega)]
  exact ć (Prod.mk _) (Qi (mulM a b) a c)
 subst e
 rw[Cq.Zd,Ā (by omega),Rq _ _ (by omega)]
 exact⟨true,Pj d,rfl⟩
theorem Of{D:Ŀ (M×Zj)}{c:Zj}{m:M}(a:Ok m)(d:∀ p ∈ D,p.1≠m)(e:D.length<=1000):(Dj D c m).ο (D++[(m,c)]):=by
 refine⟨Kn a,_,rfl,?_⟩
 rw[Cq.Zd,Ā (by rw[zF d]; decide),tf d]
 exact⟨⟨Kn a,by simp[small]; omega⟩,rfl⟩
theorem Rs{a:Int}(c:a≠0)(d:-12<=a)(e:a<=12){m:M}(f:Ok m):ν [⟨ð a,m⟩]:=
 ⟨Ť _ _,λt g=>by rw[ī.1 g]; exact⟨⟨a,rfl,c,d,e⟩,f⟩,by simp⟩
theorem Q4{a:Int}(g:a≠0)(e:-12<=a)(f:a<=12){m n:M}(i:Ok m)(j:Ok n)(c:Ok (mulM m n)):(xI [⟨ð a,m⟩] [⟨ð 1,n⟩]).ο ([⟨ð a,mulM m n⟩],0):=by
 show (Cq.next _ _).wp _
 refine Cq.Zp 1 (λk s=>(k=0/\s=((0:Int),[]))\/(k=1/\s=((1:Int),[(mulM m n,ð a)]))) (λk s h d=>?_) (λs d=>?_) (.inl ⟨rfl,rfl⟩)
 .obtain⟨rfl,rfl⟩:=d.resolve_right (by omega)
  rw[Cq.Zd,Ă (by simp)]
  refine⟨⟨ð a,m⟩,⟨by decide,rfl⟩,?_⟩
  show (Cq.next _ _).wp _
  refine Cq.Zp 1 (λk s=>(k=0/\s=((0:Int),[]))\/(k=1/\s=((1:Int),[(mulM m n,ð a)]))) (λk s h d=>?_) (λs d=>?_) (.inl ⟨rfl,rfl⟩)
  .obtain⟨rfl,rfl⟩:=d.resolve_right (by omega)
   rw[Cq.Zd,Ă (by simp)]
   refine⟨⟨ð 1,n⟩,⟨by decide,rfl⟩,_,PA i j c,?_⟩
   rw[Cq.Zd,Ā (by simp)]
   exact⟨_,ZtI e f,_,Of c (λp hp=>by cases hp) (by simp),.inr ⟨rfl,rfl⟩⟩
  obtain⟨_,rfl⟩:=d.resolve_left (by omega)
  rw[Cq.Zd,Ā (by simp)]
  exact .inr ⟨rfl,rfl⟩
 obtain⟨_,rfl⟩:=d.resolve_left (by omega)
 rw[Cq.Zd,Ā (by simp)]
 exact⟨_,Ej (Rs g e f c) (ů _),rfl⟩
theorem Zuk(q:Ŀ Za):(xI [] q).ο ([],0):=by
 show (Cq.next _ _).wp _
 refine Cq.Zp 0 (λk s=>s=((0:Int),[])) (λk s c a=>absurd c (ō k)) (λs a=>?_) rfl
 subst a
 rw[Cq.Zd,Ā (by simp)]
 exact⟨_,Ej Kl (ů _),rfl⟩
def iW(j:Nat)(e:Int):M:=λi=>if i.val=j then e else 0
theorem BP{j:Nat}{e:Int}(a:0<=e)(c:e<=65535):Ok (iW j e):=λi=>by
 unfold iW; split <;> omega
theorem QO(j:Nat)(a b:Int):mulM (iW j a) (iW j b)=iW j (a+b):=by
 funext i; unfold mulM iW; split <;> rfl
theorem Zum:(ú 0 7 λj=>runs 60 (DA j) ([⟨ð 1,iW j.toNat 1⟩],0))=true:=by decide +kernel
theorem Zun{j:Nat}(h:j<8):(DA (j:Int)).ο ([⟨ð 1,iW j 1⟩],0):=by
 have:=ZC (Zv Zum (x:=(j:Int)) (by omega) (by omega))
 simpa using this
end Go.EL

namespace Go.EL
open Go.IntKind (i8 i16 i32 i64 u8 u16 u32 u64)
open Go Go.RowKit
def nF(g:M->M)(p:Ŀ Za):Ŀ Za:=p.foldl (λa t=>iT a ⟨t.c,g t.m⟩) []
def sy(g:M->M)(t:Za):Za:=⟨t.c,g t.m⟩
theorem XV(g:M->M)(l:Ŀ Za)(t:Za):nF g (l++[t])=iT (nF g l) (sy g t):=by simp[nF,sy,List.foldl_append]
def qv(g:M->M)(p:Ŀ Za):Prop:=∀ x ∈ p,∀ y ∈ p,g x.m=g y.m->x.m=y.m
theorem Rl{g:M->M}{p:Ŀ Za}(h:qv g p)(f:ko p):∀ k,k<=p.length->(nF g (p.take k)).Perm ((p.take k).map (sy g))/\ko (nF g (p.take k))
 | 0,_=>by simp[nF]
 | k+1,q=>by
  obtain⟨d,m⟩:=Rl h f k (by omega)
  have a:k<p.length:=by omega
  rw[<- Ě a,XV]
  refine⟨?_,(IF m).1⟩
  have c:∀ x ∈ nF g (p.take k),x.m≠(sy g p[k]).m:=by
   intro x n e
   obtain⟨y,l,rfl⟩:=ă.1 (d.mem_iff.1 n)
   have j:=h _ (Ů l) _ (Ċ a) e
   obtain⟨i,hi,rfl⟩:=Ĩ.1 l
   simp only[Đ] at hi
   rw[ş] at j
   exact Ę.1 (vX f) i k (by omega) a (by omega) j
  refine (QA c).trans ?_
  rw[ķ]
  exact (d.cons _).trans (List.perm_append_comm (l₁:=[sy g p[k]]))
theorem I5{g:M->M}{p:Ŀ Za}(c:qv g p)(a:ko p):(nF g p).Perm (p.map (sy g))/\ko (nF g p):=by
 have:=Rl c a p.length (by omega)
 rwa [ě] at this
theorem Ztp{g:M->M}{p:Ŀ Za}(e:qv g p)(hp:ν p)(f:∀ t ∈ p,Ok (g t.m)):ν (nF g p):=by
 obtain⟨a,d⟩:=I5 e hp.ord
 refine⟨d,λt h=>?_,by rw[a.length_eq,Č]; exact hp.len⟩
 obtain⟨y,c,rfl⟩:=ă.1 (a.mem_iff.1 h)
 exact⟨(hp.sI y c).c,f y c⟩
theorem ED{g:M->M}{p:Ŀ Za}(e:qv g p)(d:ko p){t:Za}:t ∈ nF g p↔∃ y ∈ p,t=⟨y.c,g y.m⟩:=by
 rw[(I5 e d).1.mem_iff,ă]
 exact⟨λ⟨y,a,c⟩=>⟨y,a,c.symm⟩,λ⟨y,a,c⟩=>⟨y,a,c.symm⟩⟩
def ik(σ:Nat->ŀ Nat)(m:M):Nat->M
 | 0=>λ_=>0
 | k+1=>if h:k<8 then (match σ k with|some j=>mulM (ik σ m k) (iW j (m ⟨k,h⟩))|none=>ik σ m k) else ik σ m k
def lj(σ:Nat->ŀ Nat)(m:M):M:=ik σ m 8
structure lv (σ:Nat->ŀ Nat):Prop where
 pC:∀ i j,σ i=some j->j<8
 inj:∀ a b j,a<8->b<8->σ a=some j->σ b=some j->a=b
theorem H7{σ:Nat->ŀ Nat}{m:M}{j:Fin 8}:∀ k,k<=8->(∀ i,i<k->σ i≠some j.val)->ik σ m k j=0
 | 0,_,_=>rfl
 | k+1,g,h=>by
  have c:=H7 (σ:=σ) (m:=m) (j:=j) k (by omega) λi hi=>h i (by omega)
  have d:=h k (by omega)
  have a:k<8:=by omega
  simp only[ik,Ŗ a]
  cases f:σ k with
  | none=>exact c
  | some q=>
   show ik σ m k j+iW q _ j=0
   rw[c]
   unfold iW
   rw[Ā λe=>d (by rw[f,e])]
   rfl
theorem QI{σ:Nat->ŀ Nat}(c:lv σ){m:M}{j:Fin 8}{i:Fin 8}(hi:σ i.val=some j.val):∀ k,k<=8->i.val<k->ik σ m k j=m i
 | 0,_,h=>by omega
 | k+1,s,h=>by
  have a:k<8:=by omega
  simp only[ik,Ŗ a]
  by_cases e:i.val=k
  .have l:=H7 (σ:=σ) (m:=m) (j:=j) k (by omega) λb r n=>by
    have:=c.inj _ _ _ i.isLt (by omega) hi n
    omega
   have g:(⟨k,a⟩:Fin 8)=i:=gg e.symm
   rw[show σ k=some j.val by rw[<- e]; exact hi]
   show ik σ m k j+iW j.val (m ⟨k,a⟩) j=m i
   rw[l,g]
   unfold iW
   rw[Ă rfl]
   omega
  have d:=QI c (m:=m) hi k (by omega) (by omega)
  cases p:σ k with
  | none=>exact d
  | some q=>
   show ik σ m k j+iW q _ j=m i
   rw[d]
   unfold iW
   rw[Ā λf=>e (c.inj _ _ _ i.isLt a hi (by rw[p,f]))]
   omega
theorem J0{σ:Nat->ŀ Nat}(a:lv σ)(m:M){i:Fin 8}{j:Nat}(hi:σ i.val=some j):lj σ m ⟨j,a.pC _ _ hi⟩=m i:=QI a (j:=⟨j,a.pC _ _ hi⟩) hi 8 (by omega) i.isLt
theorem PN(σ:Nat->ŀ Nat)(m:M){j:Fin 8}(h:∀ i,i<8->σ i≠some j.val):lj σ m j=0:=H7 8 (by omega) h
theorem Iv(a b:M):∀ k,Î (mulM a b) k=Î a k+Î b k
 | 0=>by simp[Î]
 | k+1=>by
  simp only[Î]
  split
  .rw[Iv a b k]; unfold mulM; omega
  rw[Iv a b k]; omega
theorem Ps(j:Nat)(e:Int):∀ k,k<=8->Î (iW j e) k=if j<k then e else 0
 | 0,_=>by simp[Î]
 | k+1,f=>by
  have c:k<8:=by omega
  simp only[Î,Ŗ c]
  rw[Ps j e k (by omega)]
  unfold iW
  by_cases a:j<k
  .rw[Ă a,Ā (by simp only; omega),Ă (by omega)]; omega
  by_cases d:k=j
  .rw[Ā a,Ă d,Ă (by omega)]; omega
  rw[Ā a,Ā d,Ā (by omega)]; omega
theorem IY{σ:Nat->ŀ Nat}(c:lv σ){m:M}(h:∀ i,0<=m i):∀ k,k<=8->(∀ i,0<=ik σ m k i)/\gV (ik σ m k)<=Î m k
 | 0,_=>⟨λ_=>ň 0,by simp[ik,gV,Î]⟩
 | k+1,l=>by
  have a:k<8:=by omega
  obtain⟨d,e⟩:=IY c h k (by omega)
  have j:=h ⟨k,a⟩
  simp only[ik,Î,Ŗ a]
  cases g:σ k with
  | none=>exact⟨d,by simp only; omega⟩
  | some q=>
   have f:=c.pC _ _ g
   refine⟨λi=>?_,?_⟩
   .show 0<=ik σ m k i+iW q _ i
    have:=d i
    unfold iW
    split <;> omega
   show gV (mulM _ _)<=_
   unfold gV
   rw[Iv,Ps _ _ 8 (by omega),Ă f]
   have:gV (ik σ m k)<=Î m k:=e
   unfold gV at this
   omega
theorem ZtV{σ:Nat->ŀ Nat}(a:lv σ){m:M}(h:∀ i,0<=m i):(∀ i,0<=lj σ m i)/\gV (lj σ m)<=gV m:=IY a h 8 (by omega)
def vP:ŀ Nat->Ŀ Za
 | none=>[]
 | some j=>[⟨ð 1,iW j 1⟩]
def vI(σ:Nat->ŀ Nat):Ŀ (Ŀ Za):=(List.range 8).map λi=>vP (σ i)
theorem RI(σ:Nat->ŀ Nat){i:Nat}(h:i<8):(vI σ)[i]? = some (vP (σ i)):=by simp[vI,h]
theorem QS(σ:Nat->ŀ Nat){i:Nat}(h:i<8):(0:Int)<=(i:Int)/\(vI σ)[((i:Nat):Int).toNat]? = some (vP (σ i)):=⟨by omega,by rw[ģ]; exact RI σ h⟩
def pG(σ:Nat->ŀ Nat)(m:M):Prop:=∀ i:Fin 8,0<m i->∃ j,σ i.val=some j
theorem ZtW{σ:Nat->ŀ Nat}(d:lv σ){a b:M}(g:∀ i,0<=a i)(l:∀ i,0<=b i)(m:pG σ a)(n:pG σ b)(e:lj σ a=lj σ b):a=b:=by
 funext i
 cases f:σ i.val with
 | some j=>rw[<- J0 d a f,<- J0 d b f,e]
 | none=>
  have p:¬ 0<a i:=λh=>by obtain⟨j,c⟩:=m i h; rw[f] at c; cases c
  have q:¬ 0<b i:=λh=>by obtain⟨j,c⟩:=n i h; rw[f] at c; cases c
  have:=g i
  have:=l i
  omega
theorem Wx:(ú 0 7 λj=>runs 80 (Dk [⟨ð 1,iW j.toNat 1⟩]) (iW j.toNat 1))=true:=by decide +kernel
theorem Wy{σ:Nat->ŀ Nat}(c:lv σ)(i:Nat):∃ d,(Dk (vP (σ i))).ο d/\∀ i,0<=d i/\d i<=1:=by
 cases e:σ i with
 | none=>exact⟨_,ZC (n:=20) (a:=λ_=>0) (by decide +kernel),λi=>by simp⟩
 | some j=>
  have:=ZC (Zv Wx (x:=(j:Int)) (by omega) (by have:=c.pC _ _ e; omega))
  rw[ģ] at this
  exact⟨_,this,λi=>by unfold iW; split <;> omega⟩
def uU(b:Fin 64->Int):Prop:=∀ i,0<=b i/\b i<=1
theorem Xd{σ:Nat->ŀ Nat}(f:lv σ){p:(Fin 64->Int)->Prop}(h:∀ b,uU b->p b):(Mg (vI σ) (0,λ_=>0)).wp p:=by
 refine Cq.Zp 8 (λk s=>s.1=(k:Int)/\uU s.2) (λk s l e=>?_) (λs e=>?_) ⟨rfl,λi=>by simp⟩
 .obtain⟨i,b⟩:=s
  obtain⟨rfl,a⟩:=e
  refine Cq.wp.yes (p:=(k:Int)<8) (by omega) ?_
  obtain⟨d,g,c⟩:=Wy f k
  refine⟨_,QS σ l,d,g,by omega,Β (by omega),λj=>?_⟩
  simp only[sF]
  split
  .exact c _
  exact a j
 obtain⟨i,b⟩:=s
 obtain⟨rfl,a⟩:=e
 refine Cq.wp.no (p:=((8:Nat):Int)<8) (by omega) ?_
 exact h b a
theorem vA{b:Fin 64->Int}(h:uU b)(i:Int):0<=Κ b i/\Κ b i<=1:=by
 unfold Κ
 split
 .exact h _
 exact⟨by decide,by decide⟩
theorem ZuQ{a b:Int}(c:0<=a/\a<=12)(d:0<=b/\b<=1):0<=a*b/\a*b<=12:=by
 rcases (by omega:b=0\/b=1) with rfl|rfl <;> omega
theorem X4{m:M}(l:∀ i,0<=m i/\m i<=12){b:Fin 64->Int}(h:uU b):(Hi m b).ο false:=by
 show (Cq.next _ _).wp _
 refine Cq.Zp 8 (λk s=>s=(k:Int)) (λk s n a=>?_) (λs a=>?_) rfl
 .subst a
  refine Cq.wp.yes (p:=(k:Int)<8) (by omega) ?_
  show (Cq.next _ _).wp _
  refine Cq.Zp 8 (λj s=>s.2=(j:Int)/\0<=s.1/\s.1<=12*(j:Int)) (λj s e a=>?_) (λs a=>?_) ⟨rfl,by simp,by simp⟩
  .obtain⟨sum,i⟩:=s
   obtain⟨rfl,f,c⟩:=a
   refine Cq.wp.yes (p:=(j:Int)<8) (by omega) ?_
   refine⟨by omega,by omega,by omega,?_⟩
   have g:0<=sum:=f
   have d:sum<=12*(j:Int):=c
   rw[hU e]
   have q:=ZuQ (l ⟨j,e⟩) (vA h ((j:Int)*8+(k:Int)))
   generalize r:m ⟨j,e⟩*Κ b ((j:Int)*8+(k:Int))=x at q ⊢
   refine⟨Β (by omega),?_,?_⟩
   .show 0<=i64.wrap (sum+i64.wrap x)
    rw[wrap64 (x:=x) (by omega),wrap64 (by omega)]; omega
   show i64.wrap (sum+i64.wrap x)<=_
   rw[wrap64 (x:=x) (by omega),wrap64 (by omega)]; omega
  obtain⟨sum,i⟩:=s
  obtain⟨rfl,f,c⟩:=a
  have d:sum<=12*((8:Nat):Int):=c
  refine Cq.wp.no (p:=((8:Nat):Int)<8) (by omega) ?_
  show (if 65535<sum then _ else _:Cq _).wp _
  rw[Cq.Zd,Ā (by omega),Β (by omega)]
  rfl
 subst a
 refine Cq.wp.no (p:=((8:Nat):Int)<8) (by omega) ?_
 rfl
theorem Zu5{j:Nat}:¬ ((vP (some j)).length:Int)=0:=by simp[vP]
theorem Nw{σ:Nat->ŀ Nat}{m:M}(e:pG σ m):(Dn m (vI σ)).ο false:=by
 show (Cq.next _ _).wp _
 refine Cq.Zp 8 (λk s=>s=(k:Int)) (λk s a c=>?_) (λs c=>?_) rfl
 .subst c
  refine Cq.wp.yes (p:=(k:Int)<8) (by omega) ?_
  refine⟨by omega,?_⟩
  rw[hU a,Cq.Zd]
  split
  .rename_i h
   obtain⟨j,d⟩:=e ⟨k,a⟩ h
   refine⟨_,QS σ a,?_⟩
   rw[show σ k=some j from d,Cq.Zd,Ā Zu5,Β (by omega)]
   rfl
  rw[Β (by omega)]; rfl
 subst c
 refine Cq.wp.no (p:=((8:Nat):Int)<8) (by omega) ?_
 rfl
def rh(σ:Nat->ŀ Nat)(i k:Nat):Ŀ Za:=match σ i with|none=>[]|some j=>[⟨ð 1,iW j (k:Int)⟩]
theorem Zvt{σ:Nat->ŀ Nat}:s8 xI (vI σ) (rh σ):=by
 refine⟨λi hi=>?_,λi hi k c d=>?_⟩
 .rw[RI σ hi]; unfold rh vP
  cases σ i <;> rfl
 unfold rh
 cases σ i with
 | none=>exact⟨0,Zuk _⟩
 | some j=>
  refine⟨0,?_⟩
  have:=Q4 (a:=1) (by decide) (by decide) (by decide) (m:=iW j (k:Int)) (n:=iW j ((1:Nat):Int)) (BP (by omega) (by omega)) (BP (by decide) (by decide)) (by rw[QO]; exact BP (by omega) (by omega))
  rw[QO] at this
  simpa using this
theorem Zsp{c:Zj}(h:∃ a:Int,c=ð a/\a≠0/\-12<=a/\a<=12):(AX c).ο [⟨c,λ_=>0⟩]:=by
 obtain⟨a,rfl,d,e,f⟩:=h
 have:=Zv IW (x:=a) e f
 simp only[ń,abc,d,false_or] at this
 refine⟨_,ZC this,?_⟩
 rw[Cq.Zd,Ā (by split <;> first|decide|(split <;> first|contradiction|decide))]
 rfl
structure pf (σ:Nat->ŀ Nat) (m:M):Prop where
 nn:∀ i,0<=m i
 FD:gV m<=12
 map:pG σ m
theorem pf.le{σ:Nat->ŀ Nat}{m:M}(h:pf σ m)(i:Fin 8):0<=m i/\m i<=12:=⟨h.nn i,aac ((EA h.nn 8 (by omega)).2 i i.isLt) h.FD⟩
theorem Ex{σ:Nat->ŀ Nat}(a:lv σ){m:M}(h:pf σ m){k:Nat}(f:k<=8):Ok (ik σ m k):=by
 obtain⟨c,e⟩:=IY a h.nn k f
 have g:Î m k<=gV m:=by
  have:∀ d,k+d<=8->Î m k<=Î m (k+d):=λd=>by
   induction d with
   | zero=>intro _; exact ň _
   | succ d i=>
    intro l
    have:=i (by omega)
    have j:=h.nn ⟨k+d,by omega⟩
    rw[<- ż]
    simp only[Î,Ŗ (show k+d<8 by omega)]
    omega
  have:=this (8-k) (by omega)
  rwa [show k+(8-k)=8 by omega] at this
 have:=h.FD
 exact IN c e (by omega)
theorem ZsU(a:M)(j:Nat):mulM a (iW j 0)=a:=by
 funext i; unfold mulM iW; split <;> omega
theorem Zsy{σ:Nat->ŀ Nat}(d:lv σ){t:Za}(u:∃ a:Int,t.c=ð a/\a≠0/\-12<=a/\a<=12)(h:pf σ t.m):(My (rh σ) t ([⟨t.c,λ_=>0⟩],0)).ο [⟨t.c,lj σ t.m⟩]:=by
 refine Cq.Zp 8 (λk s=>s=([⟨t.c,ik σ t.m k⟩],(k:Int))) (λk s c f=>?_) (λs f=>?_) rfl
 .subst f
  refine Cq.wp.yes (p:=(k:Int)<8) (by omega) ?_
  refine⟨by omega,?_⟩
  have g:=h.le ⟨k,c⟩
  rw[hU c,Cq.Zd]
  split
  .rename_i hp
   obtain⟨j,e⟩:=h.map ⟨k,c⟩ hp
   have e:σ k=some j:=e
   have v:=d.pC _ _ e
   refine⟨⟨by omega,by omega,by omega⟩,?_⟩
   obtain⟨a,m,n,q,r⟩:=u
   have i:=Ex d h (k:=k+1) (by omega)
   have es:ik σ t.m (k+1)=mulM (ik σ t.m k) (iW j (t.m ⟨k,c⟩)):=by simp only[ik,Ŗ c,e]
   have l:rh σ ((k:Int)).toNat (t.m ⟨k,c⟩).toNat=[⟨ð 1,iW j (t.m ⟨k,c⟩)⟩]:=by
    unfold rh; rw[Int.toNat_natCast,e]; simp only; rw[Int.toNat_of_nonneg g.1]
   rw[l,es,m,Β (by omega)]
   rw[es] at i
   exact⟨_,Q4 n q r (Ex d h (by omega)) (BP g.1 (by omega)) i,rfl⟩
  rename_i hp
  have es:ik σ t.m (k+1)=ik σ t.m k:=by
   simp only[ik,Ŗ c]
   rw[show t.m ⟨k,c⟩=0 by omega]
   cases σ k with
   | none=>rfl
   | some j=>exact ZsU _ _
  rw[es,Β (by omega)]
  rfl
 subst f
 refine Cq.wp.no (p:=((8:Nat):Int)<8) (by omega) ?_
 rfl
structure nB (σ:Nat->ŀ Nat) (p:Ŀ Za):Prop where
 iF:ν p
 qa:∀ t ∈ p,pf σ t.m
theorem nB.inj{σ:Nat->ŀ Nat}(a:lv σ){p:Ŀ Za}(h:nB σ p):qv (lj σ) p:=λx c y d e=>
 ZtW a (h.qa x c).nn (h.qa y d).nn (h.qa x c).map (h.qa y d).map e
theorem nB.gen{σ:Nat->ŀ Nat}(a:lv σ){p:Ŀ Za}(h:nB σ p):ν (nF (lj σ) p):=Ztp (h.inj a) h.iF λt c=>Ex a (h.qa t c) (č 8)
theorem nB.Cf{σ:Nat->ŀ Nat}{p:Ŀ Za}(h:nB σ p):jZ p<=12:=(x0 (by decide)).2 λt a=>(h.qa t a).FD
theorem Yd{σ:Nat->ŀ Nat}(a:lv σ){p:Ŀ Za}(h:nB σ p):(Hs p (vI σ)).ο (nF (lj σ) p,0):=by
 have v:=h.iF.len
 refine⟨_,Bd h.iF,?_⟩
 have:=h.Cf
 rw[Cq.Zd,Ā (by omega)]
 refine Xd a λb n=>?_
 show (Cq.next _ _).wp _
 refine Cq.Zp p.length (λk s=>s=(k:Int)) (λk s d c=>?_) (λs c=>?_) rfl
 .subst c
  show (if (k:Int)<(p.length:Int) then _ else _:Cq _).wp _
  have f:=h.qa _ (Ċ d)
  rw[Cq.Zd,Ă (by omega)]
  refine⟨p[k],â d,false,Nw f.map,false,X4 f.le n,?_⟩
  rw[Cq.Zd,Ā (by decide),Β (by omega)]
  rfl
 subst c
 refine Cq.wp.no (p:=(p.length:Int)<(p.length:Int)) (by omega) ?_
 refine⟨rh σ,Zvt,?_⟩
 show (Cq.next _ _).wp _
 refine Cq.Zp p.length (λk s=>s=((k:Int),(p.take k).map λt=>(lj σ t.m,t.c))) (λk s d c=>?_) (λs c=>?_) (by simp)
 .subst c
  show (if (k:Int)<(p.length:Int) then _ else _:Cq _).wp _
  have f:=h.qa _ (Ċ d)
  have l:=(h.iF.at d).c
  rw[Cq.Zd,Ă (by omega)]
  refine⟨p[k],â d,false,Nw f.map,?_⟩
  rw[Cq.Zd,Ā (by decide)]
  refine⟨_,Zsp l,?_⟩
  refine (Zsy a l f).then ?_
  show (Cq.next _ _).wp _
  have g:∀ q ∈ (p.take k).map λt=>(lj σ t.m,t.c),q.1≠lj σ p[k].m:=by
   intro q r e
   obtain⟨y,m,rfl⟩:=ă.1 r
   have f:=h.inj a _ (Ů m) _ (Ċ d) e
   obtain⟨i,hi,rfl⟩:=Ĩ.1 m
   simp only[Đ] at hi
   rw[ş] at f
   exact Ę.1 (vX h.iF.ord) i k (by omega) d (by omega) f
  refine Cq.Zp 1 (λj s=>(j=0/\s=((0:Int),(p.take k).map λt=>(lj σ t.m,t.c)))\/(j=1/\s=((1:Int),(p.take (k+1)).map λt=>(lj σ t.m,t.c)))) (λj s u c=>?_) (λs c=>?_) (.inl ⟨rfl,rfl⟩)
  .obtain⟨rfl,rfl⟩:=c.resolve_right (by omega)
   rw[Cq.Zd,Ă (by simp)]
   refine⟨_,⟨by decide,rfl⟩,_,Of (Ex a f (č 8)) g (by rw[Č,Đ]; omega),.inr ⟨rfl,?_⟩⟩
   rw[<- Ě d,ķ]
   rfl
  obtain⟨_,rfl⟩:=c.resolve_left (by omega)
  rw[Cq.Zd,Ā (by simp)]
  show _=_
  rw[Β (by omega)]
 subst c
 refine Cq.wp.no (p:=(p.length:Int)<(p.length:Int)) (by omega) ?_
 refine⟨_,Ej (h.gen a) ?_,rfl⟩
 rw[ě,Ţ]
 exact (I5 (h.inj a) h.iF.ord).1.symm
end Go.EL

namespace Go.EL
open Go.IntKind (i8 i16 i32 i64 u8 u16 u32 u64)
open Go Go.RowKit
def lA(fr a:Ŀ Ĳ)(i:Nat):ŀ Nat:=match fr[i]? with
 | none=>none
 | some v=>if 0<=Õ a v then some (Õ a v).toNat else none
theorem zr{fr c:Ŀ Ĳ}{i j:Nat}(h:lA fr c i=some j):∃ v,fr[i]? = some v/\c[j]? = some v:=by
 unfold lA at h
 cases a:fr[i]? with
 | none=>rw[a] at h; cases h
 | some v=>
  rw[a] at h
  simp only at h
  split at h
  .rename_i d
   cases h
   exact⟨v,rfl,BT (by omega)⟩
  cases h
theorem BN{fr f:Ŀ Ĳ}(n:fr.Pairwise λa b=>a≠b)(w:f.length<=8):lv (lA fr f) where
 pC i j h:=by
  obtain⟨v,_,d⟩:=zr h
  have:=(Ć.1 d).1
  omega
 inj a b j _ _ m d:=by
  obtain⟨v,p,q⟩:=zr m
  obtain⟨u,r,e⟩:=zr d
  rw[q] at e
  cases e
  obtain⟨s,g⟩:=Ć.1 p
  obtain⟨t,l⟩:=Ć.1 r
  by_cases c:a=b
  .exact c
  exact absurd (g.trans l.symm) (uJ n s t c)
theorem Kc{fr a:Ŀ Ĳ}{i:Nat}(hi:i<fr.length)(h:0<=Õ a fr[i]):lA fr a i=some (Õ a fr[i]).toNat:=by
 unfold lA
 rw[Ą hi]
 simp only
 rw[Ă h]
def kc(fr a:Ŀ Ĳ)(p:Ŀ Za)(k:Nat):Bool:=if h:k<fr.length/\k<8 then iA ⟨k,h.2⟩ p && decide (Õ a fr[k]<0) else false
def iq(fr a:Ŀ Ĳ)(p:Ŀ Za):Nat->Ŀ Ĳ
 | 0=>[]
 | k+1=>iq fr a p k++(if kc fr a p k=true then [fr.getD k ByteArray.empty] else [])
def kl(fr a:Ŀ Ĳ)(p:Ŀ Za):Ŀ Ĳ:=iq fr a p fr.length
theorem Eg(fr a:Ŀ Ĳ)(p:Ŀ Za):∀ k,(iq fr a p k).length<=k
 | 0=>č 0
 | k+1=>by
  have:=Eg fr a p k
  simp only[iq,ā]
  split <;> simp <;> omega
theorem OT{fr a:Ŀ Ĳ}{p:Ŀ Za}:∀ k,iq fr a p k=[]->∀ i,i<k->kc fr a p i=false
 | 0,_,i,hi=>by omega
 | k+1,h,i,hi=>by
  simp only[iq] at h
  obtain⟨d,c⟩:=List.append_eq_nil_iff.1 h
  by_cases e:i=k
  .subst e
   cases f:kc fr a p i with
   | false=>rfl
   | true=>rw[Ă f] at c; cases c
  exact OT k d i (by omega)
theorem Fa{l:Ŀ Ĳ}{k:Nat}(h:k<l.length):l.getD k ByteArray.empty=l[k]:=by rw[Ķ,Ą h]; rfl
theorem O6{fr a:Ŀ Ĳ}{p:Ŀ Za}{v:Ĳ}:∀ k,k<=fr.length->v ∈ iq fr a p k->v ∈ fr
 | 0,_,h=>by simp[iq] at h
 | k+1,c,h=>by
  simp only[iq] at h
  rcases ĉ.1 h with h|h
  .exact O6 k (by omega) h
  split at h
  .rw[ī.1 h,Fa (by omega)]; exact Ċ _
  cases h
theorem NH{fr a:Ŀ Ĳ}{p:Ŀ Za}(j:fr.length<=8)(i:a.length<=100)(hp:p.length<=100):(ï ⟨fr,a⟩ p).ο (kl fr a p):=by
 show (Cq.next _ _).wp _
 refine Cq.Zp fr.length (λk s=>s=(iq fr a p k,(k:Int))) (λk s f g=>?_) (λs g=>?_) rfl
 .subst g
  refine Cq.wp.yes (p:=(k:Int)<(fr.length:Int)) (by omega) ?_
  refine⟨fr[k],â f,_,Jt hp,by omega,?_⟩
  have key:=ZsS p ⟨k,by omega⟩
  have l:=Eg fr a p k
  rw[Cq.Zd]
  have c:kc fr a p k=(iA ⟨k,by omega⟩ p && decide (Õ a fr[k]<0)):=by unfold kc; rw[dif_pos ⟨f,by omega⟩]
  have e:iq fr a p (k+1)=iq fr a p k++(if kc fr a p k=true then [fr[k]] else []):=by simp only[iq,Fa f]
  by_cases d:iA ⟨k,by omega⟩ p=true
  .rw[Ă (key.2 d)]
   refine⟨_,AY i fr[k],?_⟩
   rw[Cq.Zd]
   rw[d,aaq] at c
   by_cases hi:0<=Õ a fr[k]
   .rw[ē hi,Ā (by decide),Β (by omega),e,c,ċ (by omega),Ā (by decide),ğ]
    rfl
   rw[ċ hi,Ă (by decide),Β (by omega),e,c,ē (by omega),Ă rfl]
   exact⟨by simp[small]; omega,rfl⟩
  rw[Ā λh=>d (key.1 h),Β (by omega),e,c,(Bool.not_eq_true _).mp d,Ű,Ā (by decide),ğ]
  rfl
 subst g
 refine Cq.wp.no (p:=(fr.length:Int)<(fr.length:Int)) (by omega) ?_
 rfl
def gU(n:Nat)(p:Ŀ Za):Prop:=ν p/\Í p (n:Int)=true
theorem BA{fr d:Ŀ Ĳ}{p:Ŀ Za}(g:fr.length<=8)(hp:gU fr.length p)(j:kl fr d p=[]):nB (lA fr d) p:=by
 obtain⟨e,f⟩:=(ve g).1 hp.2
 refine⟨hp.1,λt c=>⟨λi=>((hp.1.sI t c).m i).1,f t c,λi hi=>?_⟩⟩
 have a:i.val<fr.length:=by
  by_cases h:i.val<fr.length
  .exact h
  exact absurd hi (e t c i (by omega))
 have:=OT _ j i.val a
 unfold kc at this
 rw[Ŗ ⟨a,i.isLt⟩] at this
 have l:iA i p=true:=ŕ.2 ⟨t,c,ē hi⟩
 rw[show (⟨i.val,i.isLt⟩:Fin 8)=i from rfl,l,aaq] at this
 have:=aa4 this
 exact⟨_,Kc a (by omega)⟩
def yY(fr a:Ŀ Ĳ)(p:Ŀ Za):Ŀ Za:=nF (lj (lA fr a)) p
def n9(fr a:Ŀ Ĳ)(p:Ŀ Za):Ŀ Za×Bool:=if kl fr a p=[] then (yY fr a p,true) else ([],false)
def nG(fr a:Ŀ Ĳ)(k:Nat):Ŀ (Ŀ Za):=(List.range 8).map λi=>if i<k then vP (lA fr a i) else []
theorem Zsj(fr a:Ŀ Ĳ):nG fr a 0=List.replicate 8 []:=by simp[nG]; rfl
theorem Ke(fr a:Ŀ Ĳ)(k:Nat){i:Nat}(h:i<8):(nG fr a k)[i]? = some (if i<k then vP (lA fr a i) else []):=by simp[nG,h]
theorem JI(fr a:Ŀ Ĳ)(k:Nat):(nG fr a k).length=8:=by simp[nG]
theorem ZtC(fr a:Ŀ Ĳ){k:Nat}(d:k<8):(nG fr a k).set k (vP (lA fr a k))=nG fr a (k+1):=by
 apply fF
 intro i
 by_cases hi:i<8
 .rw[Ke _ _ _ hi,aaF]
  by_cases e:k=i
  .subst e; rw[Ă rfl,JI,Ă hi,Ă (by omega)]
  rw[Ā e,Ke _ _ _ hi]
  by_cases c:i<k
  .rw[Ă c,Ă (by omega)]
  rw[Ā c,Ā (by omega)]
 rw[Ĺ (by rw[Ũ,JI]; omega),Ĺ (by rw[JI]; omega)]
theorem Zsi(fr a:Ŀ Ĳ){k:Nat}(h:lA fr a k=none):nG fr a (k+1)=nG fr a k:=by
 unfold nG
 apply Ş
 intro i _
 by_cases e:i=k
 .subst e; rw[Ă (by omega),Ā (by omega),h]; rfl
 by_cases c:i<k
 .rw[Ă c,Ă (by omega)]
 rw[Ā c,Ā (by omega)]
theorem ZtB{fr c:Ŀ Ĳ}(h:fr.length<=8):nG fr c fr.length=vI (lA fr c):=by
 unfold nG vI
 apply Ş
 intro i _
 by_cases a:i<fr.length
 .rw[Ă a]
 rw[Ā a]
 unfold lA
 rw[Ĺ (by omega)]
 rfl
theorem Nl{fr c:Ŀ Ĳ}{p:Ŀ Za}(l:fr.Pairwise λa b=>a≠b)(h:fr.length<=8)(n:c.length<=8)(hp:gU fr.length p):(æ ⟨fr,c⟩ p).ο (n9 fr c p):=by
 have f:=BN l n
 refine⟨_,NH h (by omega) hp.1.len,?_⟩
 rw[Cq.Zd]
 by_cases e:kl fr c p=[]
 .have g:n9 fr c p=(yY fr c p,true):=by unfold n9; rw[if_pos e]
  rw[e,Ā (by decide),g]
  show (Cq.next _ _).wp _
  refine Cq.Zp fr.length (λk s=>s=((k:Int),nG fr c k)) (λk s i d=>?_) (λs d=>?_) (by rw[Zsj]; rfl)
  .subst d
   refine Cq.wp.yes (p:=(k:Int)<(fr.length:Int)) (by omega) ?_
   refine⟨fr[k],â i,_,Pc (by show c.length<=100; omega) fr[k],?_⟩
   rw[Cq.Zd]
   by_cases hi:0<=Õ c fr[k]
   .rw[Ă hi]
    have d:=Kc i hi
    have m:=f.pC _ _ d
    have j:=Zun m
    rw[aaX hi] at j
    refine⟨_,j,_,⟨by omega,by rw[ģ]; exact Ke _ _ _ (by omega)⟩,?_⟩
    show _=_
    rw[Β (by omega),ģ,<- ZtC fr c (by omega:k<8),d]
    rfl
   rw[Ā hi]
   have d:lA fr c k=none:=by
    unfold lA
    rw[Ą i]
    simp only
    rw[Ā hi]
   show _=_
   rw[Β (by omega),Zsi fr c d]
  subst d
  show (if (fr.length:Int)<(fr.length:Int) then _ else _:Cq _).wp _
  rw[Cq.Zd,Ā (by omega),ZtB h]
  exact⟨_,Yd f (BA h hp e),rfl⟩
 have g:n9 fr c p=([],false):=by unfold n9; rw[if_neg e]
 have:0<(kl fr c p).length:=Ŷ.2 e
 rw[Ă (by omega),g]
 rfl
theorem Zu4{fr c:Ŀ Ĳ}{p:Ŀ Za}(d:fr.Pairwise λa b=>a≠b)(e:fr.length<=8)(g:c.length<=8)(hp:gU fr.length p):ν (n9 fr c p).1:=by
 unfold n9
 split
 .rename_i f
  exact (BA e hp f).gen (BN d g)
 exact Kl
theorem M5{fr d:Ŀ Ĳ}{p:Ŀ Za}(m:fr.Pairwise λa b=>a≠b)(l:d.length<=8)(h:nB (lA fr d) p):gU d.length (yY fr d p):=by
 have c:=BN m l
 refine⟨h.gen c,(ve l).2 ⟨λt e i hi=>?_,λt e=>?_⟩⟩
 .obtain⟨y,f,rfl⟩:=(ED (h.inj c) h.iF.ord).1 e
  show ¬ 0<lj _ y.m i
  rw[PN _ _ λj _ n=>?_]
  .decide
  obtain⟨v,_,g⟩:=zr n
  have:=(Ć.1 g).1
  omega
 obtain⟨y,f,rfl⟩:=(ED (h.inj c) h.iF.ord).1 e
 have q:=(ZtV c (h.qa y f).nn).2
 have g:=(h.qa y f).FD
 show gV (lj _ y.m)<=12
 omega
instance KD:DecidableEq Zc:=λ⟨a1,a2⟩ ⟨a,c⟩=>decidable_of_iff (a1=a/\a2=c) (by simp)
instance KG:DecidableEq Zb:=λ⟨a1,a2,a3,a4⟩ ⟨a,c,d,e⟩=>decidable_of_iff (a1=a/\a2=c/\a3=d/\a4=e) (by simp)
theorem WH{x y:Zc}(c:ν x.p)(d:ν y.p):(Dr x y).ο (decide (x=y)):=by
 unfold Dr
 by_cases a:x.id=y.id
 .rw[Ă a]
  refine⟨_,Pd c d,?_⟩
  refine ž.2 ⟨λk=>?_,λk=>by rw[k]⟩
  cases x; cases y
  simp only at a k
  rw[a,k]
 rw[Ā a]
 exact (ċ λk=>a (by rw[k])).symm
theorem Nu{p q:Ŀ Zc}(i:p.length<=100)(hp:∀ x ∈ p,ν x.p)(h:∀ x ∈ q,ν x.p):(Zq p q).ο (decide (p=q)):=by
 unfold Zq
 by_cases a:p.length=q.length
 .rw[Ā (λk=>k (by omega))]
  refine Cq.Zp p.length (λk s=>s=(k:Int)/\p.take k=q.take k) (λk s f g=>?_) (λs g=>?_) ⟨rfl,rfl⟩
  .obtain⟨rfl,d⟩:=g
   have c:k<q.length:=by omega
   rw[Cq.Zd,Ă (by omega)]
   refine⟨p[k],â f,q[k],â c,_,WH (hp _ (Ċ f)) (h _ (Ċ c)),?_⟩
   rw[Cq.Zd]
   by_cases e:p[k]=q[k]
   .rw[ē e,Ā (by decide)]
    refine⟨Β (by omega),?_⟩
    rw[<- Ě f,<- Ě c,d,e]
   rw[ċ e,Ă (by decide)]
   show _=_
   refine (ċ λk'=>e ?_).symm
   simp only[k']
  obtain⟨rfl,d⟩:=g
  rw[Cq.Zd,Ā (by omega)]
  show _=_
  refine (ē ?_).symm
  rw[ě,a,ě] at d
  exact d
 rw[Ă (λk=>a (by omega))]
 exact (ċ λk=>a (by rw[k])).symm
theorem HQ{a b:Zb}(c:pI a)(g:pI b):(zh a b).ο (decide (a=b)):=by
 unfold zh
 rw[Cq.ο,Cq.Zd]
 by_cases e:a.next=b.next
 .rw[Ă e]
  refine⟨_,Pb c.v,?_⟩
  by_cases f:a.vars=b.vars
  .rw[ē f]
   refine⟨_,Nu c.e.1 c.e.2 g.e.2,?_⟩
   by_cases d:a.eqs=b.eqs
   .rw[ē d]
    refine⟨_,Nu c.n.1 c.n.2 g.n.2,?_⟩
    refine ž.2 ⟨λk=>?_,λk=>by rw[k]⟩
    cases a; cases b
    simp only at e f d k
    rw[e,f,d,k]
   rw[ċ d]
   exact (ċ λk=>d (by rw[k])).symm
  rw[ċ f]
  exact (ċ λk=>f (by rw[k])).symm
 rw[Ā e]
 exact (ċ λk=>e (by rw[k])).symm
def mT(neq:Bool)(l:Ŀ Zc):Ŀ (Int×Zl):=l.map λq=>(q.id,⟨q.p,neq⟩)
def kP(s:Zb):Ŀ (Int×Zl):=mT false s.eqs++mT true s.ζ
theorem Pt{neq:Bool}{l:Ŀ Zc}{k:Nat}(a:k<l.length):mT neq (l.take (k+1))=mT neq (l.take k)++[(l[k].id,⟨l[k].p,neq⟩)]:=by
 rw[<- Ě a,mT,ķ]; rfl
theorem wv{id:Int}(h:0<=id/\id<=1000000):(Lit.int i64 id).wf=true:=by
 simp only[Lit.wf,Ē,Ģ]
 exact⟨aac (by decide) h.1,aac h.2 (by decide)⟩
theorem Bf{s:Zb}(h:Good s):(xE s).ο (kP s):=by
 have j:=h.eqs.len
 have l:=h.ζ.len
 have i:=h.next
 show (Cq.next _ _).wp _
 refine Cq.Zp s.eqs.length (λk r=>r=((k:Int),mT false (s.eqs.take k))) (λk r c f=>?_) (λr f=>?_) rfl
 .subst f
  refine Cq.wp.yes (p:=(k:Int)<(s.eqs.length:Int)) (by omega) ?_
  have hi:=h.eqs.ids _ (Ċ c)
  have a:∀ q ∈ mT false (s.eqs.take k),q.1≠s.eqs[k].id:=λq d e=>by
   obtain⟨y,g,rfl⟩:=ă.1 d
   exact HC h.eqs.inc c (ă.2 ⟨y,g,e⟩)
  refine⟨s.eqs[k],â c,⟨wv (by omega),?_⟩,?_⟩
  .rw[tf a]; simp[mT,small]; omega
  show _=_
  rw[tf a,Β (by omega),Pt c]
 subst f
 show (if (s.eqs.length:Int)<(s.eqs.length:Int) then _ else _:Cq _).wp _
 rw[Cq.Zd,Ā (by omega),ě]
 show (MA s (mT false s.eqs)).wp _
 show (Cq.next _ _).wp _
 refine Cq.Zp s.ζ.length (λk r=>r=((k:Int),mT false s.eqs++mT true (s.ζ.take k))) (λk r c f=>?_) (λr f=>?_) (by simp[mT])
 .subst f
  refine Cq.wp.yes (p:=(k:Int)<(s.ζ.length:Int)) (by omega) ?_
  have hi:=h.ζ.ids _ (Ċ c)
  have a:∀ q ∈ mT false s.eqs++mT true (s.ζ.take k),q.1≠s.ζ[k].id:=λq d e=>by
   rcases ĉ.1 d with d|d
   .obtain⟨y,g,rfl⟩:=ă.1 d
    exact h.apart y g _ (Ċ c) e
   obtain⟨y,g,rfl⟩:=ă.1 d
   exact HC h.ζ.inc c (ă.2 ⟨y,g,e⟩)
  refine⟨s.ζ[k],â c,⟨wv (by omega),?_⟩,?_⟩
  .rw[tf a]; simp[mT,small]; omega
  show _=_
  rw[tf a,Β (by omega),Pt c,ď]
 subst f
 show (if (s.ζ.length:Int)<(s.ζ.length:Int) then _ else _:Cq _).wp _
 rw[Cq.Zd,Ā (by omega),ě]
 rfl
end Go.EL

namespace Go.EL
open Go.IntKind (i8 i16 i32 i64 u8 u16 u32 u64)
open Go Go.RowKit
theorem NI{K V:Type}[DecidableEq K](D:Ŀ (K×V))(k:K)(x:V):(Ñ D k x).length<=D.length+1:=by
 induction D with
 | nil=>simp[Ñ]
 | cons p D a=>simp only[Ñ]; split <;> simp <;> omega
theorem IM{K V:Type}[DecidableEq K](D:Ŀ (K×V))(k:K)(x:V)(y:K):y ∈ (Ñ D k x).map (·.1)↔y=k\/y ∈ D.map (·.1):=by
 induction D with
 | nil=>simp[Ñ]
 | cons p D a=>
  simp only[Ñ]
  split
  .rename_i h
   simp only[ė,ą,h]
   constructor
   .rintro (h|h); exact .inl h; exact .inr (.inr h)
   rintro (h|h|h); exact .inl h; exact .inl h; exact .inr h
  simp only[ė,ą,a]
  constructor
  .rintro (h|h|h); exact .inr (.inl h); exact .inl h; exact .inr (.inr h)
  rintro (h|h|h); exact .inr (.inl h); exact .inl h; exact .inr (.inr h)
theorem OV{K V:Type}[DecidableEq K](D:Ŀ (K×V))(k:K)(x:V)(h:(D.map (·.1)).Nodup):((Ñ D k x).map (·.1)).Nodup:=by
 induction D with
 | nil=>simp[Ñ]
 | cons p D c=>
  simp only[ė,ų] at h
  simp only[Ñ]
  split
  .rename_i e
   simp only[ė,ų]
   rw[<- e]; exact h
  rename_i e
  simp only[ė,ų]
  exact⟨λa=>((IM D k x p.1).1 a).elim e h.1,c h.2⟩
theorem ZtA{K V:Type}[DecidableEq K]{D:Ŀ (K×V)}{k:K}(h:k ∈ D.map (·.1)):∃ x,Å D k=some x/\(k,x) ∈ D:=by
 induction D with
 | nil=>simp at h
 | cons p D d=>
  simp only[Å]
  by_cases e:p.1=k
  .rw[Ă e]; exact⟨p.2,rfl,by rw[<- e]; simp⟩
  rw[Ā e]
  simp only[ė,ą] at h
  rcases h with h|h
  .exact absurd h.symm e
  obtain⟨x,a,c⟩:=d h
  exact⟨x,a,by simp[c]⟩
def nY(x:Int):Ŀ Int->Ŀ Int
 | []=>[x]
 | y::l=>if x<y then x::y::l else if x=y then y::l else y::nY x l
def h9(l:Ŀ Int):Ŀ Int:=l.foldr nY []
theorem JC(x z:Int):∀ l:Ŀ Int,z ∈ nY x l↔z=x\/z ∈ l
 | []=>by simp[nY]
 | y::l=>by
  unfold nY
  split
  .simp
  split
  .rename_i e; subst e; simp
  simp only[ą,JC x z l]
  exact⟨λh=>by rcases h with h|h|h <;> simp[h],λh=>by rcases h with h|h|h <;> simp[h]⟩
theorem Qe(x:Int):∀ l:Ŀ Int,l.Pairwise (· < ·)->(nY x l).Pairwise (· < ·)
 | [],_=>by simp[nY]
 | y::l,h=>by
  obtain⟨c,d⟩:=Ğ.1 h
  unfold nY
  split
  .rename_i e
   refine Ğ.2 ⟨λz a=>?_,h⟩
   rcases ą.1 a with rfl|a
   .exact e
   have:=c z a; omega
  split
  .exact h
  refine Ğ.2 ⟨λz a=>?_,Qe x l d⟩
  rcases (JC x z l).1 a with rfl|a
  .omega
  exact c z a
theorem uI{z:Int}:∀ {l:Ŀ Int},z ∈ h9 l↔z ∈ l
 | []=>aa3
 | x::l=>by
  show z ∈ nY x (h9 l)↔_
  rw[JC,uI,ą]
theorem vg:∀ l:Ŀ Int,(h9 l).Pairwise (· < ·)
 | []=>List.Pairwise.nil
 | x::l=>Qe x _ (vg l)
theorem ZtY(l:Ŀ Int):(rm l).Pairwise (·<=·):=by
 have:=abo (le:=λx y:Int=>decide (x<=y)) (λa b c d e=>by simp only[Ģ] at *; omega) (λa b=>by simp only[ń,Ģ]; omega) l
 exact this.imp λh=>Ĝ h
theorem QJ{ks l:Ŀ Int}(d:ks.Nodup)(c:∀ k,k ∈ ks↔k ∈ l):rm ks=h9 l:=by
 refine Ŭ (le:=λx y:Int=>x<=y) (λa b _ _ f g=>by omega) (ZtY ks) ((vg l).imp λh=>Int.le_of_lt h) ?_
 refine (aap ks _).trans ((œ d ((vg l).imp λh e=>by omega)).2 λk=>?_)
 rw[c,uI]
theorem IZ{l:Ŀ Int}(h:l.length<=1000):(Z8 l).ο (rm l):=⟨by omega,rfl⟩
def s6(D:Ŀ (Int×Zl)):Prop:=∀ k ∈ D.map (·.1),1<=k/\k<=1000000
theorem Jd{dst src:Ŀ (Int×Zl)}(n:(dst.map (·.1)).Nodup)(t:s6 src)(u:dst.length+src.length<=1000){p:Ŀ (Int×Zl)->Prop}
  (h:∀ r:Ŀ (Int×Zl),(r.map (·.1)).Nodup->(∀ k,k ∈ r.map (·.1)↔k ∈ dst.map (·.1)\/k ∈ src.map (·.1))->r.length<=dst.length+src.length->p r):(Zt dst src).wp p:=by
 show (Cq.next _ _).wp _
 refine Cq.EI (λs:Ŀ (Int×Zl)×Ŀ (Int×Zl)=>(s.1.map (·.1)).Nodup/\(∀ k,(k ∈ s.1.map (·.1)\/k ∈ s.2.map (·.1))↔(k ∈ dst.map (·.1)\/k ∈ src.map (·.1)))/\s.1.length+s.2.length<=dst.length+src.length/\s6 s.2) (λs=>s.2.length) (λs m=>?_) (dst,src) ⟨n,λk=>aa3,č _,t⟩
 obtain⟨mp,R⟩:=s
 obtain⟨e,f,g,i⟩:=m
 simp only at e f g i
 refine⟨λj=>?_,λc q d j=>?_⟩
 .subst j
  refine h mp e (λk=>?_) (by simp only[ř] at g; omega)
  rw[<- f k]; simp
 subst j
 have v:=i q.1 (by simp)
 have l:=NI mp q.1 q.2
 simp only[ā,Ġ] at g
 refine⟨⟨wv (by omega),by simp only[small]; omega⟩,⟨OV _ _ _ e,λk=>?_,?_,λk a=>i k ?_⟩,?_⟩
 .rw[<- f k]
  show (k ∈ (Ñ mp q.1 q.2).map (·.1)\/k ∈ (c++d).map (·.1))↔_
  rw[IM]
  simp only[ķ,ė,ĉ,ą]
  exact⟨λh=>by rcases h with (h|h)|h|h <;> simp[h],λh=>by rcases h with h|h|h|h <;> simp[h]⟩
 .show (Ñ mp q.1 q.2).length+(c++d).length<=_
  simp only[ā]; omega
 .have a:k ∈ (c++d).map (·.1):=a
  simp only[ķ,ė,ĉ,ą] at a ⊢
  rcases a with a|a <;> simp[a]
 show (c++d).length<(c++q::d).length
 simp
def ç(s:Zb):Ŀ Int:=s.eqs.map (·.id)++s.ζ.map (·.id)
theorem sh(s:Zb):(kP s).map (·.1)=ç s:=by
 unfold kP ç mT
 rw[ķ,Ţ,Ţ]
 rfl
theorem Pw{s:Zb}(h:Good s):(ç s).Nodup:=by
 refine List.nodup_append.2 ⟨?_,?_,?_⟩
 .exact Ľ.2 (h.eqs.inc.imp λh e=>by omega)
 .exact Ľ.2 (h.ζ.inc.imp λh e=>by omega)
 intro a c b d e
 obtain⟨x,f,rfl⟩:=ă.1 c
 obtain⟨y,g,rfl⟩:=ă.1 d
 exact h.apart x f y g e
theorem sL{s:Zb}(h:Good s){k:Int}(a:k ∈ ç s):1<=k/\k<s.next:=by
 rcases ĉ.1 a with a|a
 .obtain⟨x,c,rfl⟩:=ă.1 a
  exact h.eqs.ids x c
 obtain⟨x,c,rfl⟩:=ă.1 a
 exact h.ζ.ids x c
theorem uK{s:Zb}(h:Good s):(ç s).length<=24:=by
 have:=h.eqs.len
 have:=h.ζ.len
 unfold ç
 rw[ā,Č,Č]; omega
theorem J6{s:Zb}(h:Good s):s6 (kP s):=λk a=>by
 rw[sh] at a
 have:=sL h a
 have:=h.next
 omega
theorem Je{s:Zb}(h:Good s):(kP s).length<=24:=by
 have:=uK h
 rw[<- sh,Č] at this; exact this
def Ç(s:Zb)(id:Int):ŀ Zl:=Å (kP s) id
theorem QF{s:Zb}{id:Int}{u:Zl}(h:Ç s id=some u):(id,u) ∈ kP s:=by
 unfold Ç at h
 have:∀ {D:Ŀ (Int×Zl)},Å D id=some u->(id,u) ∈ D:=by
  intro D
  induction D with
  | nil=>intro h; cases h
  | cons p D a=>
   intro h
   simp only[Å] at h
   split at h
   .rename_i e
    cases h
    rw[<- e]; simp
   exact aak _ (a h)
 exact this h
theorem zB{s:Zb}(c:Good s){id:Int}{u:Zl}(h:Ç s id=some u):gU s.vars.length u.p:=by
 have:=QF h
 rcases ĉ.1 this with h|h
 .obtain⟨q,a,e⟩:=ă.1 h
  cases e
  exact c.eqs.iF q a
 obtain⟨q,a,e⟩:=ă.1 h
 cases e
 exact c.ζ.iF q a
theorem Pu{s:Zb}{id:Int}(h:id ∈ ç s):∃ u,Ç s id=some u:=by
 obtain⟨u,a,_⟩:=ZtA (D:=kP s) (k:=id) (by rw[sh]; exact h)
 exact⟨u,a⟩
theorem D2{s:Zb}{id:Int}(h:id ∉ ç s):Ç s id=none:=by
 refine zF λp hp e=>h ?_
 rw[<- sh]
 exact ă.2 ⟨p,hp,e⟩
def lB(x:Ŀ UInt8):Ŀ (Ŀ UInt8)->Ŀ (Ŀ UInt8)
 | []=>[x]
 | y::l=>if x<=y then (if x=y then y::l else x::y::l) else y::lB x l
def oc(l:Ŀ Ĳ):Ŀ Ĳ:=((l.map λs=>s.data.toList).foldr lB []).map λu=>⟨u.toArray⟩
theorem O3(a b:Ŀ UInt8):a<=b\/b<=a:=List.le_total a b
theorem O4{a b c:Ŀ UInt8}(d:a<=b)(e:b<=c):a<=c:=List.le_trans d e
theorem JG{a b:Ŀ UInt8}(c:a<=b)(d:b<=a):a=b:=List.le_antisymm c d
theorem JD(x z:Ŀ UInt8):∀ l,z ∈ lB x l↔z=x\/z ∈ l
 | []=>by simp[lB]
 | y::l=>by
  unfold lB
  split
  .split
   .rename_i e; subst e; simp
   simp
  simp only[ą,JD x z l]
  exact⟨λh=>by rcases h with h|h|h <;> simp[h],λh=>by rcases h with h|h|h <;> simp[h]⟩
abbrev s9(l:Ŀ (Ŀ UInt8)):Prop:=l.Pairwise λa b=>a<=b/\a≠b
theorem Qf(x:Ŀ UInt8):∀ l,s9 l->s9 (lB x l)
 | [],_=>by simp[lB]
 | y::l,h=>by
  obtain⟨g,i⟩:=Ğ.1 h
  unfold lB
  split
  .rename_i c
   split
   .exact h
   rename_i d
   refine Ğ.2 ⟨λz a=>?_,h⟩
   rcases ą.1 a with rfl|a
   .exact⟨c,d⟩
   have k:=g z a
   refine⟨O4 c k.1,λe=>d ?_⟩
   subst e
   exact JG c k.1
  rename_i c
  have f:y<=x:=(O3 x y).resolve_left c
  refine Ğ.2 ⟨λz a=>?_,Qf x l i⟩
  rcases (JD x z l).1 a with rfl|a
  .exact⟨f,λe=>c (by rw[e]; exact List.le_refl _)⟩
  exact g z a
theorem Bn{z:Ŀ UInt8}:∀ {l:Ŀ (Ŀ UInt8)},z ∈ l.foldr lB []↔z ∈ l
 | []=>aa3
 | x::l=>by
  show z ∈ lB x (l.foldr lB [])↔_
  rw[JD,Bn,ą]
theorem xN:∀ l:Ŀ (Ŀ UInt8),s9 (l.foldr lB [])
 | []=>List.Pairwise.nil
 | x::l=>Qf x _ (xN l)
theorem bytes_inj{a b:Ĳ}(h:a.data.toList=b.data.toList):a=b:=by
 cases a; cases b
 simp only[ByteArray.mk.injEq]
 exact fj h
theorem QK{ks l:Ŀ Ĳ}(i:ks.Nodup)(g:∀ k,k ∈ ks↔k ∈ l):rn ks=oc l:=by
 unfold rn oc
 congr 1
 refine Ŭ (le:=λx y:Ŀ UInt8=>x<=y) (λa b _ _ d f=>JG d f) ?_ ((xN _).imp λh=>h.1) ?_
 .have:=abo (le:=λx y:Ŀ UInt8=>decide (x<=y)) (λa b c d f=>by simp only[Ģ] at *; exact O4 d f) (λa b=>by simp only[ń,Ģ]; exact O3 a b) (ks.map λs=>s.data.toList)
  exact this.imp λh=>Ĝ h
 refine (aap _ _).trans ((œ ?_ ((xN _).imp λh e=>h.2 e)).2 λk=>?_)
 .exact Ľ.2 (i.imp λh e=>h (bytes_inj e))
 rw[Bn,ă,ă]
 exact⟨λ⟨x,d,f⟩=>⟨x,(g x).1 d,f⟩,λ⟨x,d,f⟩=>⟨x,(g x).2 d,f⟩⟩
theorem Zt3(l:Ŀ Ĳ):(oc l).length<=l.length:=by
 have hi:∀ (x:Ŀ UInt8) (m:Ŀ (Ŀ UInt8)),(lB x m).length<=m.length+1:=by
  intro x m
  induction m with
  | nil=>simp[lB]
  | cons y m c=>unfold lB; split <;> (try split) <;> simp only[List.length_cons] <;> omega
 have a:∀ m:Ŀ (Ŀ UInt8),(m.foldr lB []).length<=m.length:=by
  intro m
  induction m with
  | nil=>simp
  | cons y m c=>have:=hi y (m.foldr lB []); simp only[List.foldr_cons,Ġ]; omega
 unfold oc
 rw[Č]
 exact ł (a _) (by rw[Č]; omega)
theorem Zt4{l:Ŀ Ĳ}:oc l=[]↔l=[]:=by
 constructor
 .intro h
  cases l with
  | nil=>rfl
  | cons x l=>
   unfold oc at h
   have h:=aaY.1 h
   have:x.data.toList ∈ ((x::l).map λs=>s.data.toList).foldr lB []:=Bn.2 (by simp)
   rw[h] at this
   cases this
 intro h; subst h; rfl
theorem ZsI{l:Ŀ Ĳ}(h:l.length<=1000):(Dq l).ο (rn l):=⟨by omega,rfl⟩
end Go.EL

namespace Go.EL
open Go.IntKind (i8 i16 i32 i64 u8 u16 u32 u64)
open Go Go.RowKit
theorem zO{l:Ŀ Ĳ}{v:Ĳ}:0<=Õ l v↔v ∈ l:=by
 constructor
 .intro h
  exact Ł (BT (k:=(Õ l v).toNat) (by omega))
 intro h
 by_cases a:0<=Õ l v
 .exact a
 exact absurd h (BU (by omega))
def lC(base b:Ŀ Ĳ)(x:Ĳ):Bool:=!decide (0<=Õ base x) || decide (0<=Õ b x)
def lY(base a:Ŀ Ĳ)(x:Ĳ):Bool:=!decide (0<=Õ a x) && !decide (0<=Õ base x)
def Θ(base a b:Ŀ Ĳ):Ŀ Ĳ:=if a=base then b else a.filter (lC base b)++b.filter (lY base a)
theorem V8{base a b:Ŀ Ĳ}(l:base.length<=4)(m:a.length<=4)(n:b.length<=4):(Hl base a b).ο (Θ base a b):=by
 refine⟨_,Pb (by omega),?_⟩
 rw[Cq.Zd]
 unfold Θ
 by_cases e:a=base
 .rw[ē e,Ă rfl,Ă e]; rfl
 rw[ċ e,Ā (by decide),Ā e]
 show (Cq.next _ _).wp _
 refine Cq.Zp a.length (λk s=>s=((a.take k).filter (lC base b),(k:Int))) (λk s g h=>?_) (λs h=>?_) (by simp)
 .subst h
  show (if (k:Int)<(a.length:Int) then _ else _:Cq _).wp _
  have i:=ĺ (lC base b) (a.take k)
  rw[Đ] at i
  rw[Cq.Zd,Ă (by omega)]
  refine⟨a[k],â g,_,AY (by omega) a[k],?_⟩
  by_cases d:0<=Õ base a[k]
  .rw[ē d]
   refine⟨_,AY (by omega) a[k],?_⟩
   rw[Cq.Zd]
   by_cases f:0<=Õ b a[k]
   .have c:lC base b a[k]=true:=by unfold lC; rw[decide_eq_true d,decide_eq_true f]; rfl
    rw[ē f,Ă rfl]
    refine⟨by simp[small]; omega,?_⟩
    show _=_
    rw[Β (by omega),ZJ g,Ă c]
   have c:lC base b a[k]=false:=by unfold lC; rw[decide_eq_true d,decide_eq_false f]; rfl
   rw[ċ f,Ā (by decide)]
   show _=_
   rw[Β (by omega),ZJ g,c,Ā (by decide),ğ]
  have c:lC base b a[k]=true:=by unfold lC; rw[decide_eq_false d]; rfl
  rw[ċ d]
  refine⟨by simp[small]; omega,?_⟩
  show _=_
  rw[Β (by omega),ZJ g,Ă c]
 subst h
 show (if (a.length:Int)<(a.length:Int) then _ else _:Cq _).wp _
 rw[Cq.Zd,Ā (by omega),ě]
 show (Mu base a b _).wp _
 show (Cq.next _ _).wp _
 refine Cq.Zp b.length (λk s=>s=(a.filter (lC base b)++(b.take k).filter (lY base a),(k:Int))) (λk s g h=>?_) (λs h=>?_) (by simp)
 .subst h
  show (if (k:Int)<(b.length:Int) then _ else _:Cq _).wp _
  have i:=ĺ (lY base a) (b.take k)
  have j:=ĺ (lC base b) a
  rw[Đ] at i
  rw[Cq.Zd,Ă (by omega)]
  refine⟨b[k],â g,_,AY (by omega) b[k],?_⟩
  by_cases d:0<=Õ a b[k]
  .have c:lY base a b[k]=false:=by unfold lY; rw[decide_eq_true d]; rfl
   rw[ē d]
   show _=_
   rw[Β (by omega),ZJ g,c,Ā (by decide),ğ]
  rw[ċ d]
  refine⟨_,AY (by omega) b[k],?_⟩
  rw[Cq.Zd]
  by_cases f:0<=Õ base b[k]
  .have c:lY base a b[k]=false:=by unfold lY; rw[decide_eq_false d,decide_eq_true f]; rfl
   rw[ē f,Ā (by decide)]
   show _=_
   rw[Β (by omega),ZJ g,c,Ā (by decide),ğ]
  have c:lY base a b[k]=true:=by unfold lY; rw[decide_eq_false d,decide_eq_false f]; rfl
  rw[ċ f,Ă (by decide)]
  refine⟨by simp[small]; omega,?_⟩
  show _=_
  rw[Β (by omega),ZJ g,Ă c,ď]
 subst h
 show (if (b.length:Int)<(b.length:Int) then _ else _:Cq _).wp _
 rw[Cq.Zd,Ā (by omega),ě]
 rfl
theorem V6{base a b:Ŀ Ĳ}(c:a.length<=4)(d:b.length<=4):(Θ base a b).length<=8:=by
 unfold Θ
 split
 .omega
 have:=ĺ (lC base b) a
 have:=ĺ (lY base a) b
 rw[ā]; omega
theorem Ds{base a b:Ŀ Ĳ}(f:a.Pairwise λx y=>x≠y)(d:b.Pairwise λx y=>x≠y):(Θ base a b).Pairwise λx y=>x≠y:=by
 unfold Θ
 split
 .exact d
 refine ţ.2 ⟨f.sublist List.filter_sublist,d.sublist List.filter_sublist,λx g y h e=>?_⟩
 obtain⟨i,c⟩:=Ė.1 h
 unfold lY at c
 simp only[Ē,Ō,ű] at c
 subst e
 exact c.1 (zO.2 (Ė.1 g).1)
def kG(s t:Zb)(x:Int):Bool:=match Ç s x,Ç t x with
 | some u,some v=>decide (u.neq=v.neq) && ((n9 s.vars t.vars u.p).2 && decide ((n9 s.vars t.vars u.p).1=v.p))
 | none,none=>true
 | some _,none=>false
 | none,some _=>false
theorem JH{s t:Zb}(f:Good s)(l:Good t){x:Int}(q:1<=x/\x<=1000000):(AW s (kP s) t (kP t) x).ο (kG s t x):=by
 have r:=f.vars
 have w:=l.vars
 refine⟨wv (by omega),_,rfl,wv (by omega),_,rfl,?_⟩
 unfold kG
 cases i:Ç s x with
 | none=>
  have g:Å (kP s) x=none:=i
  rw[g,Cq.Zd,Ā (by decide)]
  cases d:Ç t x with
  | none=>
   have c:Å (kP t) x=none:=d
   rw[c]; rfl
  | some v=>
   have c:Å (kP t) x=some v:=d
   rw[c]; rfl
 | some u=>
  have g:Å (kP s) x=some u:=i
  rw[g,Cq.Zd,Ă (show (some u).isSome=true from rfl)]
  cases d:Ç t x with
  | none=>
   have c:Å (kP t) x=none:=d
   rw[c]; rfl
  | some v=>
   have c:Å (kP t) x=some v:=d
   rw[c,Cq.Zd,Ā (show ¬ (!(some v).isSome)=true from λh=>nomatch h)]
   have m:=zB f i
   have n:=zB l d
   refine⟨_,Nl f.diff (by omega) (by omega) m,?_⟩
   show (if u.neq=v.neq then (if (n9 s.vars t.vars u.p).2=true then (Cq.bind (xH (n9 s.vars t.vars u.p).1 v.p) λj=>Cq.ret j) else (Cq.ret false)) else (Cq.ret false):Cq _).wp λa=>a=(decide (u.neq=v.neq) && ((n9 s.vars t.vars u.p).2 && decide ((n9 s.vars t.vars u.p).1=v.p)))
   rw[Cq.Zd]
   by_cases e:u.neq=v.neq
   .rw[Ă e,ē e,Cq.Zd]
    cases p:(n9 s.vars t.vars u.p).2 with
    | false=>rw[Ā (by decide)]; rfl
    | true=>
     rw[Ă rfl]
     refine⟨_,Pd (Zu4 f.diff (by omega) (by omega) m) n.1,?_⟩
     rw[aaq,aaq]
     rfl
   rw[Ā e,ċ e]; rfl
def gS(s:Zb)(x:Int):Ŀ Zg:=match Ç s x with
 | some u=>[⟨x,u,s⟩]
 | none=>[]
def eX(a0 a1 a2:Zb)(x:Int):Ŀ Zg×Ŀ Zk:=
 if kG a1 a0 x=true then (gS a2 x,[]) else if kG a2 a0 x=true then (gS a1 x,[]) else if kG a1 a2 x=true then (gS a1 x,[]) else ([],[⟨x,ByteArray.empty⟩])
def gR(a0 a1 a2:Zb):Ŀ Int->Ŀ Zg×Ŀ Zk
 | []=>([],[])
 | x::l=>if a0.next<=x then ([],[]) else ((eX a0 a1 a2 x).1++(gR a0 a1 a2 l).1,(eX a0 a1 a2 x).2++(gR a0 a1 a2 l).2)
def kJ(a0 a1 a2:Zb):Ŀ Zg×Ŀ Zk:=gR a0 a1 a2 (h9 (ç a0++(ç a1++ç a2)))
theorem Bo(s:Zb)(x:Int):(gS s x).length<=1:=by unfold gS; split <;> simp
theorem PO(a0 a1 a2:Zb)(x:Int):(eX a0 a1 a2 x).1.length<=1/\(eX a0 a1 a2 x).2.length<=1:=by
 have a:=Bo a1 x
 have c:=Bo a2 x
 unfold eX
 split
 .exact⟨c,by simp⟩
 split
 .exact⟨a,by simp⟩
 split
 .exact⟨a,by simp⟩
 exact⟨by simp,by simp⟩
theorem PH(a0 a1 a2:Zb):∀ l,(gR a0 a1 a2 l).1.length<=l.length/\(gR a0 a1 a2 l).2.length<=l.length
 | []=>⟨č 0,č 0⟩
 | x::l=>by
  have a:=PH a0 a1 a2 l
  have c:=PO a0 a1 a2 x
  unfold gR
  split
  .exact⟨by simp,by simp⟩
  simp only[ā,Ġ]; omega
theorem JT{s:Zb}{x:Int}(e:1<=x/\x<=1000000){P:Ŀ Zg}{C:Ŀ Zk}{k:Nat}(d:P.length<=1000){ρ:Type}{p:(Ŀ Zg×Ŀ Zk×Int)⊕ρ->Prop}(h:p (.inl (P++gS s x,C,i64.wrap ((k:Int)+1)))):
  (Cq.ì ((Lit.int i64 x).wf=true) (Cq.bind (Cq.ret ((Å (kP s) x).getD (Zl.mk [] false))) λc=>if ((Å (kP s) x).isSome)=true then (Cq.ì ((P++[(Zg.mk x c s)]).length<=small) (Cq.ret (.inl ((P++[(Zg.mk x c s)]),C,i64.wrap ((k:Int)+1))))) else (Cq.ret (.inl (P,C,i64.wrap ((k:Int)+1)))))).wp p:=by
 refine⟨wv (by omega),_,rfl,?_⟩
 unfold gS Ç at h
 cases a:Å (kP s) x with
 | none=>
  rw[a] at h
  rw[Cq.Zd,Ā (by decide)]
  rw[ğ] at h
  exact h
 | some u=>
  rw[a] at h
  rw[Cq.Zd,Ă (show (some u).isSome=true from rfl)]
  exact⟨by simp[small]; omega,h⟩
theorem BB{l:Ŀ Int}:(h9 l).length<=l.length:=by
 have hi:∀ (x:Int) (m:Ŀ Int),(nY x m).length<=m.length+1:=by
  intro x m
  induction m with
  | nil=>simp[nY]
  | cons y m a=>unfold nY; split <;> (try split) <;> simp only[List.length_cons] <;> omega
 induction l with
 | nil=>simp[h9]
 | cons y m a=>
  have:=hi y (h9 m)
  show (nY y (h9 m)).length<=_
  simp only[Ġ]; omega
theorem VJ{a0 a1 a2:Zb}(g:Good a0)(h:Good a1)(i:Good a2):(Ho a0 a1 a2).ο (kJ a0 a1 a2):=by
 have L:=Je g
 have N:=Je h
 have O:=Je i
 refine⟨_,Bf g,_,Bf h,_,Bf i,?_⟩
 refine Jd (by simp) (J6 g) (by simp; omega) λQ p1 G B=>?_
 simp only[ř,ļ] at B
 refine Jd p1 (J6 h) (by omega) λR p2 H J=>?_
 refine Jd p2 (J6 i) (by omega) λS p3 I K=>?_
 intro ks j
 have v:=j.length_eq
 rw[Č] at v
 refine⟨_,IZ (by omega),?_⟩
 have n:∀ k,k ∈ ks↔k ∈ ç a0++(ç a1++ç a2):=λk=>by
  rw[j.mem_iff,I,H,G,sh,sh,sh]
  simp only[ĵ,ĝ,false_or,ĉ]
  exact or_assoc
 rw[QJ (j.nodup_iff.2 p3) n]
 generalize r:h9 (ç a0++(ç a1++ç a2))=a
 have t:∀ x ∈ a,1<=x/\x<=1000000:=λx f=>by
  rw[<- r,uI] at f
  have t0:=g.next
  have t1:=h.next
  have t2:=i.next
  rcases ĉ.1 f with f|f
  .have:=sL g f; omega
  rcases ĉ.1 f with f|f
  .have:=sL h f; omega
  have:=sL i f; omega
 have y:a.length<=72:=by
  rw[<- r]
  refine ł BB ?_
  have:=uK g
  have:=uK h
  have:=uK i
  simp only[ā]; omega
 have E:kJ a0 a1 a2=gR a0 a1 a2 a:=by unfold kJ; rw[r]
 rw[E]
 show (Cq.next _ _).wp _
 refine Cq.Zp a.length (λk s=>∃ P C,s=(P,C,(k:Int))/\P.length<=k/\C.length<=k/\P++(gR a0 a1 a2 (a.drop k)).1=(gR a0 a1 a2 a).1/\C++(gR a0 a1 a2 (a.drop k)).2=(gR a0 a1 a2 a).2) (λk s u w=>?_) (λs w=>?_) ⟨[],[],rfl,č 0,č 0,rfl,rfl⟩
 .obtain⟨P,C,rfl,F,D,d,c⟩:=w
  refine Cq.wp.yes (p:=(k:Int)<(a.length:Int)) (by omega) ?_
  refine⟨a[k],â u,?_⟩
  have f:=t _ (Ċ u)
  rw[Cq.Zd]
  rw[Ĵ u,gR] at d c
  by_cases A:a0.next<=a[k]
  .rw[Ă A] at d c ⊢
   rw[ğ] at d c
   show (P,C)=_
   rw[d,c]
  rw[Ā A] at d c ⊢
  refine⟨_,JH h g f,?_⟩
  rw[Cq.Zd]
  by_cases l:kG a1 a0 a[k]=true
  .have e:eX a0 a1 a2 a[k]=(gS a2 a[k],[]):=by unfold eX; rw[if_pos l]
   rw[e] at d c
   rw[Ă l]
   refine JT f (by omega) ⟨_,_,by rw[Β (by omega)],?_,by omega,by rw[ď]; exact d,c⟩
   rw[ā]; have:=Bo a2 a[k]; omega
  rw[Ā l]
  refine⟨_,JH i g f,?_⟩
  rw[Cq.Zd]
  by_cases m:kG a2 a0 a[k]=true
  .have e:eX a0 a1 a2 a[k]=(gS a1 a[k],[]):=by unfold eX; rw[if_neg l,if_pos m]
   rw[e] at d c
   rw[Ă m,Cq.Zd,Ă m]
   refine JT f (by omega) ⟨_,_,by rw[Β (by omega)],?_,by omega,by rw[ď]; exact d,c⟩
   rw[ā]; have:=Bo a1 a[k]; omega
  rw[Ā m]
  refine⟨_,JH h i f,?_⟩
  rw[Cq.Zd]
  by_cases q:kG a1 a2 a[k]=true
  .have e:eX a0 a1 a2 a[k]=(gS a1 a[k],[]):=by unfold eX; rw[if_neg l,if_neg m,if_pos q]
   rw[e] at d c
   rw[Ă q]
   refine JT f (by omega) ⟨_,_,by rw[Β (by omega)],?_,by omega,by rw[ď]; exact d,c⟩
   rw[ā]; have:=Bo a1 a[k]; omega
  have e:eX a0 a1 a2 a[k]=([],[⟨a[k],ByteArray.empty⟩]):=by unfold eX; rw[if_neg l,if_neg m,if_neg q]
  rw[e] at d c
  rw[Ā q]
  refine⟨by simp[small]; omega,_,_,by rw[Β (by omega)],by omega,by simp; omega,d,by rw[ď]; exact c⟩
 obtain⟨P,C,rfl,F,D,d,c⟩:=w
 refine Cq.wp.no (p:=(a.length:Int)<(a.length:Int)) (by omega) ?_
 rw[ũ] at d c
 simp only[gR,ğ] at d c
 show (P,C)=_
 rw[d,c]
end Go.EL

namespace Go.EL
open Go.IntKind (i8 i16 i32 i64 u8 u16 u32 u64)
open Go Go.RowKit
def kn(s:Zb)(n x:Int):Zg:=⟨n,(Ç s x).getD ⟨[],false⟩,s⟩
def mW(s:Zb):Int->Ŀ Int->Ŀ Zg
 | _,[]=>[]
 | n,x::l=>kn s n x::mW s (n+1) l
theorem PF(s:Zb)(x:Int):∀ (l:Ŀ Int) (n:Int),mW s n (l++[x])=mW s n l++[kn s (n+(l.length:Int)) x]
 | [],n=>by simp[mW]
 | y::l,n=>by
  simp only[Ħ,mW,PF s x l,Ġ]
  rw[show n+1+(l.length:Int)=n+((l.length+1:Nat):Int) by omega]
theorem JL(s:Zb):∀ (l:Ŀ Int) (n:Int),(mW s n l).length=l.length
 | [],_=>rfl
 | _::l,n=>by simp only[mW,Ġ,JL s l]
def mV(a0 a:Zb):Ŀ Int:=(h9 (ç a)).filter λx=>decide (a0.next<=x)
def Ó(a0 a1:Zb):Int:=if a1.next<a0.next then a0.next else a1.next
def la(a0 a1 a2:Zb):Ŀ Zg×Int:=((mV a0 a1).map (λx=>kn a1 x x)++mW a2 (Ó a0 a1) (mV a0 a2),Ó a0 a1+((mV a0 a2).length:Int))
theorem DM{l:Ŀ Int}{k:Nat}(a:k<l.length)(p:Int->Bool):(l.take (k+1)).filter p=(l.take k).filter p++(if p l[k]=true then [l[k]] else []):=ZJ a p
theorem EK{a0 a:Zb}(h:Good a):(mV a0 a).length<=24:=ł (ĺ _ _) (ł BB (uK h))
theorem O2{a:Zb}(h:Good a){ks:Ŀ Int}(c:ks.Perm ((kP a).map (·.1))):rm ks=h9 (ç a):=by
 rw[sh] at c
 exact QJ (c.nodup_iff.2 (Pw h)) λk=>c.mem_iff
theorem VI{a0 a1 a2:Zb}(r:Good a0)(g:Good a1)(h:Good a2):(Hn a0 a1 a2).ο (la a0 a1 a2):=by
 have t0:=r.next
 have t1:=g.next
 have t2:=h.next
 refine⟨_,Bf g,_,Bf h,λks e=>?_⟩
 have n:=e.length_eq
 rw[sh] at n
 have A:=uK g
 have B:=uK h
 have u:=BB (l:=ç a1)
 have v:=BB (l:=ç a2)
 refine⟨_,IZ (by rw[e.length_eq,sh]; omega),?_⟩
 rw[O2 g e]
 have j:∀ x ∈ h9 (ç a1),1<=x/\x<=1000000:=λx i=>by have:=sL g (uI.1 i); omega
 have m:∀ x ∈ h9 (ç a2),1<=x/\x<=1000000:=λx i=>by have:=sL h (uI.1 i); omega
 show (Cq.next _ _).wp _
 refine Cq.Zp (h9 (ç a1)).length (λk s=>s=((((h9 (ç a1)).take k).filter λx=>decide (a0.next<=x)).map (λx=>kn a1 x x),(k:Int))) (λk s a f=>?_) (λs f=>?_) (by simp)
 .subst f
  refine Cq.wp.yes (p:=(k:Int)<((h9 (ç a1)).length:Int)) (by omega) ?_
  refine⟨(h9 (ç a1))[k],â a,?_⟩
  have q:=ĺ (λx=>decide (a0.next<=x)) ((h9 (ç a1)).take k)
  rw[Đ] at q
  rw[Cq.Zd]
  by_cases c:a0.next<=(h9 (ç a1))[k]
  .rw[Ă c]
   have i:=j _ (Ċ a)
   refine⟨wv (by omega),_,rfl,by simp only[ā,Č,ĸ,small]; omega,?_⟩
   show _=_
   rw[Β (by omega),DM a,Ă (ē c),ķ]
   rfl
  rw[Ā c]
  show _=_
  rw[Β (by omega),DM a,ċ c,Ā (by decide),ğ]
 subst f
 show (if ((h9 (ç a1)).length:Int)<((h9 (ç a1)).length:Int) then _ else _:Cq _).wp _
 rw[Cq.Zd,Ā (by omega),ě]
 show (Mx a0 a1 a2 (kP a2) ((mV a0 a1).map λx=>kn a1 x x)).wp _
 intro w d
 refine⟨_,IZ (by rw[d.length_eq,sh]; omega),?_⟩
 rw[O2 h d]
 have y:1<=Ó a0 a1/\Ó a0 a1<=1000000:=by unfold Ó; split <;> omega
 have t:=EK (a0:=a0) g
 show (Cq.next _ _).wp _
 refine Cq.Zp (h9 (ç a2)).length (λk s=>s=((mV a0 a1).map (λx=>kn a1 x x)++mW a2 (Ó a0 a1) (((h9 (ç a2)).take k).filter λx=>decide (a0.next<=x)),Ó a0 a1+(((((h9 (ç a2)).take k).filter λx=>decide (a0.next<=x))).length:Int),(k:Int))) (λk s a f=>?_) (λs f=>?_) (by simp[mW,Ó])
 .subst f
  refine Cq.wp.yes (p:=(k:Int)<((h9 (ç a2)).length:Int)) (by omega) ?_
  refine⟨(h9 (ç a2))[k],â a,?_⟩
  have q:=ĺ (λx=>decide (a0.next<=x)) ((h9 (ç a2)).take k)
  rw[Đ] at q
  rw[Cq.Zd]
  by_cases c:a0.next<=(h9 (ç a2))[k]
  .rw[Ă c]
   have i:=m _ (Ċ a)
   refine⟨wv (by omega),_,rfl,by simp only[ā,Č,ĸ,JL,small]; omega,?_⟩
   show _=_
   rw[Β (by omega),DM a,Ă (ē c),PF,wrap64 (by omega),ď,ā]
   refine congr (ć Prod.mk rfl) (congr (ć Prod.mk ?_) rfl)
   simp only[ĸ]; omega
  rw[Ā c]
  show _=_
  rw[Β (by omega),DM a,ċ c,Ā (by decide),ğ]
 subst f
 show (if ((h9 (ç a2)).length:Int)<((h9 (ç a2)).length:Int) then _ else _:Cq _).wp _
 rw[Cq.Zd,Ā (by omega),ě]
 rfl
structure mb (x:Zg):Prop where
 à:Good x.à
 fit:gU x.à.vars.length x.entry.p
theorem JQ{s:Zb}(h:Good s){x:Int}:∀ y ∈ gS s x,mb y:=λy a=>by
 unfold gS at a
 cases c:Ç s x with
 | none=>rw[c] at a; cases a
 | some u=>
  rw[c] at a
  rw[ī.1 a]
  exact⟨h,zB h c⟩
theorem ZuR{n:Nat}(h:n<=8):gU n []:=⟨Kl,(ve h).2 ⟨λ_ a=>absurd a ĝ,λ_ a=>absurd a ĝ⟩⟩
theorem P4{s:Zb}(h:Good s)(n x:Int):mb (kn s n x):=by
 have:=h.vars
 refine⟨h,?_⟩
 show gU s.vars.length ((Ç s x).getD ⟨[],false⟩).p
 cases a:Ç s x with
 | none=>exact ZuR (by omega)
 | some u=>exact zB h a
theorem Bw{s:Zb}{y:Zg}:∀ {l:Ŀ Int}{n:Int},y ∈ mW s n l->∃ m,∃ x ∈ l,n<=m/\m<n+(l.length:Int)/\y=kn s m x
 | [],_,h=>by cases h
 | x::l,n,h=>by
  rcases ą.1 h with h|h
  .exact⟨n,x,by simp,by omega,by simp only[Ġ]; omega,h⟩
  obtain⟨m,z,a,d,e,c⟩:=Bw h
  exact⟨m,z,by simp[a],by omega,by simp only[Ġ]; omega,c⟩
theorem ZtZ{a0 a1 a2:Zb}(c:Good a1)(d:Good a2){x:Int}:∀ y ∈ (eX a0 a1 a2 x).1,mb y:=by
 intro y a
 unfold eX at a
 split at a
 .exact JQ d y a
 split at a
 .exact JQ c y a
 split at a
 .exact JQ c y a
 cases a
theorem JN{a0 a1 a2:Zb}(c:Good a1)(d:Good a2):∀ l,∀ y ∈ (gR a0 a1 a2 l).1,mb y
 | [],y,a=>by cases a
 | x::l,y,a=>by
  unfold gR at a
  split at a
  .cases a
  rcases ĉ.1 a with a|a
  .exact ZtZ c d y a
  exact JN c d l y a
theorem Rr{a0 a1 a2:Zb}(c:Good a1)(d:Good a2):∀ y ∈ (la a0 a1 a2).1,mb y:=λy a=>by
 rcases ĉ.1 a with a|a
 .obtain⟨x,_,rfl⟩:=ă.1 a
  exact P4 c _ _
 obtain⟨m,x,_,_,_,rfl⟩:=Bw a
 exact P4 d _ _
def iu(V:Ŀ Ĳ)(P:Ŀ Zg):Ŀ Ĳ:=P.flatMap λx=>kl x.à.vars V x.entry.p
def ot(V:Ŀ Ĳ)(x:Zg):Zc:=⟨x.id,(n9 x.à.vars V x.entry.p).1⟩
def l6(V:Ŀ Ĳ)(P:Ŀ Zg):Ŀ Zc:=(P.filter λx=>!x.entry.neq).map (ot V)
def jI(V:Ŀ Ĳ)(P:Ŀ Zg):Ŀ Zc:=(P.filter λx=>x.entry.neq).map (ot V)
def lX(a0 a1 a2:Zb):Ŀ Zk:=(oc (iu (Θ a0.vars a1.vars a2.vars) ((kJ a0 a1 a2).1++(la a0 a1 a2).1))).map (λn=>⟨0,n⟩)++(kJ a0 a1 a2).2
def Ο(a0 a1 a2:Zb):Zb:=⟨Θ a0.vars a1.vars a2.vars,l6 (Θ a0.vars a1.vars a2.vars) ((kJ a0 a1 a2).1++(la a0 a1 a2).1),jI (Θ a0.vars a1.vars a2.vars) ((kJ a0 a1 a2).1++(la a0 a1 a2).1),(la a0 a1 a2).2⟩
def kH(a0 a1 a2:Zb):Zb×Ŀ Zk×Int:=
 if 0<(lX a0 a1 a2).length then (iP,lX a0 a1 a2,350)
 else if 4<(Ο a0 a1 a2).vars.length\/12<(Ο a0 a1 a2).eqs.length\/12<(Ο a0 a1 a2).ζ.length\/1000000<(Ο a0 a1 a2).next then (iP,[],2)
 else (Ο a0 a1 a2,[],0)
def Ù(a0 a1 a2:Zb):Zb×Ŀ Zk×Int:=
 if a1=a0 then (a2,[],0) else if a2=a0 then (a1,[],0) else if a2=a1 then (a1,[],0) else kH a0 a1 a2
theorem DN{l:Ŀ Zg}{k:Nat}(a:k<l.length)(p:Zg->Bool):(l.take (k+1)).filter p=(l.take k).filter p++(if p l[k]=true then [l[k]] else []):=ZJ a p
theorem YE{V:Ŀ Ĳ}{l:Ŀ Zg}{k:Nat}(a:k<l.length):iu V (l.take (k+1))=iu V (l.take k)++kl l[k].à.vars V l[k].entry.p:=by
 unfold iu
 rw[<- Ě a,x6]
 simp
theorem Qs{a0 a1 a2:Zb}(a:Good a0)(c:Good a1)(d:Good a2):(kJ a0 a1 a2).1.length<=72/\(kJ a0 a1 a2).2.length<=72:=by
 have:=PH a0 a1 a2 (h9 (ç a0++(ç a1++ç a2)))
 have e:=BB (l:=ç a0++(ç a1++ç a2))
 have:=uK a
 have:=uK c
 have:=uK d
 simp only[ā] at e
 unfold kJ
 omega
theorem Qm{a0 a1 a2:Zb}(a:Good a1)(c:Good a2):(la a0 a1 a2).1.length<=48:=by
 have:=EK (a0:=a0) a
 have:=EK (a0:=a0) c
 unfold la
 simp only[ā,Č,JL]
 omega
structure jg (mp:Ŀ (Ĳ×Bool)) (l:Ŀ Ĳ) (n:Nat):Prop where
 nd:(mp.map (·.1)).Nodup
 mem:∀ v,v ∈ mp.map (·.1)↔v ∈ l
 len:mp.length<=n
theorem jg.put{mp:Ŀ (Ĳ×Bool)}{l:Ŀ Ĳ}{n:Nat}(h:jg mp l n)(v:Ĳ):jg (Ñ mp v true) (l++[v]) (n+1) where
 nd:=OV _ _ _ h.nd
 mem u:=by
  rw[IM,h.mem,ĉ,ī]
  exact or_comm
 len:=by have:=NI mp v true; have:=h.len; omega
theorem YD{l:Ŀ Ĳ}(j:l.length<=4)(g:∀ v ∈ l,v.size<=12){mp:Ŀ (Ĳ×Bool)}{m:Ŀ Ĳ}{n:Nat}(h:jg mp m n)(q:n<=1000){p:Ŀ (Ĳ×Bool)->Prop}(hp:∀ r,jg r (m++l) (n+4)->p r):(ML l (0,mp)).wp p:=by
 refine Cq.Zp l.length (λk s=>s.1=(k:Int)/\jg s.2 (m++l.take k) (n+k)) (λk s d c=>?_) (λs c=>?_) ⟨rfl,by simpa using h⟩
 .obtain⟨i,r⟩:=s
  obtain⟨rfl,a⟩:=c
  have a:jg r (m++l.take k) (n+k):=a
  refine Cq.wp.yes (p:=(k:Int)<(l.length:Int)) (by omega) ?_
  have t:=g _ (Ċ d)
  have e:=a.put l[k]
  have f:=e.len
  refine⟨l[k],â d,⟨by omega,by simp only[small]; omega⟩,Β (by omega),?_⟩
  rw[ď,Ě d] at e
  exact e
 obtain⟨i,r⟩:=s
 obtain⟨rfl,a⟩:=c
 refine Cq.wp.no (p:=(l.length:Int)<(l.length:Int)) (by omega) ?_
 have a:jg r (m++l.take l.length) (n+l.length):=a
 rw[ě] at a
 exact hp r ⟨a.nd,a.mem,by have:=a.len; omega⟩
theorem V9{a0 a1 a2:Zb}(A:Good a0)(j:Good a1)(l:Good a2):(HG a0 a1 a2).ο (kH a0 a1 a2):=by
 have v0:=A.vars
 have R:=j.vars
 have S:=l.vars
 obtain⟨F,G⟩:=Qs A j l
 have ln:=Qm (a0:=a0) j l
 refine⟨_,V8 v0 R S,_,VJ A j l,_,VI A j l,?_⟩
 have I:=V6 (base:=a0.vars) R S
 have f:∀ y ∈ (kJ a0 a1 a2).1++(la a0 a1 a2).1,mb y:=λy w=>by
  rcases ĉ.1 w with w|w
  .exact JN j l _ y w
  exact Rr j l y w
 unfold kH Ο lX
 generalize ab:Θ a0.vars a1.vars a2.vars=V at I ⊢
 generalize aa:kJ a0 a1 a2=O at F G f ⊢
 generalize Z:la a0 a1 a2=N at ln f ⊢
 have C:(O.1++N.1).length<=120:=by rw[ā]; omega
 refine⟨by simp only[small]; omega,?_⟩
 generalize H:O.1++N.1=P at C f ⊢
 show (Cq.next _ _).wp _
 have el:∀ Q:Ŀ Zg,(l6 V Q).length<=Q.length:=λQ=>by unfold l6; rw[List.length_map]; exact List.length_filter_le _ _
 have nl:∀ Q:Ŀ Zg,(jI V Q).length<=Q.length:=λQ=>by unfold jI; rw[List.length_map]; exact List.length_filter_le _ _
 refine Cq.Zp P.length (λk s=>∃ mp,s=((k:Int),V,l6 V (P.take k),jI V (P.take k),N.2,mp)/\jg mp (iu V (P.take k)) (4*k)) (λk s d m=>?_) (λs m=>?_) ⟨[],by simp[l6,jI],⟨List.Pairwise.nil,λv=>by simp[iu],č 0⟩⟩
 .obtain⟨mp,rfl,c⟩:=m
  show (if (k:Int)<((O.1++N.1).length:Int) then _ else _:Cq _).wp _
  rw[H,Cq.Zd,Ă (by omega)]
  have u:=f _ (Ċ d)
  have E:=u.à.vars
  have t:=Eg P[k].à.vars V P[k].entry.p P[k].à.vars.length
  refine⟨P[k],â d,_,NH (by omega) (by omega) u.fit.1.len,?_⟩
  refine YD (ł t E) (λv hv=>O8 (u.à.name v (O6 _ (č _) hv))) c (by omega) λr g=>?_
  show (MN V (k:Int) V (l6 V (P.take k)) (jI V (P.take k)) N.2 P[k] r).wp _
  refine⟨_,Nl u.à.diff (by omega) I u.fit,?_⟩
  have X:=el (P.take k)
  have Y:=nl (P.take k)
  rw[Đ] at X Y
  have g:jg r (iu V (P.take k)++kl P[k].à.vars V P[k].entry.p) (4*k+4):=g
  rw[<- YE d] at g
  have g:jg r (iu V (P.take (k+1))) (4*(k+1)):=⟨g.nd,g.mem,g.len⟩
  rw[Cq.Zd]
  by_cases i:P[k].entry.neq=true
  .have f1:l6 V (P.take (k+1))=l6 V (P.take k):=by unfold l6; rw[DN d,i,if_neg (by decide),List.append_nil]
   have f2:jI V (P.take (k+1))=jI V (P.take k)++[ot V P[k]]:=by unfold jI; rw[DN d,if_pos i,List.map_append]; rfl
   rw[Ă i]
   refine⟨by simp only[ā,ĸ,small]; omega,r,?_,g⟩
   rw[Β (by omega),f1,f2]
   rfl
  have i:P[k].entry.neq=false:=(Bool.not_eq_true _).mp i
  have f1:l6 V (P.take (k+1))=l6 V (P.take k)++[ot V P[k]]:=by unfold l6; rw[DN d,i,if_pos (by decide),List.map_append]; rfl
  have f2:jI V (P.take (k+1))=jI V (P.take k):=by unfold jI; rw[DN d,i,if_neg (by decide),List.append_nil]
  rw[i,Ā (by decide)]
  refine⟨by simp only[ā,ĸ,small]; omega,r,?_,g⟩
  rw[Β (by omega),f1,f2]
  rfl
 obtain⟨mp,rfl,c⟩:=m
 show (if (P.length:Int)<((O.1++N.1).length:Int) then _ else _:Cq _).wp _
 rw[H,Cq.Zd,Ā (by omega)]
 rw[ě] at c ⊢
 show (MM V O N V (l6 V P) (jI V P) N.2 mp).wp _
 intro ks e
 have D:=e.length_eq
 rw[Č] at D
 have t:=c.len
 refine⟨_,ZsI (by omega),?_⟩
 have K:∀ v,v ∈ ks↔v ∈ iu V P:=λv=>by rw[e.mem_iff,c.mem]
 have ac:(rn ks).length=ks.length:=by unfold rn; rw[List.length_map,List.length_mergeSort,List.length_map]
 have q:(oc (iu V P)).length<=480:=by rw[<- QK (e.nodup_iff.2 c.nd) K]; omega
 rw[QK (e.nodup_iff.2 c.nd) K]
 generalize oc (iu V P)=a at q ⊢
 show (Cq.next _ _).wp _
 refine Cq.Zp a.length (λk s=>s=((a.take k).map (λn=>Zk.mk 0 n),(k:Int))) (λk s d m=>?_) (λs m=>?_) (by simp)
 .subst m
  refine Cq.wp.yes (p:=(k:Int)<(a.length:Int)) (by omega) ?_
  refine⟨a[k],â d,by simp only[ā,Č,Đ,ĸ,small]; omega,?_⟩
  show _=_
  rw[Β (by omega),<- Ě d,ķ]
  rfl
 subst m
 show (if (a.length:Int)<(a.length:Int) then _ else _:Cq _).wp _
 rw[Cq.Zd,Ā (by omega),ě]
 refine⟨by simp only[ā,Č,small]; omega,?_⟩
 rw[Cq.Zd]
 by_cases J:0<(a.map (λn=>Zk.mk 0 n)++O.2).length
 .rw[Ă (by omega),Ă J]; rfl
 have L:a.map (λn=>Zk.mk 0 n)++O.2=[]:=aay.1 (by omega)
 rw[Ā (by omega),Ā J,Cq.Zd]
 by_cases T:4<V.length
 .rw[Ă (by omega),Ă (.inl T)]; rfl
 rw[Ā (by omega),Cq.Zd]
 by_cases U:12<(l6 V P).length
 .rw[Ă (by omega),Ă (.inr (.inl U))]; rfl
 rw[Ā (by omega),Cq.Zd]
 by_cases W:12<(jI V P).length
 .rw[Ă (by omega),Ă (.inr (.inr (.inl W)))]; rfl
 rw[Ā (by omega),Cq.Zd]
 by_cases B:1000000<N.2
 .rw[Ă B,Ă (.inr (.inr (.inr B)))]; rfl
 rw[Ā B,Ā λh=>by rcases h with h|h|h|h <;> contradiction]; rfl
theorem Wa{a0 a1 a2:Zb}(e:Good a0)(f:Good a1)(g:Good a2):(zf a0 a1 a2 false).ο (Ù a0 a1 a2):=by
 unfold zf Ù
 rw[Cq.ο,Cq.Zd,Ā (by decide)]
 refine⟨_,HQ f.sys e.sys,?_⟩
 rw[Cq.Zd]
 by_cases a:a1=a0
 .rw[ē a,Ă rfl,Ă a]; rfl
 rw[ċ a,Ā (by decide),Ā a]
 refine⟨_,HQ g.sys e.sys,?_⟩
 by_cases c:a2=a0
 .rw[ē c,Ă c]; rfl
 rw[ċ c,Ā c]
 refine⟨_,HQ g.sys f.sys,?_⟩
 rw[Cq.Zd]
 by_cases d:a2=a1
 .rw[ē d,Ă rfl,Ă d]; rfl
 rw[ċ d,Ā (by decide),Ā d]
 exact V9 e f g
theorem zn{a0 a1 a2:Zb}(a:Good a0)(c:Good a1)(d:Good a2):(uF a0 a1 a2).ο (Ù a0 a1 a2):=
 ⟨true,A4 a,true,A4 c,true,A4 d,Wa a c d⟩
end Go.EL

namespace Go.EL
open Go.IntKind (i8 i16 i32 i64 u8 u16 u32 u64)
open Go Go.RowKit
instance FB:DecidableEq Zk:=λ⟨a1,a2⟩ ⟨a,c⟩=>decidable_of_iff (a1=a/\a2=c) (by simp)
def pw(n:Nat):Ŀ Za:=[⟨ð 1,iW 0 (n:Int)⟩]
def K3(l:Ŀ (Int×Nat)):Ŀ Zc:=l.map λx=>⟨x.1,pw x.2⟩
def wN(v:Ĳ)(l:Ŀ (Int×Nat))(next:Int):Zb:=⟨[v],K3 l,[],next⟩
theorem YM:(ú 1 3 λn=>Í (pw n.toNat) 1)=true:=by decide +kernel
theorem Zvu{n:Nat}(a:1<=n)(c:n<=3):ν (pw n)/\Í (pw n) ((1:Nat):Int)=true:=by
 have:=Zv YM (x:=(n:Int)) (by omega) (by omega)
 rw[ģ] at this
 exact⟨Rs (by decide) (by decide) (by decide) (BP (by omega) (by omega)),this⟩
theorem xV{v:Ĳ}(i:gb v=true){l:Ŀ (Int×Nat)}{next:Int}(h:∀ x ∈ l,(1<=x.1/\x.1<next)/\1<=x.2/\x.2<=3)(hp:l.Pairwise λx y=>x.1<y.1)(e:l.length<=12)(f:1<=next/\next<=1000000):Good (wN v l next) where
 vars:=by show 1<=4; decide
 name u g:=by rw[ī.1 g]; exact i
 diff:=Ť _ _
 next:=f
 eqs:={
  len:=by show (K3 l).length<=12; unfold K3; rw[List.length_map]; exact e
  ids:=λq a=>by
   obtain⟨x,c,rfl⟩:=ă.1 a
   exact (h x c).1
  inc:=Ľ.2 hp
  iF:=λq a=>by
   obtain⟨x,c,rfl⟩:=ă.1 a
   exact Zvu (h x c).2.1 (h x c).2.2 }
 ζ:=⟨ġ _,λq a=>absurd a ĝ,List.Pairwise.nil,λq a=>absurd a ĝ⟩
 apart _ _ _ d:=absurd d ĝ
theorem pB:gb Zr=true:=by decide +kernel
theorem CL:gb uD=true:=by decide +kernel
abbrev wM:=wN Zr [(1,1)] 2
abbrev Cz:=wN Zr [(1,1),(2,2)] 3
abbrev z1:=wN Zr [(1,1),(2,3)] 3
abbrev K0:=wN Zr [] 2
abbrev K1:=wN Zr [(1,2)] 2
abbrev K2:=wN uD [(1,1)] 2
abbrev FP:=wN Zr [(1,1),(2,2),(3,3)] 4
theorem zC:Good wM:=xV pB (by decide) (by decide) (by decide) (by decide)
theorem QG:Good Cz:=xV pB (by decide) (by decide) (by decide) (by decide)
theorem Jf:Good z1:=xV pB (by decide) (by decide) (by decide) (by decide)
theorem Zth:Good K0:=xV pB (by decide) (by decide) (by decide) (by decide)
theorem Zti:Good K1:=xV pB (by decide) (by decide) (by decide) (by decide)
theorem Ztj:Good K2:=xV CL (by decide) (by decide) (by decide) (by decide)
theorem Ztk:Good FP:=xV pB (by decide) (by decide) (by decide) (by decide)
theorem Zsu:(ú 1 3 λi=>ú 1 3 λn=>runs 80 (ZV i n) ⟨i,pw n.toNat⟩)=true:=by decide +kernel
theorem AV{i:Int}{n:Nat}(a:1<=i/\i<=3)(c:1<=n/\n<=3):(ZV i (n:Int)).ο ⟨i,pw n⟩:=by
 have:=ZC (Zv (Zv Zsu (x:=i) a.1 a.2) (x:=(n:Int)) (by omega) (by omega))
 rwa [ģ] at this
theorem ex9:Ù wM Cz z1=(FP,[],0):=by decide +kernel
theorem KX:Ù wM K0 K1=(iP,[⟨1,ByteArray.empty⟩],350):=by decide +kernel
theorem KY:Ù wM K2 Cz=(iP,[⟨0,Zr⟩],350):=by decide +kernel
theorem KZ:Ù wM wM z1=(z1,[],0):=by decide +kernel
theorem Zuf:(wb iP).ο false:=Cq.ο.rE 5 (by decide +kernel)
theorem YA:(uF wM iP Cz).ο (iP,[],320):=⟨true,A4 zC,false,Zuf,rfl⟩
theorem yo:(Z3 [⟨1,ByteArray.empty⟩] [⟨1,ByteArray.empty⟩]).ο true:=Cq.ο.rE 10 (by decide +kernel)
theorem yp:(Z3 [⟨0,Zr⟩] [⟨0,Zr⟩]).ο true:=Cq.ο.rE 10 (by decide +kernel)
theorem Wj:HF.ο true:=by
 have a:=AV (i:=1) (n:=1) (by decide) (by decide)
 have d:=AV (i:=1) (n:=2) (by decide) (by decide)
 have c:=AV (i:=2) (n:=2) (by decide) (by decide)
 have e:=AV (i:=2) (n:=3) (by decide) (by decide)
 have f:=AV (i:=3) (n:=3) (by decide) (by decide)
 refine⟨_,a,wM,rfl,_,a,_,c,Cz,rfl,_,a,_,e,z1,rfl,(FP,[],0),?_,K0,rfl,_,d,K1,rfl,(iP,[⟨1,ByteArray.empty⟩],350),?_,_,a,K2,rfl,(iP,[⟨0,Zr⟩],350),?_,_,YA,(z1,[],0),?_,?_⟩
 .rw[<- ex9]; exact zn zC QG Jf
 .rw[<- KX]; exact zn zC Zth Zti
 .rw[<- KY]; exact zn zC Ztj QG
 .rw[<- KZ]; exact zn zC zC Jf
 rw[Cq.Zd,Ā (by decide),Cq.Zd,Ā (by decide),Cq.Zd,Ā (by decide),Cq.Zd,Ā (by decide),Cq.Zd,Ā (by decide),Cq.Zd,Ā (by decide)]
 refine⟨true,Qy Jf.sys,?_⟩
 rw[Cq.Zd,Ā (by decide)]
 exact⟨true,yo,true,yp,_,a,_,c,_,f,FP,rfl,true,Qy Ztk.sys,rfl⟩
structure ox (x:ZK):Prop where
 base:pD x.base
 a:pD x.a
 b:pD x.b
theorem Qv{s:Zb}(h:Good s){l:Ŀ Zh}(d:l.length<=1000)(a:nz s l):(EY s l).ο (qj s l,(l.length:Int),0):=by
 refine⟨_,Zvb d (λe c=>(QV a e c).1) h,?_⟩
 rw[YX a]
 rfl
end Go.EL

namespace Go.Proofs.YtdigmacmdlpckaaGreat
open Go.IntKind (i8 i16 i32 i64 u8 u16 u32 u64)
open Go.Proofs.Tryz
open Go Go.EL Go.RowKit Go.Proofs
def ua(x:ZF):Prop:=(∀ y ∈ x.t,∀ i,(Lit.int .i8 (y i)).wf=true)
def qH(x:Zx):Prop:=((Lit.int .u8 x.kind).wf=true)/\((Lit.int .u8 x.a).wf=true)/\((Lit.int .u8 x.b).wf=true)/\((Lit.int .u8 x.n).wf=true)/\(ua x.p)
def CQ(x:ZK):Prop:=(∀ y ∈ x.base,qH y)/\(∀ y ∈ x.a,qH y)/\(∀ y ∈ x.b,qH y)
theorem ub(W:World):gX prog W 110 Ns (ua):=by
 have h:=gX.struct (W:=W) underlying110 (by kernel_rfl) (iQ.last rfl (by kernel_rfl) (gX.sl underlying108 (by kernel_rfl) (by decide) (gX.vec underlying226 underlying225 (by kernel_rfl) (by kernel_rfl)))) (λ(x:ZF)=>x.t) (λy=>⟨y⟩) (λ_=>rfl)
 exact h
theorem oS(W:World):gX prog W 112 ZT (qH):=by
 have h:=gX.struct (W:=W) underlying112 (by kernel_rfl) (iQ.cons rfl (by kernel_rfl) (gX.int underlying5) (iQ.cons rfl (by kernel_rfl) (gX.int underlying5) (iQ.cons rfl (by kernel_rfl) (gX.int underlying5) (iQ.cons rfl (by kernel_rfl) (gX.int underlying5) (iQ.last rfl (by kernel_rfl) (ub W)))))) (λ(x:Zx)=>(x.kind,x.a,x.b,x.n,x.p)) (λy=>⟨y.1,y.2.1,y.2.2.1,y.2.2.2.1,y.2.2.2.2⟩) (λ_=>rfl)
 exact h
theorem vF(W:World):gX prog W 24 M2 (CQ):=by
 have h:=gX.struct (W:=W) underlying24 (by kernel_rfl) (iQ.cons rfl (by kernel_rfl) (gX.sl underlying22 (by kernel_rfl) (by decide) (oS W)) (iQ.cons rfl (by kernel_rfl) (gX.sl underlying22 (by kernel_rfl) (by decide) (oS W)) (iQ.last rfl (by kernel_rfl) (gX.sl underlying22 (by kernel_rfl) (by decide) (oS W))))) (λ(x:ZK)=>(x.base,x.a,x.b)) (λy=>⟨y.1,y.2.1,y.2.2⟩) (λ_=>rfl)
 exact h
theorem Zvw{x:ZF}(h:ua x):oD x:=λv a j=>wf_i8 (h v a j)
theorem J5{x:Zx}(h:qH x):lM x:=⟨wf_u8 h.1,wf_u8 h.2.1,wf_u8 h.2.2.1,wf_u8 h.2.2.2.1,Zvw h.2.2.2.2⟩
theorem Zt2{x:ZK}(h:CQ x):ox x:=⟨⟨λy a=>J5 (h.1 y a)⟩,⟨λy a=>J5 (h.2.1 y a)⟩,⟨λy a=>J5 (h.2.2 y a)⟩⟩
set_option maxRecDepth 100000 in
theorem YG{W:World}{base:Nat}{v:Value}{H:Type}{enc:TypeId×Value->H}{b:Nat}{d:DataW H}{ps:Ŀ MemPlace}(a:Value.okWide prog W .any base 24 v)(h:DataW.Trod enc prog W b (λ_=>true) true 24 v d ps):∃ (x:ZK) (p:ŀ Addr) (c:Nat) (q:ŀ Addr) (e:Nat) (r:ŀ Addr) (f:Nat),v = .agg ([.slice p x.base.length c,.slice q x.a.length e,.slice r x.b.length f]).toArray/\ë ZT (lN W) (.slice p x.base.length c) x.base/\ë ZT (lN W) (.slice q x.a.length e) x.a/\ë ZT (lN W) (.slice r x.b.length f) x.b/\ox x:=by
 obtain⟨cs,x,rfl,g,i⟩:=WA underlying24 (vF W) a h
 obtain⟨p,c,q,e,r,f,l,m,n,s⟩:=VA (K:=λj u=>cs[j]? = some u) (YZ g)
 exact⟨x,p,c,q,e,r,f,by rw[Zta g (by rfl) l],m,n,s,Zt2 i⟩
end Go.Proofs.YtdigmacmdlpckaaGreat

namespace Go.Proofs
open Go.IntKind (i8 i16 i32 i64 u8 u16 u32 u64)
open Go.Shelf
def Tryz.Y7:Go.Shelf.Ren:=⟨fun|14=>214|20=>243|21=>244|22=>245|23=>246|24=>247|25=>248|26=>249|27=>250|46=>271|47=>216|48=>217|49=>272|50=>273|15=>101|57=>285|28=>165|29=>166|n=>n,fun|24=>159|22=>48|3=>3|25=>239|4=>4|0=>0|46=>242|45=>241|50=>247|66=>277|39=>188|55=>212|70=>281|76=>300|77=>301|53=>250|5=>5|9=>9|n=>n,fun|n=>n⟩
theorem Tryz.CX:Go.Proofs.SlLaysF0.n14 Tryz.prog Tryz.Y7:={
 mixed:=by kernel_rfl
 f14:=⟨Tryz.f214.name,by decide,Tryz.func214.trans (ć some (by kernel_rfl))⟩
 f15:=Tryz.func101.trans (ć some (by kernel_rfl))
 f20:=⟨Tryz.f243.name,by decide,Tryz.func243.trans (ć some (by kernel_rfl))⟩
 f21:=⟨Tryz.f244.name,by decide,Tryz.func244.trans (ć some (by kernel_rfl))⟩
 f22:=⟨Tryz.f245.name,by decide,Tryz.func245.trans (ć some (by kernel_rfl))⟩
 f23:=⟨Tryz.f246.name,by decide,Tryz.func246.trans (ć some (by kernel_rfl))⟩
 f24:=⟨Tryz.f247.name,by decide,Tryz.func247.trans (ć some (by kernel_rfl))⟩
 f25:=⟨Tryz.f248.name,by decide,Tryz.func248.trans (ć some (by kernel_rfl))⟩
 f26:=⟨Tryz.f249.name,by decide,Tryz.func249.trans (ć some (by kernel_rfl))⟩
 f27:=⟨Tryz.f250.name,by decide,Tryz.func250.trans (ć some (by kernel_rfl))⟩
 f28:=Tryz.func165.trans (ć some (by kernel_rfl))
 f29:=Tryz.func166.trans (ć some (by kernel_rfl))
 f46:=⟨Tryz.f271.name,by decide,Tryz.func271.trans (ć some (by kernel_rfl))⟩
 f47:=Tryz.func216.trans (ć some (by kernel_rfl))
 f48:=Tryz.func217.trans (ć some (by kernel_rfl))
 f49:=⟨Tryz.f272.name,by decide,Tryz.func272.trans (ć some (by kernel_rfl))⟩
 f50:=⟨Tryz.f273.name,by decide,Tryz.func273.trans (ć some (by kernel_rfl))⟩
 f57:=⟨Tryz.f285.name,by decide,Tryz.func285.trans (ć some (by kernel_rfl))⟩
 t0:=Tryz.underlying0
 a0:=Tryz.isAgg0
 z0:=Tryz.sizeOf0
 v0:=Tryz.zeroValue0
 t3:=Tryz.underlying3
 a3:=Tryz.isAgg3
 z3:=Tryz.sizeOf3
 v3:=Tryz.zeroValue3
 t4:=Tryz.underlying4
 a4:=Tryz.isAgg4
 z4:=Tryz.sizeOf4
 v4:=Tryz.zeroValue4
 t5:=Tryz.underlying5
 a5:=Tryz.isAgg5
 z5:=Tryz.sizeOf5
 v5:=Tryz.zeroValue5
 t9:=Tryz.underlying9
 a9:=Tryz.isAgg9
 z9:=Tryz.sizeOf9
 v9:=Tryz.zeroValue9
 t22:=Tryz.underlying48
 a22:=Tryz.isAgg48
 z22:=Tryz.sizeOf48
 v22:=Tryz.zeroValue48
 t25:=Tryz.underlying239
 a25:=Tryz.isAgg239
 z25:=Tryz.sizeOf239
 v25:=Tryz.zeroValue239
 t39:=Tryz.underlying188
 a39:=Tryz.isAgg188
 z39:=Tryz.sizeOf188
 v39:=Tryz.zeroValue188
 t45:=Tryz.underlying241
 a45:=Tryz.isAgg241
 z45:=Tryz.sizeOf241
 v45:=Tryz.zeroValue241
 t46:=Tryz.underlying242
 a46:=Tryz.isAgg242
 z46:=Tryz.sizeOf242
 v46:=Tryz.zeroValue242
 t50:=Tryz.underlying247
 a50:=Tryz.isAgg247
 z50:=Tryz.sizeOf247
 v50:=Tryz.zeroValue247
 t53:=Tryz.underlying250
 a53:=Tryz.isAgg250
 z53:=Tryz.sizeOf250
 v53:=Tryz.zeroValue250
 t55:=Tryz.underlying212
 a55:=Tryz.isAgg212
 z55:=Tryz.sizeOf212
 v55:=Tryz.zeroValue212
 t66:=Tryz.underlying277
 a66:=Tryz.isAgg277
 z66:=Tryz.sizeOf277
 v66:=Tryz.zeroValue277
 t70:=Tryz.underlying281
 a70:=Tryz.isAgg281
 z70:=Tryz.sizeOf281
 v70:=Tryz.zeroValue281
 t76:=Tryz.underlying300
 a76:=Tryz.isAgg300
 z76:=Tryz.sizeOf300
 v76:=Tryz.zeroValue300
 t77:=Tryz.underlying301
 a77:=Tryz.isAgg301
 z77:=Tryz.sizeOf301
 v77:=Tryz.zeroValue301 }
def Tryz.Y6:Go.Shelf.Ren:=⟨fun|53=>89|64=>101|63=>148|78=>165|79=>166|70=>204|71=>205|72=>206|73=>207|74=>208|75=>209|59=>210|76=>211|77=>212|88=>239|89=>216|90=>217|91=>240|92=>241|68=>242|96=>270|n=>n,fun|22=>129|23=>3|3=>3|51=>188|0=>0|67=>250|69=>212|4=>4|61=>242|60=>241|44=>247|5=>5|9=>9|75=>277|79=>281|83=>300|84=>301|n=>n,fun|n=>n⟩
theorem Tryz.ui:Go.Proofs.SlLaysN.n53 Tryz.prog Tryz.Y6:={
 mixed:=by kernel_rfl
 f53:=⟨Tryz.f89.name,by decide,Tryz.func89.trans (ć some (by kernel_rfl))⟩
 f59:=⟨Tryz.f210.name,by decide,Tryz.func210.trans (ć some (by kernel_rfl))⟩
 f63:=⟨Tryz.f148.name,by decide,Tryz.func148.trans (ć some (by kernel_rfl))⟩
 f64:=Tryz.func101.trans (ć some (by kernel_rfl))
 f68:=⟨Tryz.f242.name,by decide,Tryz.func242.trans (ć some (by kernel_rfl))⟩
 f70:=⟨Tryz.f204.name,by decide,Tryz.func204.trans (ć some (by kernel_rfl))⟩
 f71:=⟨Tryz.f205.name,by decide,Tryz.func205.trans (ć some (by kernel_rfl))⟩
 f72:=⟨Tryz.f206.name,by decide,Tryz.func206.trans (ć some (by kernel_rfl))⟩
 f73:=⟨Tryz.f207.name,by decide,Tryz.func207.trans (ć some (by kernel_rfl))⟩
 f74:=⟨Tryz.f208.name,by decide,Tryz.func208.trans (ć some (by kernel_rfl))⟩
 f75:=⟨Tryz.f209.name,by decide,Tryz.func209.trans (ć some (by kernel_rfl))⟩
 f76:=⟨Tryz.f211.name,by decide,Tryz.func211.trans (ć some (by kernel_rfl))⟩
 f77:=⟨Tryz.f212.name,by decide,Tryz.func212.trans (ć some (by kernel_rfl))⟩
 f78:=Tryz.func165.trans (ć some (by kernel_rfl))
 f79:=Tryz.func166.trans (ć some (by kernel_rfl))
 f88:=⟨Tryz.f239.name,by decide,Tryz.func239.trans (ć some (by kernel_rfl))⟩
 f89:=Tryz.func216.trans (ć some (by kernel_rfl))
 f90:=Tryz.func217.trans (ć some (by kernel_rfl))
 f91:=⟨Tryz.f240.name,by decide,Tryz.func240.trans (ć some (by kernel_rfl))⟩
 f92:=⟨Tryz.f241.name,by decide,Tryz.func241.trans (ć some (by kernel_rfl))⟩
 f96:=⟨Tryz.f270.name,by decide,Tryz.func270.trans (ć some (by kernel_rfl))⟩
 t0:=Tryz.underlying0
 a0:=Tryz.isAgg0
 z0:=Tryz.sizeOf0
 v0:=Tryz.zeroValue0
 t3:=Tryz.underlying3
 a3:=Tryz.isAgg3
 z3:=Tryz.sizeOf3
 v3:=Tryz.zeroValue3
 t4:=Tryz.underlying4
 a4:=Tryz.isAgg4
 z4:=Tryz.sizeOf4
 v4:=Tryz.zeroValue4
 t5:=Tryz.underlying5
 a5:=Tryz.isAgg5
 z5:=Tryz.sizeOf5
 v5:=Tryz.zeroValue5
 t9:=Tryz.underlying9
 a9:=Tryz.isAgg9
 z9:=Tryz.sizeOf9
 v9:=Tryz.zeroValue9
 t22:=Tryz.underlying129
 a22:=Tryz.isAgg129
 z22:=Tryz.sizeOf129
 v22:=Tryz.zeroValue129
 t23:=Tryz.underlying3
 a23:=Tryz.isAgg3
 z23:=Tryz.sizeOf3
 v23:=Tryz.zeroValue3
 t44:=Tryz.underlying247
 a44:=Tryz.isAgg247
 z44:=Tryz.sizeOf247
 v44:=Tryz.zeroValue247
 t51:=Tryz.underlying188
 a51:=Tryz.isAgg188
 z51:=Tryz.sizeOf188
 v51:=Tryz.zeroValue188
 t60:=Tryz.underlying241
 a60:=Tryz.isAgg241
 z60:=Tryz.sizeOf241
 v60:=Tryz.zeroValue241
 t61:=Tryz.underlying242
 a61:=Tryz.isAgg242
 z61:=Tryz.sizeOf242
 v61:=Tryz.zeroValue242
 t67:=Tryz.underlying250
 a67:=Tryz.isAgg250
 z67:=Tryz.sizeOf250
 v67:=Tryz.zeroValue250
 t69:=Tryz.underlying212
 a69:=Tryz.isAgg212
 z69:=Tryz.sizeOf212
 v69:=Tryz.zeroValue212
 t75:=Tryz.underlying277
 a75:=Tryz.isAgg277
 z75:=Tryz.sizeOf277
 v75:=Tryz.zeroValue277
 t79:=Tryz.underlying281
 a79:=Tryz.isAgg281
 z79:=Tryz.sizeOf281
 v79:=Tryz.zeroValue281
 t83:=Tryz.underlying300
 a83:=Tryz.isAgg300
 z83:=Tryz.sizeOf300
 v83:=Tryz.zeroValue300
 t84:=Tryz.underlying301
 a84:=Tryz.isAgg301
 z84:=Tryz.sizeOf301
 v84:=Tryz.zeroValue301 }
def Tryz.Y9:Go.Shelf.Ren:=⟨fun|54=>57|64=>101|65=>100|78=>165|79=>166|80=>156|81=>157|82=>158|83=>159|84=>160|85=>161|61=>162|86=>163|87=>164|93=>215|89=>216|90=>217|94=>218|95=>219|69=>220|97=>251|n=>n,fun|25=>26|26=>9|3=>3|51=>188|0=>0|67=>250|69=>212|4=>4|61=>242|60=>241|44=>247|5=>5|9=>9|75=>277|79=>281|83=>300|84=>301|n=>n,fun|n=>n⟩
theorem Tryz.uj:Go.Proofs.SlLaysN.n54 Tryz.prog Tryz.Y9:={
 mixed:=by kernel_rfl
 f54:=⟨Tryz.f57.name,by decide,Tryz.func57.trans (ć some (by kernel_rfl))⟩
 f61:=⟨Tryz.f162.name,by decide,Tryz.func162.trans (ć some (by kernel_rfl))⟩
 f64:=Tryz.func101.trans (ć some (by kernel_rfl))
 f65:=⟨Tryz.f100.name,by decide,Tryz.func100.trans (ć some (by kernel_rfl))⟩
 f69:=⟨Tryz.f220.name,by decide,Tryz.func220.trans (ć some (by kernel_rfl))⟩
 f78:=Tryz.func165.trans (ć some (by kernel_rfl))
 f79:=Tryz.func166.trans (ć some (by kernel_rfl))
 f80:=⟨Tryz.f156.name,by decide,Tryz.func156.trans (ć some (by kernel_rfl))⟩
 f81:=⟨Tryz.f157.name,by decide,Tryz.func157.trans (ć some (by kernel_rfl))⟩
 f82:=⟨Tryz.f158.name,by decide,Tryz.func158.trans (ć some (by kernel_rfl))⟩
 f83:=⟨Tryz.f159.name,by decide,Tryz.func159.trans (ć some (by kernel_rfl))⟩
 f84:=⟨Tryz.f160.name,by decide,Tryz.func160.trans (ć some (by kernel_rfl))⟩
 f85:=⟨Tryz.f161.name,by decide,Tryz.func161.trans (ć some (by kernel_rfl))⟩
 f86:=⟨Tryz.f163.name,by decide,Tryz.func163.trans (ć some (by kernel_rfl))⟩
 f87:=⟨Tryz.f164.name,by decide,Tryz.func164.trans (ć some (by kernel_rfl))⟩
 f89:=Tryz.func216.trans (ć some (by kernel_rfl))
 f90:=Tryz.func217.trans (ć some (by kernel_rfl))
 f93:=⟨Tryz.f215.name,by decide,Tryz.func215.trans (ć some (by kernel_rfl))⟩
 f94:=⟨Tryz.f218.name,by decide,Tryz.func218.trans (ć some (by kernel_rfl))⟩
 f95:=⟨Tryz.f219.name,by decide,Tryz.func219.trans (ć some (by kernel_rfl))⟩
 f97:=⟨Tryz.f251.name,by decide,Tryz.func251.trans (ć some (by kernel_rfl))⟩
 t0:=Tryz.underlying0
 a0:=Tryz.isAgg0
 z0:=Tryz.sizeOf0
 v0:=Tryz.zeroValue0
 t3:=Tryz.underlying3
 a3:=Tryz.isAgg3
 z3:=Tryz.sizeOf3
 v3:=Tryz.zeroValue3
 t4:=Tryz.underlying4
 a4:=Tryz.isAgg4
 z4:=Tryz.sizeOf4
 v4:=Tryz.zeroValue4
 t5:=Tryz.underlying5
 a5:=Tryz.isAgg5
 z5:=Tryz.sizeOf5
 v5:=Tryz.zeroValue5
 t9:=Tryz.underlying9
 a9:=Tryz.isAgg9
 z9:=Tryz.sizeOf9
 v9:=Tryz.zeroValue9
 t25:=Tryz.underlying26
 a25:=Tryz.isAgg26
 z25:=Tryz.sizeOf26
 v25:=Tryz.zeroValue26
 t26:=Tryz.underlying9
 a26:=Tryz.isAgg9
 z26:=Tryz.sizeOf9
 v26:=Tryz.zeroValue9
 t44:=Tryz.underlying247
 a44:=Tryz.isAgg247
 z44:=Tryz.sizeOf247
 v44:=Tryz.zeroValue247
 t51:=Tryz.underlying188
 a51:=Tryz.isAgg188
 z51:=Tryz.sizeOf188
 v51:=Tryz.zeroValue188
 t60:=Tryz.underlying241
 a60:=Tryz.isAgg241
 z60:=Tryz.sizeOf241
 v60:=Tryz.zeroValue241
 t61:=Tryz.underlying242
 a61:=Tryz.isAgg242
 z61:=Tryz.sizeOf242
 v61:=Tryz.zeroValue242
 t67:=Tryz.underlying250
 a67:=Tryz.isAgg250
 z67:=Tryz.sizeOf250
 v67:=Tryz.zeroValue250
 t69:=Tryz.underlying212
 a69:=Tryz.isAgg212
 z69:=Tryz.sizeOf212
 v69:=Tryz.zeroValue212
 t75:=Tryz.underlying277
 a75:=Tryz.isAgg277
 z75:=Tryz.sizeOf277
 v75:=Tryz.zeroValue277
 t79:=Tryz.underlying281
 a79:=Tryz.isAgg281
 z79:=Tryz.sizeOf281
 v79:=Tryz.zeroValue281
 t83:=Tryz.underlying300
 a83:=Tryz.isAgg300
 z83:=Tryz.sizeOf300
 v83:=Tryz.zeroValue300
 t84:=Tryz.underlying301
 a84:=Tryz.isAgg301
 z84:=Tryz.sizeOf301
 v84:=Tryz.zeroValue301 }
def Tryz.Y8:Go.Shelf.Ren:=⟨fun|14=>227|20=>252|21=>253|22=>254|23=>255|24=>256|25=>257|26=>258|27=>259|46=>274|47=>216|48=>217|49=>275|50=>276|15=>101|57=>286|28=>165|29=>166|n=>n,fun|24=>49|22=>37|3=>3|25=>203|4=>4|0=>0|46=>242|45=>241|50=>247|66=>277|39=>188|55=>212|70=>281|76=>300|77=>301|53=>250|5=>5|9=>9|n=>n,fun|n=>n⟩
theorem Tryz.CY:Go.Proofs.SlLaysF.n14 Tryz.prog Tryz.Y8:={
 mixed:=by kernel_rfl
 f14:=⟨Tryz.f227.name,by decide,Tryz.func227.trans (ć some (by kernel_rfl))⟩
 f15:=Tryz.func101.trans (ć some (by kernel_rfl))
 f20:=⟨Tryz.f252.name,by decide,Tryz.func252.trans (ć some (by kernel_rfl))⟩
 f21:=⟨Tryz.f253.name,by decide,Tryz.func253.trans (ć some (by kernel_rfl))⟩
 f22:=⟨Tryz.f254.name,by decide,Tryz.func254.trans (ć some (by kernel_rfl))⟩
 f23:=⟨Tryz.f255.name,by decide,Tryz.func255.trans (ć some (by kernel_rfl))⟩
 f24:=⟨Tryz.f256.name,by decide,Tryz.func256.trans (ć some (by kernel_rfl))⟩
 f25:=⟨Tryz.f257.name,by decide,Tryz.func257.trans (ć some (by kernel_rfl))⟩
 f26:=⟨Tryz.f258.name,by decide,Tryz.func258.trans (ć some (by kernel_rfl))⟩
 f27:=⟨Tryz.f259.name,by decide,Tryz.func259.trans (ć some (by kernel_rfl))⟩
 f28:=Tryz.func165.trans (ć some (by kernel_rfl))
 f29:=Tryz.func166.trans (ć some (by kernel_rfl))
 f46:=⟨Tryz.f274.name,by decide,Tryz.func274.trans (ć some (by kernel_rfl))⟩
 f47:=Tryz.func216.trans (ć some (by kernel_rfl))
 f48:=Tryz.func217.trans (ć some (by kernel_rfl))
 f49:=⟨Tryz.f275.name,by decide,Tryz.func275.trans (ć some (by kernel_rfl))⟩
 f50:=⟨Tryz.f276.name,by decide,Tryz.func276.trans (ć some (by kernel_rfl))⟩
 f57:=⟨Tryz.f286.name,by decide,Tryz.func286.trans (ć some (by kernel_rfl))⟩
 t0:=Tryz.underlying0
 a0:=Tryz.isAgg0
 z0:=Tryz.sizeOf0
 v0:=Tryz.zeroValue0
 t3:=Tryz.underlying3
 a3:=Tryz.isAgg3
 z3:=Tryz.sizeOf3
 v3:=Tryz.zeroValue3
 t4:=Tryz.underlying4
 a4:=Tryz.isAgg4
 z4:=Tryz.sizeOf4
 v4:=Tryz.zeroValue4
 t5:=Tryz.underlying5
 a5:=Tryz.isAgg5
 z5:=Tryz.sizeOf5
 v5:=Tryz.zeroValue5
 t9:=Tryz.underlying9
 a9:=Tryz.isAgg9
 z9:=Tryz.sizeOf9
 v9:=Tryz.zeroValue9
 t22:=Tryz.underlying37
 a22:=Tryz.isAgg37
 z22:=Tryz.sizeOf37
 v22:=Tryz.zeroValue37
 a24:=Tryz.isAgg49
 z24:=Tryz.sizeOf49
 t25:=Tryz.underlying203
 a25:=Tryz.isAgg203
 z25:=Tryz.sizeOf203
 v25:=Tryz.zeroValue203
 t39:=Tryz.underlying188
 a39:=Tryz.isAgg188
 z39:=Tryz.sizeOf188
 v39:=Tryz.zeroValue188
 t45:=Tryz.underlying241
 a45:=Tryz.isAgg241
 z45:=Tryz.sizeOf241
 v45:=Tryz.zeroValue241
 t46:=Tryz.underlying242
 a46:=Tryz.isAgg242
 z46:=Tryz.sizeOf242
 v46:=Tryz.zeroValue242
 t50:=Tryz.underlying247
 a50:=Tryz.isAgg247
 z50:=Tryz.sizeOf247
 v50:=Tryz.zeroValue247
 t53:=Tryz.underlying250
 a53:=Tryz.isAgg250
 z53:=Tryz.sizeOf250
 v53:=Tryz.zeroValue250
 t55:=Tryz.underlying212
 a55:=Tryz.isAgg212
 z55:=Tryz.sizeOf212
 v55:=Tryz.zeroValue212
 t66:=Tryz.underlying277
 a66:=Tryz.isAgg277
 z66:=Tryz.sizeOf277
 v66:=Tryz.zeroValue277
 t70:=Tryz.underlying281
 a70:=Tryz.isAgg281
 z70:=Tryz.sizeOf281
 v70:=Tryz.zeroValue281
 t76:=Tryz.underlying300
 a76:=Tryz.isAgg300
 z76:=Tryz.sizeOf300
 v76:=Tryz.zeroValue300
 t77:=Tryz.underlying301
 a77:=Tryz.isAgg301
 z77:=Tryz.sizeOf301
 v77:=Tryz.zeroValue301 }
end Go.Proofs

namespace Go.EL
open Go.IntKind (i8 i16 i32 i64 u8 u16 u32 u64)
open Go Go.RowKit
theorem EF{c:Zj}(h:jT c=true):∃ n:Int,c=ð n/\n≠0/\-12<=n/\n<=12:=by
 obtain⟨⟨f,nm⟩,⟨g,i⟩⟩:=c
 unfold jT at h
 dsimp only at h
 split at h
 .rename_i w d
  simp only[Ē,Ō,Ģ] at h
  obtain⟨⟨⟨a,e⟩,j⟩,l⟩:=h
  subst a e
  cases f with
  | true=>
   refine⟨-w,?_,by omega,by omega,by omega⟩
   unfold ð
   rw[Ā (by omega),ē (by omega),show ((-w).natAbs:Int)=w by omega]
  | false=>
   refine⟨w,?_,by omega,by omega,by omega⟩
   unfold ð
   rw[Ā (by omega),ċ (by omega),show ((w).natAbs:Int)=w by omega]
 cases h
theorem u6(n:Int):Þ (ð n)=n:=by
 unfold Þ ð
 by_cases h:n<0
 .rw[ē h,Ă rfl,Ā (by omega)]; simp; omega
 rw[ċ h]
 by_cases a:n=0
 .subst a; rfl
 simp[a]; omega
theorem Ys{n:Int}(a:n≠0)(c:-12<=n)(d:n<=12):jT (ð n)=true:=by
 unfold jT ð
 rw[Ā a]
 simp; omega
def mj(a b:Zj):Int:=if Þ a<Þ b then -1 else if Þ a=Þ b then 0 else 1
theorem Qw{a b:Zj}(e:jT a=true)(f:jT b=true):(xG a b).ο (mj a b):=by
 obtain⟨m,rfl,g,i,j⟩:=EF e
 obtain⟨n,rfl,l,p,q⟩:=EF f
 have h:=Zv P9 i j
 have c:(m == 0)=false:=by simpa using g
 rw[c,aaf] at h
 have h':=Zv h p q
 have d:(n == 0)=false:=by simpa using l
 rw[d,aaf] at h'
 have:=ZC h'
 unfold mj
 rw[u6,u6]
 exact this
theorem Yg{a b:Zj}(c:jT a=true)(d:jT b=true)(h:mj a b=0):a=b:=by
 obtain⟨m,rfl,_⟩:=EF c
 obtain⟨n,rfl,_⟩:=EF d
 unfold mj at h
 rw[u6,u6] at h
 split at h
 .omega
 split at h
 .rename_i e; rw[e]
 omega
theorem Ztc(a b:Zj):mj b a = - mj a b:=by unfold mj; split <;> split <;> (try split) <;> omega
theorem Zus{a b:Zj}:mj a b<=0↔Þ a<=Þ b:=by unfold mj; split <;> (try split) <;> constructor <;> intro h <;> omega
theorem Zut{a b:Zj}:mj a b<0↔Þ a<Þ b:=by unfold mj; split <;> (try split) <;> constructor <;> intro h <;> omega
theorem XB{a b c:Zj}(d:mj a b<=0)(e:mj b c<=0):mj a c<=0/\((mj a b<0\/mj b c<0)->mj a c<0):=by
 rw[Zus] at *
 simp only[Zut]
 omega
theorem Ey(s t:Za):jo t s = - jo s t:=by
 unfold jo
 by_cases h:s.m=t.m
 .rw[Ă h,Ă h.symm]; exact Ztc s.c t.c
 rw[Ā h,Ā (λe=>h e.symm)]; exact vd _ _
theorem Ef(a b c:Za)(g:jo a b<=0)(i:jo b c<=0):jo a c<=0/\((jo a b<0\/jo b c<0)->jo a c<0):=by
 have m:∀ {x y:Za},x.m≠y.m->gO x.m y.m<=0->gO x.m y.m<0:=λh h'=>by
  rcases Int.lt_or_eq_of_le h' with h'|h'
  .exact h'
  exact absurd (xL h') h
 unfold jo at *
 by_cases d:a.m=b.m
 .by_cases f:b.m=c.m
  .rw[Ă d] at g ⊢; rw[Ă f] at i ⊢; rw[Ă (d.trans f)]
   exact XB g i
  rw[Ă d] at g ⊢; rw[Ā f] at i ⊢; rw[Ā (λe=>f (d.symm.trans e))]
  have:=m f i
  rw[d]
  exact⟨i,λ_=>this⟩
 by_cases f:b.m=c.m
 .rw[Ā d] at g ⊢; rw[Ă f] at i ⊢; rw[Ā (λe=>d (e.trans f.symm))]
  have:=m d g
  rw[<- f]
  exact⟨g,λ_=>this⟩
 rw[Ā d] at g ⊢; rw[Ā f] at i ⊢
 have j:=m d g
 have l:=Hw g i (.inl j)
 have:a.m≠c.m:=λe=>by rw[e,D0] at l; omega
 rw[Ā this]
 exact⟨Int.le_of_lt l,λ_=>l⟩
theorem Yh{s t:Za}(a:jT s.c=true)(c:jT t.c=true)(h:jo s t=0):s=t:=by
 unfold jo at h
 have key:s.m=t.m/\s.c=t.c:=by
  by_cases e:s.m=t.m
  .rw[Ă e] at h; exact⟨e,Yg a c h⟩
  rw[Ā e] at h; exact absurd (xL h) e
 cases s; cases t
 simp only at key
 rw[key.1,key.2]
theorem si:∀ p q:Ŀ Za,û q p = - û p q
 | [],[]=>rfl
 | [],_::_=>rfl
 | _::_,[]=>rfl
 | s::p,t::q=>by
  unfold û
  rw[Ey s t,si p q]
  by_cases h:jo s t=0
  .rw[Ă h,Ă (by omega)]
  rw[Ā h,Ā (by omega)]
theorem zj:∀ a b c:Ŀ Za,û a b<=0->û b c<=0->û a c<=0/\((û a b<0\/û b c<0)->û a c<0)
 | [],[],[],e,d=>⟨by decide,λh=>by rcases h with h|h <;> exact absurd h (by decide)⟩
 | [],[],_::_,e,d=>⟨by simp[û],λ_=>by simp[û]⟩
 | [],_::_,[],e,d=>by simp[û] at d
 | [],_::_,_::_,e,d=>⟨by simp[û],λ_=>by simp[û]⟩
 | _::_,[],_,e,d=>by simp[û] at e
 | _::_,_::_,[],e,d=>by simp[û] at d
 | s::a,t::b,u::c,e,d=>by
  have q:=Ey s t
  have m:=zj a b c
  have i:=Ef s t u
  have n:=Ef t s u
  have p:=Ef s u t
  have r:=Ey t u
  have v:=Ey s u
  simp only[û] at *
  by_cases j:jo s t=0
  .rw[Ă j] at e ⊢
   by_cases f:jo t u=0
   .rw[Ă f] at d ⊢
    have l:jo s u=0:=by
     have g:=(i (by omega) (by omega)).1
     have w:=(Ef u t s (by omega) (by omega)).1
     omega
    rw[Ă l]
    exact m e d
   rw[Ā f] at d ⊢
   have g:=(i (by omega) d).2 (.inr (by omega))
   rw[Ā (by omega)]
   exact⟨by omega,λ_=>g⟩
  rw[Ā j] at e ⊢
  have f:jo t u<=0:=by
   by_cases f:jo t u=0
   .omega
   rw[Ā f] at d; exact d
  have g:=(i e f).2 (.inl (by omega))
  rw[Ā (by omega)]
  exact⟨by omega,λ_=>g⟩
theorem Bm(p:Ŀ Za):û p p=0:=by have:=si p p; omega
theorem ON{t:Za}{p:Ŀ Za}(h:hV (t::p)=true):jT t.c=true/\hV p=true:=by
 unfold hV at *
 simp only[Ē,Ģ,Ġ,abl] at h ⊢
 exact⟨h.2.1,by omega,h.2.2⟩
theorem Iu:∀ {p q:Ŀ Za},hV p=true->hV q=true->û p q=0->p=q
 | [],[],_,_,_=>rfl
 | [],_::_,_,_,h=>by simp[û] at h
 | _::_,[],_,_,h=>by simp[û] at h
 | s::p,t::q,hp,a,h=>by
  obtain⟨p1,p2⟩:=ON hp
  obtain⟨c,d⟩:=ON a
  simp only[û] at h
  by_cases e:jo s t=0
  .rw[Ă e] at h
   rw[Yh p1 c e,Iu p2 d h]
  rw[Ā e] at h; exact absurd h e
abbrev pe:={ p:Ŀ Za // hV p=true }
theorem LA:Go.Sort.SWO (Go.Proofs.ltOf λa b:pe=>û a.1 b.1) where
 irrefl x:=by show decide (û x.1 x.1<0)=false; rw[Bm]; rfl
 trans x y z c d:=by
  simp only[Go.Proofs.ltOf,Ģ] at *
  exact (zj x.1 y.1 z.1 (by omega) (by omega)).2 (.inl c)
 ntrans x y z c d:=by
  simp only[Go.Proofs.ltOf,ű,abu] at *
  have e:=si x.1 y.1
  have f:=si y.1 z.1
  have g:=si x.1 z.1
  have:=(zj z.1 y.1 x.1 (by omega) (by omega)).1
  omega
theorem JB(x:Ŀ Za):∀ l,(z6 x l).Perm (x::l)
 | []=>ů _
 | y::l=>by
  unfold z6
  split
  .exact ((JB x l).cons y).trans (List.Perm.swap x y l)
  exact ů _
theorem wi:∀ l,(mu l).Perm l
 | []=>ů _
 | x::l=>(JB x (mu l)).trans ((wi l).cons x)
theorem OP(x:Ŀ Za):∀ l,l.Pairwise (λa b=>û a b<=0)->(z6 x l).Pairwise (λa b=>û a b<=0)
 | [],_=>Ť _ _
 | y::l,h=>by
  unfold z6
  obtain⟨d,e⟩:=Ğ.1 h
  have n:=si x y
  split
  .refine Ğ.2 ⟨λz c=>?_,OP x l e⟩
   rcases ą.1 ((JB x l).mem_iff.1 c) with rfl|c
   .omega
   exact d z c
  refine Ğ.2 ⟨λz c=>?_,h⟩
  rcases ą.1 c with rfl|c
  .omega
  exact (zj x y z (by omega) (d z c)).1
theorem HW:∀ l,(mu l).Pairwise (λa b=>û a b<=0)
 | []=>List.Pairwise.nil
 | x::l=>OP x _ (HW l)
theorem NP:∀ {l m:Ŀ (Ŀ Za)},l.Perm m->(∀ p ∈ l,hV p=true)->l.Pairwise (λa b=>û a b<=0)->m.Pairwise (λa b=>û a b<=0)->l=m
 | [],m,h,_,_,_=>(List.Perm.nil_eq h)
 | x::l,[],h,_,_,_=>by have:=h.length_eq; simp at this
 | x::l,y::m,h,d,j,q=>by
  obtain⟨a1,a2⟩:=Ğ.1 j
  obtain⟨g,i⟩:=Ğ.1 q
  have e:x=y:=by
   have f:x ∈ y::m:=h.mem_iff.1 (by simp)
   have c:y ∈ x::l:=h.mem_iff.2 (by simp)
   have r:û x y<=0:=by
    rcases ą.1 c with rfl|c
    .rw[Bm]; exact ň 0
    exact a1 y c
   have s:û y x<=0:=by
    rcases ą.1 f with rfl|f
    .rw[Bm]; exact ň 0
    exact g x f
   have n:=si x y
   exact Iu (d x (by simp)) (d y c) (by omega)
  subst e
  rw[NP (List.Perm.cons_inv h) (λp hp=>d p (by simp[hp])) a2 i]
theorem YU{s t:Za}(a:jT s.c=true)(c:jT t.c=true):(DD s t).ο (jo s t):=by
 unfold DD jo
 by_cases h:s.m=t.m
 .rw[Ă h]
  exact Cq.wp.no (by simpa using h) ⟨_,Qw a c,rfl⟩
 rw[Ā h]
 exact Cq.wp.yes h ⟨_,Hq _ _,rfl⟩
theorem EG{p:Ŀ Za}(h:hV p=true){k:Nat}(a:k<p.length):jT p[k].c=true:=by
 unfold hV at h
 simp only[Ē] at h
 exact Ĕ.1 h.2 _ (Ċ a)
theorem Ek{p:Ŀ Za}(h:hV p=true):p.length<=1000:=by
 unfold hV at h
 simp only[Ē,Ģ] at h
 exact h.1
theorem Pn(p q:Ŀ Za){k:Nat}(hp:k<p.length)(a:k<q.length):û (p.drop k) (q.drop k)=if jo p[k] q[k]=0 then û (p.drop (k+1)) (q.drop (k+1)) else jo p[k] q[k]:=by
 rw[Ĵ hp,Ĵ a]
 rfl
theorem PC{p q:Ŀ Za}(hp:hV p=true)(j:hV q=true):(HJ p q).ο (û p q):=by
 have m:=Ek hp
 have n:=Ek j
 refine⟨û p q,?_,rfl⟩
 unfold Zy
 refine (ZB p q 0).mono (p:=λo=>match o with | .inl v=>v=û p q | .inr ()=>q.length ≥ p.length/\û p q=û [] (q.drop p.length)) (λo h=>?_) (Cq.Zp p.length (λk s=>s=(k:Int)/\k<=p.length/\k<=q.length/\û p q=û (p.drop k) (q.drop k)) ?_ ?_ ⟨rfl,ġ _,ġ _,rfl⟩)
 .match o,h with
  | .inl v,h=>exact h
  | .inr (),⟨i,c⟩=>
   show (Zw p q).ο _
   unfold Zw
   by_cases l:p.length<q.length
   .refine Cq.wp.yes (by omega) ?_
    show (-1:Int)=_
    rw[c,Ĵ l]; rfl
   refine Cq.wp.no (by omega) ?_
   show (0:Int)=_
   rw[c,Ŧ (by omega)]; rfl
 .rintro k s g ⟨rfl,i,c,d⟩
  refine Cq.wp.yes (by omega) ⟨_,â g,?_⟩
  by_cases a:k<q.length
  .refine Cq.wp.no (by omega) ⟨_,â a,_,YU (EG hp g) (EG j a),?_⟩
   have f:=Pn p q g a
   by_cases e:jo p[k] q[k]=0
   .rw[Ă e] at f
    refine Cq.wp.no (by omega) ?_
    exact⟨Β (by omega),by omega,by omega,d.trans f⟩
   rw[Ā e] at f
   refine Cq.wp.yes e ?_
   exact (d.trans f).symm
  refine Cq.wp.yes (by omega) ?_
  show (1:Int)=_
  rw[d,Ĵ g,Ŧ (show q.length<=k by omega)]; rfl
 rintro s ⟨rfl,i,c,d⟩
 refine Cq.wp.no (by omega) ?_
 refine⟨c,?_⟩
 rw[d,Ŧ (č _)]
theorem Pp(y:Ŀ Za):∀ (x:Ŀ Za) (l:Ŀ (Ŀ Za)),mR x (l++[y])=mR x l++(if û y (l.getLastD x)=0 then [] else [y])
 | x,[]=>by
  show mR x [y]=_
  unfold mR
  by_cases h:û y x=0
  .rw[Ă h]; simp[h,mR]
  rw[Ā h]; simp[h,mR]
 | x,z::l=>by
  have a:=Pp y z l
  show mR x (z::(l++[y]))=_
  have e:(z::l).getLastD x=l.getLastD z:=by cases l <;> simp[List.getLastD]
  rw[e]
  simp only[mR]
  split
  .exact a
  rw[a]; rfl
theorem Pq{xs:Ŀ (Ŀ Za)}{j:Nat}(c:1<=j)(a:j<xs.length):jq (xs.take (j+1))=if û xs[j] xs[j-1]=0 then jq (xs.take j) else jq (xs.take j)++[xs[j]]:=by
 match xs,a with
 | x::l,a=>
  obtain⟨i,rfl⟩:∃ i,j=i+1:=⟨j-1,by omega⟩
  have hi:i<l.length:=by simpa using a
  rw[ĩ a]
  simp only[List.take_succ_cons,Ħ,jq,Pp,List.getElem_cons_succ,Nat.add_sub_cancel]
  have e:(l.take i).getLastD x=(x::l)[i]:=by
   cases i with
   | zero=>rfl
   | succ i=>
    rw[List.getLastD_eq_getLast?,List.getLast?_eq_getElem?,Đ]
    rw[show min (i+1) l.length-1=i by omega,List.getElem?_take_of_lt (by omega),Ą (by omega)]
    rfl
  rw[e]
  split <;> simp
theorem QD:∀ {xs:Ŀ (Ŀ Za)},(jq xs).length<=xs.length
 | []=>č _
 | x::l=>by
  have key:∀ (x:Ŀ Za) (l:Ŀ (Ŀ Za)),(mR x l).length<=l.length:=by
   intro x l
   induction l generalizing x with
   | nil=>exact č _
   | cons y l a=>
    unfold mR
    split
    .exact Nat.le_succ_of_le (a y)
    simpa using a y
  simpa [jq] using key x l
theorem Om{xs:Ŀ (Ŀ Za)}(h:xs.length<2):jq xs=xs:=by
 match xs,h with
 | [],_=>rfl
 | [x],_=>rfl
theorem Ya{s t:Za}(a:jT s.c=true)(c:jT t.c=true):(zg s t).ο (decide (jo s t=0)):=by
 unfold zg jo
 by_cases h:s.m=t.m
 .simp only[Ă h]
  exact⟨_,Qw a c,rfl⟩
 simp only[Ā h]
 show false=_
 have:¬ gO s.m t.m=0:=λe=>h (xL e)
 simp[this]
theorem QC:∀ {p q:Ŀ Za},û p q=0->p.length=q.length
 | [],[],_=>rfl
 | [],_::_,h=>by simp[û] at h
 | _::_,[],h=>by simp[û] at h
 | s::p,t::q,h=>by
  simp only[û] at h
  split at h
  .simp[QC h]
  rename_i h'; exact absurd h h'
theorem Ir{p q:Ŀ Za}(hp:hV p=true)(g:hV q=true):(xH p q).ο (decide (û p q=0)):=by
 have l:=Ek hp
 have m:=Ek g
 refine⟨decide (û p q=0),?_,rfl⟩
 unfold Zu
 by_cases j:p.length=q.length
 .refine Cq.wp.no (by omega) ?_
  refine (ZD p q 0).mono (p:=λo=>match o with | .inl v=>v=decide (û p q=0) | .inr ()=>û p q=0) (λo h=>?_) (Cq.Zp p.length (λk s=>s=(k:Int)/\k<=p.length/\û p q=û (p.drop k) (q.drop k)) ?_ ?_ ⟨rfl,ġ _,rfl⟩)
  .match o,h with
   | .inl v,h=>exact h
   | .inr (),h=>show true=_; rw[ē h]
  .rintro k s f ⟨rfl,i,c⟩
   have a:k<q.length:=by omega
   refine Cq.wp.yes (by omega) ⟨_,â f,_,â a,_,Ya (EG hp f) (EG g a),?_⟩
   have d:=Pn p q f a
   by_cases e:jo p[k] q[k]=0
   .rw[Ă e] at d
    rw[ē e]
    exact⟨Β (by omega),by omega,c.trans d⟩
   rw[Ā e] at d
   rw[ċ e]
   show false=_
   rw[c,d,ċ e]
  rintro s ⟨rfl,i,c⟩
  refine Cq.wp.no (by omega) ?_
  show û p q=0
  rw[c,Ŧ (č _),Ŧ (by omega)]
  rfl
 refine Cq.wp.yes (by omega) ?_
 show false=_
 rw[ċ (λh=>j (QC h))]
theorem Y1:(ú 0 100 λn=>match (v7 (u64.wrap n)).ev 30 with|some v=>decide (0<=v/\v<1000000)|none=>false)=true:=by decide +kernel
theorem Y2{n:Nat}(h:n<=100):∃ v,(v7 (u64.wrap (n:Int))).ο v/\0<=v/\v<1000000:=by
 have:=Zv Y1 (show (0:Int)<=(n:Int) by omega) (show (n:Int)<=100 by omega)
 cases a:(v7 (u64.wrap (n:Int))).ev 30 with
 | none=>rw[a] at this; cases this
 | some v=>rw[a] at this; exact⟨v,Cq.ο.rE 30 a,Ĝ this⟩
end Go.EL

namespace Go.Proofs.YtdigmacmdlpckaaGreat
open Go.IntKind (i8 i16 i32 i64 u8 u16 u32 u64)
open Go.Proofs.Tryz
open Go Go.EL Go.RowKit Go.Proofs
abbrev i'(x:Int):Value:=.int .i64 x
abbrev sl{α:Type}(r:Rp α)(G:Mem)(p:ŀ Addr)(c:Nat)(xs:Ŀ α):Prop:=ë r G (.slice p xs.length c) xs
abbrev uw(x:Zx)(c:ŀ Addr)(a:Nat):Ŀ Value:=[.int .u8 x.kind,.int .u8 x.a,.int .u8 x.b,.int .u8 x.n,.slice c x.p.t.length a]
abbrev C6(x:ZK)(c:ŀ Addr)(a:Nat)(e:ŀ Addr)(d:Nat)(g:ŀ Addr)(f:Nat):Ŀ Value:=[.slice c x.base.length a,.slice e x.a.length d,.slice g x.b.length f]
abbrev ι(x:Zi)(c:ŀ Addr)(a:Nat):Ŀ Value:=[.bool x.neg,.slice c x.Α.length a]
abbrev jb(x:Zi):Mem->Value->Prop:=λG v=>∃ a c,v = .agg ((ι x a c)).toArray/\sl (Rp.int .u32) G a c x.Α
abbrev χ(x:Zj)(e:ŀ Addr)(d:Nat)(c:ŀ Addr)(a:Nat):Ŀ Value:=[.bool x.num.neg,.slice e x.num.Α.length d,.bool x.den.neg,.slice c x.den.Α.length a]
abbrev lq(x:Zj):Mem->Value->Prop:=λG v=>∃ a c d e,v = .agg ((χ x a c d e)).toArray/\sl (Rp.int .u32) G a c x.num.Α/\sl (Rp.int .u32) G d e x.den.Α
abbrev Da(x:Zj×Int):Mem->Value->Prop:=λG v=>∃ a c d e,v = .tuple #[.agg ((χ x.1 a c d e)).toArray,i' x.2]/\sl (Rp.int .u32) G a c x.1.num.Α/\sl (Rp.int .u32) G d e x.1.den.Α
abbrev þ{α:Type}(i:Int)(p:ŀ Addr)(xs:Ŀ α)(c:Nat):Ŀ Value:=[.int .i64 i,.slice p xs.length c]
abbrev Ρ(x:Zb)(e:ŀ Addr)(d:Nat)(g:ŀ Addr)(f:Nat)(c:ŀ Addr)(a:Nat):Ŀ Value:=[.slice e x.vars.length d,.slice g x.eqs.length f,.slice c x.ζ.length a,.int .i64 x.next]
abbrev mI(x:Zb):Mem->Value->Prop:=λG v=>∃ a c d e f g,v = .agg ((Ρ x a c d e f g)).toArray/\sl Rp.str G a c x.vars/\sl Zz G d e x.eqs/\sl Zz G f g x.ζ
abbrev mJ(x:Zb×Int):Mem->Value->Prop:=λG v=>∃ a c d e f g,v = .tuple #[.agg ((Ρ x.1 a c d e f g)).toArray,i' x.2]/\sl Rp.str G a c x.1.vars/\sl Zz G d e x.1.eqs/\sl Zz G f g x.1.ζ
abbrev lF(x:Zb×Int×Int):Mem->Value->Prop:=λG v=>∃ a c d e f g,v = .tuple #[.agg ((Ρ x.1 a c d e f g)).toArray,i' x.2.1,i' x.2.2]/\sl Rp.str G a c x.1.vars/\sl Zz G d e x.1.eqs/\sl Zz G f g x.1.ζ
abbrev l8(x:Zm)(e:ŀ Addr)(d:Nat)(c:ŀ Addr)(a:Nat):Ŀ Value:=[.int .i64 x.n,.slice e x.eqs.length d,.slice c x.ζ.length a]
abbrev C9(x:Zm):Mem->Value->Prop:=λG v=>∃ a c d e,v = .agg ((l8 x a c d e)).toArray/\sl (Rp.sl Zo) G a c x.eqs/\sl (Rp.sl Zo) G d e x.ζ
abbrev qL(x:Zm×Int):Mem->Value->Prop:=λG v=>∃ a c d e,v = .tuple #[.agg ((l8 x.1 a c d e)).toArray,i' x.2]/\sl (Rp.sl Zo) G a c x.1.eqs/\sl (Rp.sl Zo) G d e x.1.ζ
abbrev C7(x:Zg)(i:ŀ Addr)(h:Nat)(e:ŀ Addr)(d:Nat)(g:ŀ Addr)(f:Nat)(c:ŀ Addr)(a:Nat):Ŀ Value:=[.int .i64 x.id,.slice i x.entry.p.length h,.bool x.entry.neq,.slice e x.à.vars.length d,.slice g x.à.eqs.length f,.slice c x.à.ζ.length a,.int .i64 x.à.next]
abbrev vR(x:ZQ)(c:ŀ Addr)(a:Nat)(e:ŀ Addr)(d:Nat):Ŀ Value:=[.slice c x.à.length a,.slice e x.ll.length d]
abbrev kL(x:Zh)(c:ŀ Addr)(a:Nat):Ŀ Value:=[.int .i64 x.kind,.string x.name,.int .i64 x.Ζ,.int .i64 x.ll,.int .i64 x.id,.slice c x.p.length a,.bool x.neq]
abbrev r0(x:Zh):Mem->Value->Prop:=λG v=>∃ a c,v = .agg ((kL x a c)).toArray/\sl Zo G a c x.p
abbrev rY(x:ZI)(e:ŀ Addr)(d:Nat)(g:ŀ Addr)(f:Nat)(c:ŀ Addr)(a:Nat):Ŀ Value:=[.slice e x.s.vars.length d,.slice g x.s.eqs.length f,.slice c x.s.ζ.length a,.int .i64 x.s.next,.int .i64 x.n,.int .i64 x.e]
abbrev C8(x:ZI):Mem->Value->Prop:=λG v=>∃ a c d e f g,v = .agg ((rY x a c d e f g)).toArray/\sl Rp.str G a c x.s.vars/\sl Zz G d e x.s.eqs/\sl Zz G f g x.s.ζ
abbrev jx{α:Type}(R:Rp α)(x:Ŀ α):Mem->Value->Prop:=λG v=>∃ a c,v = .slice a x.length c/\sl @R G a c x
abbrev ny{α:Type}(R:Rp α)(x:Ŀ α×Int):Mem->Value->Prop:=λG v=>∃ a c,v = .tuple #[.slice a x.1.length c,i' x.2]/\sl @R G a c x.1
abbrev ff:=false
abbrev tt:=true
abbrev Ι(f:Fin 8->Int):Ŀ Value:=í (Value.int .i64) 8 f
abbrev ε{α:Type}(p:ŀ Addr)(l:Ŀ α)(c:Nat):Value:=.slice p l.length c
theorem Μ{P:Program}{N:Nat}{fn:Func}{w0:Bs}{G0 G:Mem}{L:Lo}{fr:Fr}{a:ResultVar}{α:Type}{f:α->Value}{x r:α}(e:x=r)(d:fn.results = #[a])(c:RV P fr L a (f x)):WE N (bodyPost P fn (me w0 G0 λ_ _ v=>v=f r)) .ret fr (St w0 G0 G L):=e ▸ WE.mw d c rfl
abbrev Ξ(b:Nat)(c:Ŀ Value)(t:TypeId):ŀ Ow:=some ⟨b,.cells c.toArray t (0,0),0⟩
abbrev Τ(b:Nat):Value:=.pointer (some ⟨b,0,none⟩)
abbrev od(G:Mem)(p:ŀ Addr)(c:Nat)(q:ŀ Addr)(d:Nat)(r:ŀ Addr)(e:Nat)(x:Zb):Prop:=sl Rp.str G p c x.vars/\sl Zz G q d x.eqs/\sl Zz G r e x.ζ
theorem f1{f:Fr}{a0:Nat}{a:Value}(c:f.get a0=some a):Fr.sub [(a0,a)] f:=Fr.Ze c (Fr.Zs f)
theorem f2{f:Fr}{a0:Nat}{a:Value}{a1:Nat}{c:Value}(d:f.get a0=some a)(e:f.get a1=some c):Fr.sub [(a0,a),(a1,c)] f:=Fr.Ze d (Fr.Ze e (Fr.Zs f))
theorem f3{f:Fr}{a0:Nat}{a:Value}{a1:Nat}{c:Value}{a2:Nat}{d:Value}(e:f.get a0=some a)(g:f.get a1=some c)(h:f.get a2=some d):Fr.sub [(a0,a),(a1,c),(a2,d)] f:=Fr.Ze e (Fr.Ze g (Fr.Ze h (Fr.Zs f)))
theorem f4{f:Fr}{a0:Nat}{a:Value}{a1:Nat}{c:Value}{a2:Nat}{d:Value}{a3:Nat}{e:Value}(g:f.get a0=some a)(h:f.get a1=some c)(i:f.get a2=some d)(j:f.get a3=some e):Fr.sub [(a0,a),(a1,c),(a2,d),(a3,e)] f:=Fr.Ze g (Fr.Ze h (Fr.Ze i (Fr.Ze j (Fr.Zs f))))
theorem f5{f:Fr}{a0:Nat}{a:Value}{a1:Nat}{c:Value}{a2:Nat}{d:Value}{a3:Nat}{e:Value}{a4:Nat}{g:Value}(h:f.get a0=some a)(i:f.get a1=some c)(j:f.get a2=some d)(l:f.get a3=some e)(m:f.get a4=some g):Fr.sub [(a0,a),(a1,c),(a2,d),(a3,e),(a4,g)] f:=Fr.Ze h (Fr.Ze i (Fr.Ze j (Fr.Ze l (Fr.Ze m (Fr.Zs f)))))
theorem f6{f:Fr}{a0:Nat}{a:Value}{a1:Nat}{c:Value}{a2:Nat}{d:Value}{a3:Nat}{e:Value}{a4:Nat}{g:Value}{a5:Nat}{h:Value}(i:f.get a0=some a)(j:f.get a1=some c)(l:f.get a2=some d)(m:f.get a3=some e)(n:f.get a4=some g)(p:f.get a5=some h):Fr.sub [(a0,a),(a1,c),(a2,d),(a3,e),(a4,g),(a5,h)] f:=Fr.Ze i (Fr.Ze j (Fr.Ze l (Fr.Ze m (Fr.Ze n (Fr.Ze p (Fr.Zs f))))))
theorem f7{f:Fr}{a0:Nat}{a:Value}{a1:Nat}{c:Value}{a2:Nat}{d:Value}{a3:Nat}{e:Value}{a4:Nat}{g:Value}{a5:Nat}{h:Value}{a6:Nat}{i:Value}(j:f.get a0=some a)(l:f.get a1=some c)(m:f.get a2=some d)(n:f.get a3=some e)(p:f.get a4=some g)(q:f.get a5=some h)(r:f.get a6=some i):Fr.sub [(a0,a),(a1,c),(a2,d),(a3,e),(a4,g),(a5,h),(a6,i)] f:=Fr.Ze j (Fr.Ze l (Fr.Ze m (Fr.Ze n (Fr.Ze p (Fr.Ze q (Fr.Ze r (Fr.Zs f)))))))
theorem f8{f:Fr}{a0:Nat}{a:Value}{a1:Nat}{c:Value}{a2:Nat}{d:Value}{a3:Nat}{e:Value}{a4:Nat}{g:Value}{a5:Nat}{h:Value}{a6:Nat}{i:Value}{a7:Nat}{j:Value}(l:f.get a0=some a)(m:f.get a1=some c)(n:f.get a2=some d)(p:f.get a3=some e)(q:f.get a4=some g)(r:f.get a5=some h)(s:f.get a6=some i)(t:f.get a7=some j):Fr.sub [(a0,a),(a1,c),(a2,d),(a3,e),(a4,g),(a5,h),(a6,i),(a7,j)] f:=Fr.Ze l (Fr.Ze m (Fr.Ze n (Fr.Ze p (Fr.Ze q (Fr.Ze r (Fr.Ze s (Fr.Ze t (Fr.Zs f))))))))
theorem f9{f:Fr}{a0:Nat}{a:Value}{a1:Nat}{c:Value}{a2:Nat}{d:Value}{a3:Nat}{e:Value}{a4:Nat}{g:Value}{a5:Nat}{h:Value}{a6:Nat}{i:Value}{a7:Nat}{j:Value}{a8:Nat}{l:Value}(m:f.get a0=some a)(n:f.get a1=some c)(p:f.get a2=some d)(q:f.get a3=some e)(r:f.get a4=some g)(s:f.get a5=some h)(t:f.get a6=some i)(u:f.get a7=some j)(v:f.get a8=some l):Fr.sub [(a0,a),(a1,c),(a2,d),(a3,e),(a4,g),(a5,h),(a6,i),(a7,j),(a8,l)] f:=Fr.Ze m (Fr.Ze n (Fr.Ze p (Fr.Ze q (Fr.Ze r (Fr.Ze s (Fr.Ze t (Fr.Ze u (Fr.Ze v (Fr.Zs f)))))))))
theorem f10{f:Fr}{a0:Nat}{c:Value}{a1:Nat}{d:Value}{a2:Nat}{e:Value}{a3:Nat}{g:Value}{a4:Nat}{h:Value}{a5:Nat}{i:Value}{a6:Nat}{j:Value}{a7:Nat}{l:Value}{a8:Nat}{m:Value}{a:Nat}{n:Value}(p:f.get a0=some c)(q:f.get a1=some d)(r:f.get a2=some e)(s:f.get a3=some g)(t:f.get a4=some h)(u:f.get a5=some i)(v:f.get a6=some j)(w:f.get a7=some l)(y:f.get a8=some m)(A:f.get a=some n):Fr.sub [(a0,c),(a1,d),(a2,e),(a3,g),(a4,h),(a5,i),(a6,j),(a7,l),(a8,m),(a,n)] f:=Fr.Ze p (Fr.Ze q (Fr.Ze r (Fr.Ze s (Fr.Ze t (Fr.Ze u (Fr.Ze v (Fr.Ze w (Fr.Ze y (Fr.Ze A (Fr.Zs f))))))))))
theorem f11{f:Fr}{a0:Nat}{g:Value}{a1:Nat}{h:Value}{a2:Nat}{i:Value}{a3:Nat}{j:Value}{a4:Nat}{l:Value}{a5:Nat}{m:Value}{a6:Nat}{n:Value}{a7:Nat}{p:Value}{a8:Nat}{q:Value}{e:Nat}{r:Value}{a:Nat}{c:Value}(s:f.get a0=some g)(t:f.get a1=some h)(u:f.get a2=some i)(v:f.get a3=some j)(w:f.get a4=some l)(y:f.get a5=some m)(A:f.get a6=some n)(B:f.get a7=some p)(C:f.get a8=some q)(D:f.get e=some r)(d:f.get a=some c):Fr.sub [(a0,g),(a1,h),(a2,i),(a3,j),(a4,l),(a5,m),(a6,n),(a7,p),(a8,q),(e,r),(a,c)] f:=Fr.Ze s (Fr.Ze t (Fr.Ze u (Fr.Ze v (Fr.Ze w (Fr.Ze y (Fr.Ze A (Fr.Ze B (Fr.Ze C (Fr.Ze D (Fr.Ze d (Fr.Zs f)))))))))))
theorem f12{f:Fr}{a0:Nat}{j:Value}{a1:Nat}{l:Value}{a2:Nat}{m:Value}{a3:Nat}{n:Value}{a4:Nat}{p:Value}{a5:Nat}{q:Value}{a6:Nat}{r:Value}{a7:Nat}{s:Value}{a8:Nat}{t:Value}{i:Nat}{u:Value}{a:Nat}{d:Value}{c:Nat}{e:Value}(v:f.get a0=some j)(w:f.get a1=some l)(y:f.get a2=some m)(A:f.get a3=some n)(B:f.get a4=some p)(C:f.get a5=some q)(D:f.get a6=some r)(E:f.get a7=some s)(F:f.get a8=some t)(G:f.get i=some u)(g:f.get a=some d)(h:f.get c=some e):Fr.sub [(a0,j),(a1,l),(a2,m),(a3,n),(a4,p),(a5,q),(a6,r),(a7,s),(a8,t),(i,u),(a,d),(c,e)] f:=Fr.Ze v (Fr.Ze w (Fr.Ze y (Fr.Ze A (Fr.Ze B (Fr.Ze C (Fr.Ze D (Fr.Ze E (Fr.Ze F (Fr.Ze G (Fr.Ze g (Fr.Ze h (Fr.Zs f))))))))))))
theorem f13{f:Fr}{a0:Nat}{n:Value}{a1:Nat}{p:Value}{a2:Nat}{q:Value}{a3:Nat}{r:Value}{a4:Nat}{s:Value}{a5:Nat}{t:Value}{a6:Nat}{u:Value}{a7:Nat}{v:Value}{a8:Nat}{w:Value}{m:Nat}{y:Value}{a:Nat}{e:Value}{c:Nat}{g:Value}{d:Nat}{h:Value}(A:f.get a0=some n)(B:f.get a1=some p)(C:f.get a2=some q)(D:f.get a3=some r)(E:f.get a4=some s)(F:f.get a5=some t)(G:f.get a6=some u)(H:f.get a7=some v)(I:f.get a8=some w)(J:f.get m=some y)(i:f.get a=some e)(j:f.get c=some g)(l:f.get d=some h):Fr.sub [(a0,n),(a1,p),(a2,q),(a3,r),(a4,s),(a5,t),(a6,u),(a7,v),(a8,w),(m,y),(a,e),(c,g),(d,h)] f:=Fr.Ze A (Fr.Ze B (Fr.Ze C (Fr.Ze D (Fr.Ze E (Fr.Ze F (Fr.Ze G (Fr.Ze H (Fr.Ze I (Fr.Ze J (Fr.Ze i (Fr.Ze j (Fr.Ze l (Fr.Zs f)))))))))))))
theorem f14{f:Fr}{a0:Nat}{r:Value}{a1:Nat}{s:Value}{a2:Nat}{t:Value}{a3:Nat}{u:Value}{a4:Nat}{v:Value}{a5:Nat}{w:Value}{a6:Nat}{y:Value}{a7:Nat}{A:Value}{a8:Nat}{B:Value}{q:Nat}{C:Value}{a:Nat}{g:Value}{c:Nat}{h:Value}{d:Nat}{i:Value}{e:Nat}{j:Value}(D:f.get a0=some r)(E:f.get a1=some s)(F:f.get a2=some t)(G:f.get a3=some u)(H:f.get a4=some v)(I:f.get a5=some w)(J:f.get a6=some y)(K:f.get a7=some A)(L:f.get a8=some B)(N:f.get q=some C)(l:f.get a=some g)(m:f.get c=some h)(n:f.get d=some i)(p:f.get e=some j):Fr.sub [(a0,r),(a1,s),(a2,t),(a3,u),(a4,v),(a5,w),(a6,y),(a7,A),(a8,B),(q,C),(a,g),(c,h),(d,i),(e,j)] f:=Fr.Ze D (Fr.Ze E (Fr.Ze F (Fr.Ze G (Fr.Ze H (Fr.Ze I (Fr.Ze J (Fr.Ze K (Fr.Ze L (Fr.Ze N (Fr.Ze l (Fr.Ze m (Fr.Ze n (Fr.Ze p (Fr.Zs f))))))))))))))
theorem f15{f:Fr}{a0:Nat}{u:Value}{a1:Nat}{v:Value}{a2:Nat}{w:Value}{a3:Nat}{y:Value}{a4:Nat}{A:Value}{a5:Nat}{B:Value}{a6:Nat}{C:Value}{a7:Nat}{D:Value}{a8:Nat}{E:Value}{t:Nat}{F:Value}{a:Nat}{h:Value}{c:Nat}{i:Value}{d:Nat}{j:Value}{e:Nat}{l:Value}{g:Nat}{m:Value}(G:f.get a0=some u)(H:f.get a1=some v)(I:f.get a2=some w)(J:f.get a3=some y)(K:f.get a4=some A)(L:f.get a5=some B)(N:f.get a6=some C)(O:f.get a7=some D)(P:f.get a8=some E)(Q:f.get t=some F)(n:f.get a=some h)(p:f.get c=some i)(q:f.get d=some j)(r:f.get e=some l)(s:f.get g=some m):Fr.sub [(a0,u),(a1,v),(a2,w),(a3,y),(a4,A),(a5,B),(a6,C),(a7,D),(a8,E),(t,F),(a,h),(c,i),(d,j),(e,l),(g,m)] f:=Fr.Ze G (Fr.Ze H (Fr.Ze I (Fr.Ze J (Fr.Ze K (Fr.Ze L (Fr.Ze N (Fr.Ze O (Fr.Ze P (Fr.Ze Q (Fr.Ze n (Fr.Ze p (Fr.Ze q (Fr.Ze r (Fr.Ze s (Fr.Zs f)))))))))))))))
theorem f16{f:Fr}{a0:Nat}{y:Value}{a1:Nat}{A:Value}{a2:Nat}{B:Value}{a3:Nat}{C:Value}{a4:Nat}{D:Value}{a5:Nat}{E:Value}{a6:Nat}{F:Value}{a7:Nat}{G:Value}{a8:Nat}{H:Value}{w:Nat}{I:Value}{a:Nat}{i:Value}{c:Nat}{j:Value}{d:Nat}{l:Value}{e:Nat}{m:Value}{g:Nat}{n:Value}{h:Nat}{p:Value}(J:f.get a0=some y)(K:f.get a1=some A)(L:f.get a2=some B)(N:f.get a3=some C)(O:f.get a4=some D)(P:f.get a5=some E)(Q:f.get a6=some F)(R:f.get a7=some G)(S:f.get a8=some H)(T:f.get w=some I)(q:f.get a=some i)(r:f.get c=some j)(s:f.get d=some l)(t:f.get e=some m)(u:f.get g=some n)(v:f.get h=some p):Fr.sub [(a0,y),(a1,A),(a2,B),(a3,C),(a4,D),(a5,E),(a6,F),(a7,G),(a8,H),(w,I),(a,i),(c,j),(d,l),(e,m),(g,n),(h,p)] f:=Fr.Ze J (Fr.Ze K (Fr.Ze L (Fr.Ze N (Fr.Ze O (Fr.Ze P (Fr.Ze Q (Fr.Ze R (Fr.Ze S (Fr.Ze T (Fr.Ze q (Fr.Ze r (Fr.Ze s (Fr.Ze t (Fr.Ze u (Fr.Ze v (Fr.Zs f))))))))))))))))
theorem w1{w0:Bs}{G0 G:Mem}{L:Lo}{a0:Nat}{a:ŀ Ow}(c:L.get a0=a):∀ w,St w0 G0 G L w->St w0 G0 G [(a0,a)] w:=wk (Lo.Ze c (Lo.Zs L))
theorem w2{w0:Bs}{G0 G:Mem}{L:Lo}{a0:Nat}{a:ŀ Ow}{a1:Nat}{c:ŀ Ow}(d:L.get a0=a)(e:L.get a1=c):∀ w,St w0 G0 G L w->St w0 G0 G [(a0,a),(a1,c)] w:=wk (Lo.Ze d (Lo.Ze e (Lo.Zs L)))
theorem w3{w0:Bs}{G0 G:Mem}{L:Lo}{a0:Nat}{a:ŀ Ow}{a1:Nat}{c:ŀ Ow}{a2:Nat}{d:ŀ Ow}(e:L.get a0=a)(f:L.get a1=c)(g:L.get a2=d):∀ w,St w0 G0 G L w->St w0 G0 G [(a0,a),(a1,c),(a2,d)] w:=wk (Lo.Ze e (Lo.Ze f (Lo.Ze g (Lo.Zs L))))
theorem w4{w0:Bs}{G0 G:Mem}{L:Lo}{a0:Nat}{a:ŀ Ow}{a1:Nat}{c:ŀ Ow}{a2:Nat}{d:ŀ Ow}{a3:Nat}{e:ŀ Ow}(f:L.get a0=a)(g:L.get a1=c)(h:L.get a2=d)(i:L.get a3=e):∀ w,St w0 G0 G L w->St w0 G0 G [(a0,a),(a1,c),(a2,d),(a3,e)] w:=wk (Lo.Ze f (Lo.Ze g (Lo.Ze h (Lo.Ze i (Lo.Zs L)))))
theorem w5{w0:Bs}{G0 G:Mem}{L:Lo}{a0:Nat}{a:ŀ Ow}{a1:Nat}{c:ŀ Ow}{a2:Nat}{d:ŀ Ow}{a3:Nat}{e:ŀ Ow}{a4:Nat}{f:ŀ Ow}(g:L.get a0=a)(h:L.get a1=c)(i:L.get a2=d)(j:L.get a3=e)(l:L.get a4=f):∀ w,St w0 G0 G L w->St w0 G0 G [(a0,a),(a1,c),(a2,d),(a3,e),(a4,f)] w:=wk (Lo.Ze g (Lo.Ze h (Lo.Ze i (Lo.Ze j (Lo.Ze l (Lo.Zs L))))))
theorem w6{w0:Bs}{G0 G:Mem}{L:Lo}{a0:Nat}{a:ŀ Ow}{a1:Nat}{c:ŀ Ow}{a2:Nat}{d:ŀ Ow}{a3:Nat}{e:ŀ Ow}{a4:Nat}{f:ŀ Ow}{a5:Nat}{g:ŀ Ow}(h:L.get a0=a)(i:L.get a1=c)(j:L.get a2=d)(l:L.get a3=e)(m:L.get a4=f)(n:L.get a5=g):∀ w,St w0 G0 G L w->St w0 G0 G [(a0,a),(a1,c),(a2,d),(a3,e),(a4,f),(a5,g)] w:=wk (Lo.Ze h (Lo.Ze i (Lo.Ze j (Lo.Ze l (Lo.Ze m (Lo.Ze n (Lo.Zs L)))))))
theorem w7{w0:Bs}{G0 G:Mem}{L:Lo}{a0:Nat}{a:ŀ Ow}{a1:Nat}{c:ŀ Ow}{a2:Nat}{d:ŀ Ow}{a3:Nat}{e:ŀ Ow}{a4:Nat}{f:ŀ Ow}{a5:Nat}{g:ŀ Ow}{a6:Nat}{h:ŀ Ow}(i:L.get a0=a)(j:L.get a1=c)(l:L.get a2=d)(m:L.get a3=e)(n:L.get a4=f)(p:L.get a5=g)(q:L.get a6=h):∀ w,St w0 G0 G L w->St w0 G0 G [(a0,a),(a1,c),(a2,d),(a3,e),(a4,f),(a5,g),(a6,h)] w:=wk (Lo.Ze i (Lo.Ze j (Lo.Ze l (Lo.Ze m (Lo.Ze n (Lo.Ze p (Lo.Ze q (Lo.Zs L))))))))
theorem w8{w0:Bs}{G0 G:Mem}{L:Lo}{a0:Nat}{a:ŀ Ow}{a1:Nat}{c:ŀ Ow}{a2:Nat}{d:ŀ Ow}{a3:Nat}{e:ŀ Ow}{a4:Nat}{f:ŀ Ow}{a5:Nat}{g:ŀ Ow}{a6:Nat}{h:ŀ Ow}{a7:Nat}{i:ŀ Ow}(j:L.get a0=a)(l:L.get a1=c)(m:L.get a2=d)(n:L.get a3=e)(p:L.get a4=f)(q:L.get a5=g)(r:L.get a6=h)(s:L.get a7=i):∀ w,St w0 G0 G L w->St w0 G0 G [(a0,a),(a1,c),(a2,d),(a3,e),(a4,f),(a5,g),(a6,h),(a7,i)] w:=wk (Lo.Ze j (Lo.Ze l (Lo.Ze m (Lo.Ze n (Lo.Ze p (Lo.Ze q (Lo.Ze r (Lo.Ze s (Lo.Zs L)))))))))
abbrev a':=@WE.then
abbrev b':=@WE.kY
abbrev c':=@WC.seq
abbrev f':=@Y0.gN
abbrev g':=@WE.ã
abbrev h':=@Y0.move
abbrev j':=@Zz
abbrev k':=@WE.mw
abbrev m':=@WC.ret
abbrev n':=@Zo
abbrev o':=@WC.skip
abbrev p':=@WC.region
abbrev q':=@WL.nil
abbrev t':=@underlying93
abbrev w':=@Y0.js
abbrev x':=@YC.of
abbrev y':=@WL.jw
abbrev A':=@WE.inBlock
abbrev B':=@WE.kF
abbrev C':=@Y0.rS
abbrev D':=@Y0.rR
abbrev E':=@ä.enter
abbrev F':=@underlying49
abbrev H':=@WE.Ö
abbrev I':=@WL.nf
abbrev J':=@WC.cr
abbrev K':=@WE.B3
abbrev M':=@ZG
abbrev N':=@Y0.K9
abbrev O':=@Y0.add
abbrev P':=@Y0.extract
abbrev Q':=@underlying26
abbrev R':=@At.mono
abbrev T':=@WL.alloc
abbrev U':=@WL.call
abbrev V':=@WC.block
abbrev W':=@I7
abbrev X':=@Y0.tT
abbrev Y':=@underlying212
abbrev Z':=@WC.CK
abbrev Æ:=@WC.exit
abbrev nb:=@Y0.lss
abbrev jG:=@underlying27
abbrev Ë:=@WE.KR
abbrev ý:=@WL.box
abbrev nq:=@underlying250
abbrev Á:=@ë.at
abbrev gZ:=@Y0.yF
abbrev jz:=@η.om
abbrev hZ:=@WC.drawn
abbrev kB:=@MU
abbrev il:=@Y0.kU
abbrev hQ:=@RV.tE
abbrev lK:=@underlying99
abbrev gi:=@ë.nil
abbrev hC:=@ZuW
abbrev jE:=@ND
abbrev jk:=@Y0.Kk
abbrev ia:=@WE.pZ
abbrev Ζ:=@underlying37
abbrev gP:=@Y0.not
abbrev fh:=@WE.nx
abbrev ÿ:=@Kr
abbrev jF:=@Y0.conv
abbrev iK:=@Y0.build
abbrev jl:=@WE.yA
abbrev jC:=@Y0.re
abbrev iS:=@WC.tK
abbrev eZ:=@WL.cr
abbrev Ò:=@yh
abbrev nQ:=@underlying3
abbrev kq:=@WL.Ì
abbrev iC:=@WC.crB
abbrev lH:=@AtK.int
abbrev iI:=@Y0.eql
abbrev mL:=@η.rJ
abbrev kN:=@WL.iE
abbrev jD:=@WL.skip
abbrev nN:=@Hz
abbrev jL:=@WL.rb
abbrev lV:=@Y0.Rj
abbrev mM:=@Y0.Rz
abbrev lI:=@Y0.Zvh
abbrev kz:=@w9
abbrev k0:=@Y0.jH
abbrev qV:=@Y0.pT
abbrev lJ:=@WC.qD
abbrev k5:=@WC.Lv
abbrev pJ:=@underlying5
abbrev yf:=@underlying129
abbrev qq:=@underlying9
abbrev mf:=@Y0.Zvi
abbrev nU:=@Y0.sub
abbrev kr:=@Y0.gtr
abbrev nt:=@WL.vj
abbrev kO:=@Y0.geq
abbrev mN:=@Y0.Zvj
abbrev jA:=@uo
abbrev pM:=@MV
abbrev jm:=@yJ
abbrev iL:=@B0
abbrev l5:=@WE.Lp
abbrev ly:=@Y0.neq
abbrev oy:=@Y0.RB
abbrev oq:=@Y0.Ri
abbrev mh:=@BQ
abbrev mi:=@AtK.via
abbrev rH:=@underlying42
abbrev oZ:=@WE.Ì
abbrev jB:=@LB
abbrev nO:=@WL.lW
abbrev qz:=@ò.enter
abbrev pr:=@Xc
abbrev sp:=@WL.storeT
abbrev sM:=@underlying125
abbrev nD:=@wV
abbrev oX:=@ü.rP
abbrev jV:=@Ls
abbrev kf:=@BZ
abbrev sm:=@η.tC
abbrev rG:=@η.yR
abbrev pj:=@xR
abbrev pk:=@Y0.ZuC
abbrev pn:=@Y0.RA
abbrev pL:=@Y0.ZuE
abbrev oY:=@Y0.Zvl
abbrev tv:=@underlying32
abbrev lx:=@LG
abbrev tw:=@u7
abbrev pq:=@Y0.Zvk
abbrev qN:=@η.CV
abbrev qX:=@WL.kT
abbrev lr:=@Lr
abbrev oI:=@Y0.rem
abbrev vl:=@underlying4
abbrev sn:=@η.nf
abbrev oo:=@Y0.leq
abbrev uN:=@U5
abbrev qY:=@η.ux
abbrev sP:=@η.k8
abbrev qP:=@I6
abbrev qQ:=@AtK.str
abbrev qC:=@Tok.full
abbrev wD:=@underlying63
abbrev pP:=@AtK.snd
abbrev sQ:=@NM
abbrev uP:=@η.La
abbrev qR:=@zw
abbrev su:=@η.cr
abbrev ng:=@LC
abbrev uQ:=@η.alloc
abbrev tM:=@Lo.tg
abbrev pt:=@Rp.vec
abbrev oz:=@tl
abbrev vn:=@η.pS
abbrev oM:=@Y0.eq
abbrev RM:=@Y0.loadT
abbrev qO:=@AtK.fst
abbrev tx:=@Lo.Zu2
abbrev sN:=@Y0.Zvm
abbrev qA:=@AtK.sl
abbrev yl:=@η.float
abbrev rI:=@WE.Lq
abbrev RN:=@Η.at
abbrev wA:=@ZT
abbrev tz:=@ë.eqv
abbrev tA:=@ë.SG
abbrev B4:=@underlying181
abbrev sO:=@AtK.vec
abbrev sv:=@WL.FU
abbrev wF:=@WL.lQ
abbrev wG:=@WL.CI
abbrev wH:=@WL.makeMap
abbrev wI:=@Xz
abbrev wJ:=@Y0.ZuA
abbrev vp:=@Y0.mul
abbrev yz:=@Y0.yD
abbrev wK:=@Η.zero
abbrev uR:=@Y0.shr
abbrev wL:=@WL.yG
abbrev FE:=@underlying205
abbrev FF:=@underlying189
abbrev vr:=@jc.back
abbrev FG:=@underlying127
abbrev Fw:=@underlying68
abbrev Fx:=@underlying22
abbrev Fy:=@underlying59
abbrev yu:=@Y0.quo
abbrev wE:=@Y0.index
abbrev FA:=@underlying2
abbrev yv:=@WL.ph
abbrev vo:=@jc.one
abbrev yw:=@ü.mono
abbrev Cb:=@je.forget
abbrev zT:=@WL.vD
abbrev zU:=@Y0.ZuB
abbrev FJ:=@WE.n0
abbrev FK:=@WE.nI
abbrev zY:=@WL.ym
abbrev KO:=@underlying137
abbrev KP:=@underlying225
abbrev KQ:=@underlying108
abbrev KV:=@underlying89
abbrev Cx:=@Y0.ZuJ
abbrev KW:=@WE.vx
abbrev Cy:=@Y0.ZuD
end Go.Proofs.YtdigmacmdlpckaaGreat

