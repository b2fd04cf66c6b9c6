/- The law TaskLearns holds for every input: a part of its proof (fW the code does, plain models, and fW they return). No condition. -/
import Derived.Test.YtepbagkffgddlaaGreatXL10c
import Derived.Test.YtepbagkffgddlaaGreatXL10b
set_option linter.unusedVariables false
set_option linter.unusedSimpArgs false
namespace Go.EL
open Go.IntKind (i8 i16 i32 i64 u8 u16 u32 u64)
open Go Go.EL Go.RowKit Go.Proofs
def fu(c:Zf):Bool:=match c.num.χ,c.den.χ with
 |[w],[d]=>!c.den.neg&&decide (d=1)&&decide (1<=w)&&decide (w<=12)
 |_,_=>false
def Í(c:Zf):Int:=if c.num.neg=true then-c.num.χ.headD 0 else c.num.χ.headD 0
def fF(s t:Za):Int:=if s.m=t.m then(if Í s.c<Í t.c then -1 else if Í s.c=Í t.c then 0 else 1)else Ú s.m t.m
def ë:Ŀ Za->Ŀ Za->Int
 |[],[]=>0
 |[],_::_=>-1
 |_::_,[]=>1
 |s::p,t::q=>if fF s t=0 then ë p q else fF s t
def Ð(p:Ŀ Za):Bool:=decide (p.length<=1000)&&p.all λt=>fu t.c
def zT(x:Ŀ Za):Ŀ (Ŀ Za)->Ŀ (Ŀ Za)
 |[]=>[x]
 |y::l=>if 0<ë x y then y::zT x l else x::y::l
def jE(l:Ŀ (Ŀ Za)):Ŀ (Ŀ Za):=l.foldr zT []
def jV(x:Ŀ Za):Ŀ (Ŀ Za)->Ŀ (Ŀ Za)
 |[]=>[]
 |y::l=>if ë y x=0 then jV y l else y::jV y l
def gk:Ŀ (Ŀ Za)->Ŀ (Ŀ Za)
 |[]=>[]
 |x::l=>x::jV x l
def Ef(l:Ŀ (Ŀ Za)):Cq (Ŀ (Ŀ Za)):=Cq.ê (l.length<=100/\l.all Ð=true) (Cq.ret (gk (jE l)))
def iM:Nat->Int->Ŀ Int
 |0,n=>[u8.wrap n]
 |f+1,n=>if 128<=n then u8.wrap (u8.wrap (Int.tmod n 128)+128)::iM f (u64.wrap (Int.tdiv n 128))else[u8.wrap n]
def fA(n:Int):Ŀ Int:=iM 10 n
def ly(n:Int):Ŀ Int:=fA (u64.wrap (2*u64.wrap n))
def fI(d:Int):Ŀ Int:=[u8.wrap (Int.fdiv d (2 ^ (min (24:Int).toNat u32.bits))),u8.wrap (Int.fdiv d (2 ^ (min (16:Int).toNat u32.bits))),u8.wrap (Int.fdiv d (2 ^ (min (8:Int).toNat u32.bits))),u8.wrap d]
def lu(a:Zg):Ŀ Int:=fA (if a.neg=true then u64.wrap (u64.wrap (2*u64.wrap (a.χ.length:Int))+1)else u64.wrap (2*u64.wrap (a.χ.length:Int)))++a.χ.flatMap fI
def mK(a:Zf):Ŀ Int:=lu a.num++lu a.den
def iL(m:Fin 8->Int):Nat->Ŀ Int
 |0=>[]
 |k+1=>iL m k++fA (u64.wrap (Ζ m (k:Int)))
def ga(t:Za):Ŀ Int:=mK t.c++iL t.m 8
def fH(p:Ŀ Za):Ŀ Int:=fA (u64.wrap (p.length:Int))++p.flatMap ga
def fV(l:Ŀ (Ŀ Za)):Ŀ Int:=fA (u64.wrap (l.length:Int))++l.flatMap fH
def hC(k:Zc):Ŀ Int:=ly k.n++fV k.eqs++fV k.ε
def yv(f:Fin 8->Int)(a b:Nat):Fin 8->Int:=ζ (ζ f a (Ζ f (b:Int))) b (Ζ f (a:Int))
def ph(f:Fin 8->Int)(b a:Nat):Nat->Fin 8->Int
 |0=>f
 |k+1=>yv (ph f b a k) (b+k) (b+(a-1-k))
def kN(p:Fin 8->Int):Nat->ŀ Nat
 |0=>none
 |k+1=>if Ζ p ((k+1:Nat):Int)<Ζ p (k:Int)then kN p k else some k
def wh(p:Fin 8->Int)(x:Int):Nat->Nat
 |0=>0
 |j+1=>if Ζ p ((j+1:Nat):Int)<x then wh p x j else j+1
def n5(n:Nat)(p:Fin 8->Int):ŀ (Fin 8->Int):=match kN p (n-1)with
 |none=>none
 |some i=>some (ph (yv p i (wh p (Ζ p (i:Int)) (n-1))) (i+1) (n-(i+1)) ((n-(i+1)) / 2))
def sS(n:Nat):Nat->(Fin 8->Int)->Ŀ (Fin 8->Int)
 |0,_=>[]
 |k+1,p=>p::match n5 n p with|none=>[]|some q=>sS n k q
def Β(n:Nat):Ŀ (Fin 8->Int):=sS n 24 λi=>(i.val:Int)
def kD(n:Int):Ŀ Int:=if 0<=n then ly n else fA (u64.wrap (u64.wrap (2*u64.wrap (i64.wrap (0-i64.wrap (n+1))))+1))
def gf(m:Fin 8->Int):Nat->Ŀ Int
 |0=>[]
 |k+1=>gf m k++kD (Ζ m (k:Int))
def jF(o:Ŀ (Fin 8->Int)):Ŀ Int:=fA (u64.wrap (o.length:Int))++o.flatMap λm=>gf m 8
def oN(q:Ze):Ŀ Int:=kD q.kind++fH q.p++jF q.o
def lq(s t:Zd):Int:=if s.ο<t.ο then -1 else if t.ο<s.ο then 1 else if s.id<t.id then -1 else if t.id<s.id then 1 else 0
def AK:Ĳ:=⟨#[90,101,100]⟩
def AL:Ĳ:=⟨#[121,95,49]⟩
def AM:Ĳ:=⟨#[120]⟩
def QL:Ĳ:=⟨#[0,1,2,2,3,3,3,3,4,4,4,4,4,4,4,4,5,5,5,5,5,5,5,5,5,5,5,5,5,5,5,5,6,6,6,6,6,6,6,6,6,6,6,6,6,6,6,6,6,6,6,6,6,6,6,6,6,6,6,6,6,6,6,6,7,7,7,7,7,7,7,7,7,7,7,7,7,7,7,7,7,7,7,7,7,7,7,7,7,7,7,7,7,7,7,7,7,7,7,7,7,7,7,7,7,7,7,7,7,7,7,7,7,7,7,7,7,7,7,7,7,7,7,7,7,7,7,7,8,8,8,8,8,8,8,8,8,8,8,8,8,8,8,8,8,8,8,8,8,8,8,8,8,8,8,8,8,8,8,8,8,8,8,8,8,8,8,8,8,8,8,8,8,8,8,8,8,8,8,8,8,8,8,8,8,8,8,8,8,8,8,8,8,8,8,8,8,8,8,8,8,8,8,8,8,8,8,8,8,8,8,8,8,8,8,8,8,8,8,8,8,8,8,8,8,8,8,8,8,8,8,8,8,8,8,8,8,8,8,8,8,8,8,8,8,8,8,8,8,8,8,8,8,8,8,8]⟩
def O5(k:Int):Cq (Ŀ (Ŀ Za)):=Cq.ê (0<=k/\k<=1000000) (Cq.ret [])
def Znj(b:(Fin 8->Int))(c:(Fin 8->Int))(a:Int):Cq Int:=
 Cq.ê (0<=a/\a<8) (Cq.ê (0<=a/\a<8) (if(Ζ b a)<(Ζ c a)then(Cq.ret (-1))else(Cq.ret 1)))
def Zni(b:(Fin 8->Int))(c:(Fin 8->Int)):Int->Cq Int:=
 Cq.loop λd=>match d with|a=>Cq.ê (0<=a/\a<8) (Cq.ê (0<=a/\a<8) (if(Ζ b a)=(Ζ c a)then(Cq.ret (.inl (i64.wrap (a+1))))else(Cq.ret (.inr a))))
def yQ(a:(Fin 8->Int))(b:(Fin 8->Int)):Cq Int:=
 if a=b then(Cq.ret 0)else(Cq.next (Zni a b 0) λc=>match c with|d=>Znj a b d)
def Pb(b:Za)(c:Za):Cq Int:=
 Cq.bind (yQ c.m b.m) λa=>Cq.ret a
def Z0(l:Ŀ Za)(a b c:Int):Cq (Ŀ Za):=
 Cq.ê (a=0/\b=(l.length:Int)/\(0<=c/\c<1000000)/\l.length<=1000000) (Cq.any (λd=>d.Perm l/\d.Pairwise (λx y=>¬Ú x.m y.m<0)) Cq.ret)
def vi(a:Zg):Cq Int:=
 if(a.χ.length:Int)=0 then(Cq.ret 0)else(if a.neg=true then(Cq.ret (-1))else(Cq.ret 1))
def ZH(b:Zf):Cq Int:=
 Cq.bind (vi b.num) λa=>Cq.ret a
def Zm9(b:(Ŀ Int))(a:Int):Cq (Ŀ Int):=
 Cq.ê (0<=(0:Int)/\(0:Int)<=a/\a<=(b.length:Int)) (Cq.ret ((b.take a.toNat).drop (0:Int).toNat))
def Zm8(b:(Ŀ Int)):Int->Cq Int:=
 Cq.loop λc=>match c with|a=>if 0<a then(Cq.Θ b (i64.wrap (a-1)) λd=>if d=0 then(Cq.ret (.inl (i64.wrap (a-1))))else(Cq.ret (.inr a)))else(Cq.ret (.inr a))
def ZY(a:(Ŀ Int)):Cq (Ŀ Int):=
 Cq.next (Zm8 a (a.length:Int)) λb=>match b with|c=>Zm9 a c
def Ax(a:Int):Cq (Ŀ Int):=
 Cq.bind (ZY [u32.wrap a,u32.wrap (Int.fdiv a (2 ^ (min (32:Int).toNat u64.bits)))]) λb=>Cq.ret b
def ZS(b:Bool)(c:(Ŀ Int)):Cq Zg:=
 Cq.bind (ZY c) λa=>if(a.length:Int)=0 then(Cq.ret (Zg.mk false []))else(Cq.ret (Zg.mk b a))
def yT(a:Int):Cq Zg:=
 if a<0 then(Cq.bind (Ax (u64.wrap (0-(u64.wrap a)))) λb=>Cq.bind (ZS (decide (a<0)) b) λc=>Cq.ret c)else(Cq.bind (Ax (u64.wrap a)) λd=>Cq.bind (ZS (decide (a<0)) d) λe=>Cq.ret e)
def wX(a:Zg):Cq Bool:=
 if a.neg=true then(Cq.ret false)else(if(a.χ.length:Int)=1 then(Cq.Θ a.χ 0 λb=>Cq.ret (decide (b=1)))else(Cq.ret false))
def Zj6(a:(Ŀ Int)):Cq (Ŀ Int):=
 Cq.bind (ZY a) λb=>Cq.ret b
def Zj7(b:(Ŀ Int))(a:Int)(c:(Ŀ Int))(d:Int):Cq (((Ŀ Int)×Int)⊕(Ŀ Int)):=
 Cq.Θ c (i64.wrap (a+(b.length:Int))) λe=>Cq.ret (.inl ((c.set (i64.wrap (a+(b.length:Int))).toNat (u32.wrap d)),i64.wrap (a+1)))
def Zj5(e:(Ŀ Int))(b:Int)(f:Int):((Ŀ Int)×Int×Int)->Cq (((Ŀ Int)×Int)):=
 Cq.loop λi=>match i with|(c,d,a)=>if a<(e.length:Int)then(Cq.Θ e a λg=>Cq.Θ c (i64.wrap (b+a)) λh=>Cq.Θ c (i64.wrap (b+a)) λj=>Cq.ret (.inl ((c.set (i64.wrap (b+a)).toNat (u32.wrap (u64.wrap ((u64.wrap ((u64.wrap ((u64.wrap f)*(u64.wrap g)))+(u64.wrap h)))+d)))),Int.fdiv (u64.wrap ((u64.wrap ((u64.wrap ((u64.wrap f)*(u64.wrap g)))+(u64.wrap h)))+d)) (2 ^ (min (32:Int).toNat u64.bits)),i64.wrap (a+1))))else(Cq.ret (.inr (c,d)))
def Zj4(b:(Ŀ Int))(c:(Ŀ Int)):((Ŀ Int)×Int)->Cq (Ŀ Int):=
 Cq.loop λg=>match g with|(d,a)=>if a<(b.length:Int)then(Cq.Θ b a λh=>Cq.next (Zj5 c a h (d,0,0)) λi=>match i with|(e,f)=>Zj7 c a e f)else(Cq.ret (.inr d))
def Pr(a:(Ŀ Int))(b:(Ŀ Int)):Cq (Ŀ Int):=
 Cq.ê (0<=i64.wrap ((a.length:Int)+(b.length:Int))/\(i64.wrap ((a.length:Int)+(b.length:Int)))<=1000000) (Cq.next (Zj4 a b ((List.replicate (i64.wrap ((a.length:Int)+(b.length:Int))).toNat 0),0)) λd=>match d with|c=>Zj6 c)
def EZ(a:Zg)(b:Zg):Cq Zg:=
 Cq.bind (Pr a.χ b.χ) λc=>Cq.bind (ZS (decide (¬a.neg=b.neg)) c) λd=>Cq.ret d
def Zjn(a:Zg):Cq Zg:=
 Cq.ret a
def Zjm(d:(Ŀ Zg)):(Int×Zg)->Cq Zg:=
 Cq.loop λh=>match h with|(a,b)=>if a<(d.length:Int)then(Cq.Θ d a λc=>Cq.bind (wX c) λe=>if e=true then(Cq.ret (.inl (i64.wrap (a+1),b)))else(Cq.bind (wX b) λf=>if f=true then(Cq.ret (.inl (i64.wrap (a+1),c)))else(Cq.bind (EZ b c) λg=>Cq.ret (.inl (i64.wrap (a+1),g)))))else(Cq.ret (.inr b))
def Z8(c:(Ŀ Zg)):Cq Zg:=
 Cq.bind (yT 1) λa=>Cq.next (Zjm c (0,a)) λd=>match d with|b=>Zjn b
def Zj3:Cq Int:=
 Cq.ret 0
def Zj2(b:(Ŀ Int))(c:(Ŀ Int)):Int->Cq (Int⊕Unit):=
 Cq.loop λd=>match d with|a=>if 0<=a then(Cq.Θ b a λe=>Cq.Θ c a λf=>if ¬e=f then(Cq.Θ b a λg=>Cq.Θ c a λh=>if g<h then(Cq.ret (.inr (.inl (-1))))else(Cq.ret (.inr (.inl 1))))else(Cq.ret (.inl (i64.wrap (a-1)))))else(Cq.ret (.inr (.inr ())))
def Ay(a:(Ŀ Int))(b:(Ŀ Int)):Cq Int:=
 if ¬(a.length:Int)=(b.length:Int)then(if(a.length:Int)<(b.length:Int)then(Cq.ret (-1))else(Cq.ret 1))else(Cq.next (Zj2 a b (i64.wrap ((a.length:Int)-1))) λd=>match d with|.inl c=>Cq.ret c|.inr ()=>Zj3)
def QY(b:Zg)(c:Zg):Cq Int:=
 Cq.bind (vi b) λa=>Cq.bind (vi c) λd=>if ¬a=d then Cq.fail else(if a<0 then(Cq.bind (Ay c.χ b.χ) λe=>Cq.ret e)else(Cq.bind (Ay b.χ c.χ) λf=>Cq.ret f))
def vj(c:Zf)(d:Zf):Cq Int:=
 Cq.bind (ZH c) λa=>Cq.bind (ZH d) λb=>if ¬a=b then(if a<b then(Cq.ret (-1))else(Cq.ret 1))else(Cq.bind (Z8 [c.num,d.den]) λe=>Cq.bind (Z8 [d.num,c.den]) λf=>Cq.bind (QY e f) λg=>Cq.ret g)
def Ec(a:Za)(b:Za):Cq Int:=
 if ¬a.m=b.m then(Cq.bind (yQ a.m b.m) λd=>Cq.ret d)else(Cq.bind (vj a.c b.c) λe=>Cq.ret e)
def Zz(a:(Ŀ Za))(b:(Ŀ Za)):Cq Int:=
 if(a.length:Int)<(b.length:Int)then(Cq.ret (-1))else(Cq.ret 0)
def ZI(b:(Ŀ Za))(c:(Ŀ Za)):Int->Cq (Int⊕Unit):=
 Cq.loop λe=>match e with|a=>if a<(b.length:Int)then(Cq.Θ b a λf=>if(c.length:Int)<=a then(Cq.ret (.inr (.inl 1)))else(Cq.Θ c a λg=>Cq.bind (Ec f g) λd=>if ¬d=0 then(Cq.ret (.inr (.inl d)))else(Cq.ret (.inl (i64.wrap (a+1))))))else(Cq.ret (.inr (.inr ())))
def ZB(a:(Ŀ Za))(b:(Ŀ Za)):Cq Int:=
 Cq.next (ZI a b 0) λd=>match d with|.inl c=>Cq.ret c|.inr ()=>Zz a b
def Em(b:(Ŀ Za))(c:(Ŀ Za)):Cq Int:=
 Cq.bind (ZB b c) λa=>Cq.ret a
def O7(l:Ŀ (Ŀ Za))(a b c:Int):Cq (Ŀ (Ŀ Za)):=
 Cq.ê (a=0/\b=(l.length:Int)/\(0<=c/\c<1000000)/\l.length<=1000000/\l.all Ð=true) (Cq.ret (jE l))
def Eb(a:Za)(b:Za):Cq Bool:=
 if a.m=b.m then(Cq.bind (vj a.c b.c) λd=>Cq.ret (decide (d=0)))else(Cq.ret false)
def Z4:Cq Bool:=
 Cq.ret true
def ZJ(b:(Ŀ Za))(c:(Ŀ Za)):Int->Cq (Bool⊕Unit):=
 Cq.loop λe=>match e with|a=>if a<(b.length:Int)then(Cq.Θ b a λf=>Cq.Θ c a λg=>Cq.bind (Eb f g) λd=>if(!d)=true then(Cq.ret (.inr (.inl false)))else(Cq.ret (.inl (i64.wrap (a+1)))))else(Cq.ret (.inr (.inr ())))
def ZC(a:(Ŀ Za))(b:(Ŀ Za)):Cq Bool:=
 if ¬(a.length:Int)=(b.length:Int)then(Cq.ret false)else(Cq.next (ZJ a b 0) λd=>match d with|.inl c=>Cq.ret c|.inr ()=>Z4)
def ZU(b:(Ŀ Za))(c:(Ŀ Za)):Cq Bool:=
 Cq.bind (ZC b c) λa=>Cq.ret a
def Zke(a:Int)(b:Int):Cq Int:=
 Cq.ê (0<=(u8.wrap a:Int)/\(u8.wrap a)<(QL.size:Int)) (Cq.ret (i64.wrap (b+(i64.wrap (eR QL (u8.wrap a))))))
def Zkf(a:Int)(b:Int):Cq Int:=
 if 256<=a then Cq.fail else(Zke a b)
def Zkg(a:Int)(b:Int):Cq Int:=
 if 65536<=a then Cq.fail else(Zkf a b)
def Ps(a:Int):Cq Int:=
 if 4294967296<=a then Cq.fail else(Zkg a 0)
def ua(b:Int):Cq Int:=
 Cq.bind (Ps b) λa=>Cq.ret a
def ZQ(a:(Ŀ (Ŀ Za))):Cq ((Ŀ (Ŀ Za))):=
 Cq.bind (ua (u64.wrap (a.length:Int))) λb=>Cq.bind (O7 a 0 (a.length:Int) b) λc=>Cq.ret c
def Aw(a:(Ŀ Int)):Cq (Ŀ Int):=
 Cq.ê (([]++a).length<=small) (Cq.ret ([]++a))
def Zmh(a:Int):Cq Int:=
 Cq.ret a
def Zmg(b:(Ŀ Int)):(Int×Int)->Cq Int:=
 Cq.loop λd=>match d with|(c,a)=>if a<(b.length:Int)then(Cq.Θ b a λe=>Cq.ê (0<=(i64.wrap (32*a))) (Cq.ret (.inl (u64.wrap (BitVec.ofInt u64.bits c ||| BitVec.ofInt u64.bits (u64.wrap ((u64.wrap e)*2 ^ (min (i64.wrap (32*a)).toNat u64.bits)))).toNat,i64.wrap (a+1)))))else(Cq.ret (.inr c))
def J2(a:(Ŀ Int)):Cq Int:=
 Cq.next (Zmg a (0,0)) λb=>match b with|c=>Zmh c
def Zhe(c:(Ŀ Int))(a:Int):Cq ((Ŀ Int)×Int):=
 Cq.bind (ZY c) λb=>Cq.ret (b,a)
def Zhd(f:(Ŀ Int))(c:Int):((Ŀ Int)×Int×Int)->Cq (((Ŀ Int)×Int)):=
 Cq.loop λg=>match g with|(d,a,b)=>if 0<=b then(Cq.Θ f b λe=>Cq.ê (c≠0) (Cq.Θ d b λh=>Cq.ê (c≠0) (Cq.ret (.inl ((d.set b.toNat (u32.wrap (u64.wrap (Int.tdiv (u64.wrap (BitVec.ofInt u64.bits (u64.wrap (a*2 ^ (min (32:Int).toNat u64.bits))) ||| BitVec.ofInt u64.bits (u64.wrap e)).toNat) c)))),Int.tmod (u64.wrap (BitVec.ofInt u64.bits (u64.wrap (a*2 ^ (min (32:Int).toNat u64.bits))) ||| BitVec.ofInt u64.bits (u64.wrap e)).toNat) c,i64.wrap (b-1))))))else(Cq.ret (.inr (d,a)))
def Pg(a:(Ŀ Int))(c:Int):Cq ((Ŀ Int)×Int):=
 Cq.ê (0<=(a.length:Int)/\(a.length:Int)<=1000000) (Cq.next (Zhd a c ((List.replicate (a.length:Int).toNat 0),0,i64.wrap ((a.length:Int)-1))) λd=>match d with|(e,b)=>Zhe e b)
def JI(d:(Ŀ Int))(e:(Ŀ Int)):Cq ((Ŀ Int)×(Ŀ Int)):=
 Cq.bind (ZY d) λa=>Cq.bind (ZY e) λb=>Cq.bind (Ay a b) λf=>if f<0 then(Cq.bind (Aw a) λg=>Cq.ret ([],g))else(if(b.length:Int)=1 then(Cq.Θ b 0 λi=>Cq.bind (Pg a (u64.wrap i)) λc=>Cq.bind (Ax c.2) λh=>Cq.ret (c.1,h))else Cq.fail)
def Zok(b:(Ŀ Int)):Cq Zg:=
 Cq.bind (ZS false b) λa=>Cq.ret a
def Zol(c:Int):Cq (((Ŀ Int)×(Ŀ Int)×Zg)⊕(Zg⊕((Ŀ Int)×Zg))):=
 Cq.bind (Ax c) λb=>Cq.bind (ZS false b) λa=>Cq.ret (.inr (.inl a))
def Zoj:(Int×Int)->Cq Int:=
 Cq.loop λc=>match c with|(b,a)=>if 0<a then(Cq.ê (a≠0) (Cq.ret (.inl (a,Int.tmod b a))))else(Cq.ret (.inr b))
def JH(d:(Ŀ Int))(a:(Ŀ Int))(e:Zg)(b:Bool):Cq (((Ŀ Int)×(Ŀ Int)×Zg)⊕(Zg⊕((Ŀ Int)×Zg))):=
 if b=true then(Cq.bind (J2 d) λf=>Cq.bind (J2 a) λg=>Cq.next (Zoj (f,g)) λh=>match h with|i=>Zol i)else(Cq.bind (JI d a) λc=>Cq.ret (.inl (a,c.2,e)))
def Zoi:((Ŀ Int)×(Ŀ Int)×Zg)->Cq (Zg⊕((Ŀ Int)×Zg)):=
 Cq.loop λd=>match d with|(c,a,b)=>if 0<(a.length:Int)then(if(c.length:Int)<=2 then(JH c a b (decide ((a.length:Int)<=2)))else(JH c a b false))else(Cq.ret (.inr (.inr (c,b))))
def xl(f:Zg)(g:Zg):Cq Zg:=
 Cq.bind (ZY f.χ) λa=>Cq.bind (Aw a) λb=>Cq.bind (ZY g.χ) λc=>Cq.bind (Aw c) λd=>Cq.next (Zoi (b,d,(Zg.mk false []))) λh=>match h with|.inl e=>Cq.ret e|.inr (i,j)=>Zok i
def J1(a:Zg):Cq Bool:=
 if(a.χ.length:Int)=0 then(Cq.ret (!a.neg))else(Cq.Θ a.χ (i64.wrap ((a.χ.length:Int)-1)) λb=>Cq.ret (decide (¬b=0)))
def Zk7(a:Zf):Cq Bool:=
 Cq.bind (wX a.den) λb=>match b with|false=>(Cq.bind (xl a.num a.den) λc=>Cq.bind (wX c) λd=>Cq.ret d)|true=>(Cq.ret true)
def ZZ(a:Zf):Cq Bool:=
 Cq.bind (J1 a.num) λb=>match b with|false=>(Cq.ret false)|true=>(Cq.bind (J1 a.den) λc=>match c with|false=>(Cq.ret false)|true=>(Cq.bind (vi a.den) λd=>if d<=0 then Cq.fail else(Zk7 a)))
def Zk6:Cq Bool:=
 Cq.ret true
def Zk5(b:(Fin 8->Int)):Int->Cq (Bool⊕Unit):=
 Cq.loop λc=>match c with|a=>if a<8 then(Cq.ê (0<=a/\a<8) (if(Ζ b a)<0 then(Cq.ret (.inr (.inl false)))else(if 65535<(Ζ b a)then Cq.fail else(Cq.ret (.inl (i64.wrap (a+1)))))))else(Cq.ret (.inr (.inr ())))
def Ek(b:(Fin 8->Int)):Cq Bool:=
 Cq.next (Zk5 b 0) λc=>match c with|.inl a=>Cq.ret a|.inr ()=>Zk6
def Zjl:Cq Bool:=
 Cq.ret true
def Jj(c:(Ŀ Za))(a:Int)(d:Za):Cq (Int⊕(Bool⊕Unit)):=
 if 0<a then(Cq.Θ c (i64.wrap (a-1)) λe=>Cq.bind (yQ e.m d.m) λb=>if b<=0 then Cq.fail else(Cq.ret (.inl (i64.wrap (a+1)))))else(Cq.ret (.inl (i64.wrap (a+1))))
def Zjk(d:(Ŀ Za)):Int->Cq (Bool⊕Unit):=
 Cq.loop λh=>match h with|a=>if a<(d.length:Int)then(Cq.Θ d a λb=>Cq.bind (ZZ b.c) λe=>match e with|false=>(Cq.ret (.inr (.inl false)))|true=>(Cq.bind (ZH b.c) λf=>if f=0 then(Cq.ret (.inr (.inl false)))else(Cq.bind (Ek b.m) λg=>if(!g)=true then(Cq.ret (.inr (.inl false)))else(Jj d a b))))else(Cq.ret (.inr (.inr ())))
def As(b:(Ŀ Za)):Cq Bool:=
 Cq.next (Zjk b 0) λc=>match c with|.inl a=>Cq.ret a|.inr ()=>Zjl
def Zjh(a:Int):Cq Int:=
 Cq.ret a
def Zjg(c:(Fin 8->Int)):(Int×Int)->Cq Int:=
 Cq.loop λd=>match d with|(b,a)=>if a<8 then(Cq.ê (0<=a/\a<8) (if 0<(Ζ c a)then(Cq.ê (0<=a) (Cq.ret (.inl (u8.wrap (BitVec.ofInt u8.bits b ||| BitVec.ofInt u8.bits (u8.wrap (1*2 ^ (min (a).toNat u8.bits)))).toNat,i64.wrap (a+1)))))else(Cq.ret (.inl (b,i64.wrap (a+1))))))else(Cq.ret (.inr b))
def JC(a:(Fin 8->Int)):Cq Int:=
 Cq.next (Zjg a (0,0)) λb=>match b with|c=>Zjh c
def Zkt(a:Int):Cq Int:=
 Cq.ret a
def Zks(b:(Ŀ Za)):(Int×Int)->Cq Int:=
 Cq.loop λe=>match e with|(c,a)=>if a<(b.length:Int)then(Cq.Θ b a λf=>Cq.bind (JC f.m) λd=>Cq.ret (.inl (u8.wrap (BitVec.ofInt u8.bits c ||| BitVec.ofInt u8.bits d).toNat,i64.wrap (a+1))))else(Cq.ret (.inr c))
def Az(a:(Ŀ Za)):Cq Int:=
 Cq.next (Zks a (0,0)) λb=>match b with|c=>Zkt c
def Zkj(a:Int):Cq Int:=
 Cq.ret a
def Zki(c:(Fin 8->Int)):(Int×Int)->Cq Int:=
 Cq.loop λd=>match d with|(b,a)=>if a<8 then(Cq.ê (0<=a/\a<8) (Cq.ret (.inl (i64.wrap (b+(Ζ c a)),i64.wrap (a+1)))))else(Cq.ret (.inr b))
def Jx(a:(Fin 8->Int)):Cq Int:=
 Cq.next (Zki a (0,0)) λb=>match b with|c=>Zkj c
def Ziy(a:Int):Cq Int:=
 Cq.ret a
def Zix(d:(Ŀ Za)):(Int×Int)->Cq Int:=
 Cq.loop λe=>match e with|(c,a)=>if a<(d.length:Int)then(Cq.Θ d a λf=>Cq.bind (Jx f.m) λb=>Cq.ret (.inl (if c<b then b else c,i64.wrap (a+1))))else(Cq.ret (.inr c))
def wZ(a:(Ŀ Za)):Cq Int:=
 Cq.next (Zix a ((-1),0)) λb=>match b with|c=>Ziy c
def è(a:ZD)(b:(Ŀ Za))(f:Int):Cq Bool:=
 Cq.bind (As b) λc=>match c with|false=>(Cq.ret false)|true=>(Cq.bind (Az b) λd=>Cq.ê (0<=a.k.n) (if(Int.fdiv (i64.wrap d) (2 ^ (min (a.k.n).toNat i64.bits)))=0 then(Cq.bind (wZ b) λe=>Cq.ret (decide (e<=f)))else(Cq.ret false)))
def Zk4(d:Zg)(e:Zg)(f:(Ŀ Int))(a:(Ŀ Int)):Cq (Zg×Zg×Int):=
 Cq.bind (ZS (decide (¬d.neg=e.neg)) f) λb=>Cq.bind (ZS false a) λc=>Cq.ret (b,c,0)
def Pn(c:Zg)(d:Zg)(b:(Ŀ Int)×(Ŀ Int))(a:Bool):Cq (Zg×Zg×Int):=
 if a=true then Cq.fail else(Zk4 c d b.1 b.2)
def AD(b:Zg)(c:Zg):Cq (Zg×Zg×Int):=
 Cq.bind (ZY c.χ) λd=>if(d.length:Int)=0 then Cq.fail else(Cq.bind (JI b.χ c.χ) λa=>if b.neg=true then(Pn b c a (decide (0<(a.2.length:Int))))else(Pn b c a false))
def AA(c:Zg)(a:Zg):Cq Zf:=
 Cq.bind (wX a) λd=>if d=true then(Cq.ret (Zf.mk c a))else(Cq.bind (xl c a) λb=>Cq.bind (wX b) λe=>if e=true then(Cq.ret (Zf.mk c a))else(Cq.bind (AD c b) λf=>Cq.bind (AD a b) λg=>Cq.ret (Zf.mk f.1 g.1)))
def EA(e:Zg)(a:Zg):Cq (Zf×Int):=
 Cq.bind (vi a) λb=>if b=0 then Cq.fail else(Cq.bind (vi a) λc=>if c<0 then Cq.fail else(Cq.bind (AA e a) λd=>Cq.ret (d,0)))
def Znl(a:(Fin 8->Int)):Cq ((Fin 8->Int)×Int):=
 Cq.bind (Ek a) λb=>if(!b)=true then Cq.fail else(Cq.ret (a,0))
def Znk(c:(Fin 8->Int)):(Int×(Fin 8->Int))->Cq (Fin 8->Int):=
 Cq.loop λd=>match d with|(a,b)=>if a<8 then(Cq.ê (0<=a/\a<8) (Cq.ê (0<=a/\a<8) (Cq.ê (0<=a/\a<8) (Cq.ret (.inl (i64.wrap (a+1),ζ b a.toNat (i64.wrap ((Ζ b a)+(Ζ c a)))))))))else(Cq.ret (.inr b))
def Kk(b:(Fin 8->Int))(c:(Fin 8->Int)):Cq ((Fin 8->Int)×Int):=
 Cq.next (Znk c (0,b)) λd=>match d with|a=>Znl a
def Z7(c:Zf)(d:Zf):Cq Zf:=
 Cq.bind (AA c.num d.den) λa=>Cq.bind (AA d.num c.den) λb=>Cq.bind (Z8 [a.num,b.num]) λe=>Cq.bind (Z8 [a.den,b.den]) λf=>Cq.ret (Zf.mk e f)
def Zjj(a:(Ŀ Za)):Cq ((Ŀ Za)×Int):=
 Cq.ret (a,0)
def Zji(h:Zf)(i:(Fin 8->Int))(f:(Ŀ Za)):((Ŀ Za)×Int)->Cq (((Ŀ Za)×Int)⊕(Ŀ Za)):=
 Cq.loop λj=>match j with|(b,a)=>if a<(f.length:Int)then(Cq.Θ f a λg=>Cq.bind (Kk i g.m) λd=>if ¬d.2=0 then Cq.fail else(Cq.bind (Z7 h g.c) λe=>Cq.ê ((b++[(Za.mk e d.1)]).length<=small) (Cq.ret (.inl ((b++[(Za.mk e d.1)]),i64.wrap (a+1))))))else(Cq.ret (.inr (.inr b)))
def JD(b:Zf)(f:(Fin 8->Int))(a:(Ŀ Za)):Cq ((Ŀ Za)×Int):=
 Cq.bind (ZH b) λc=>if c=0 then Cq.fail else(Cq.ê (0<=(a.length:Int)/\(a.length:Int)<=1000000) (Cq.next (Zji b f a (([]:Ŀ Za),0)) λg=>match g with|.inl d=>Cq.ret d|.inr e=>Zjj e))
def yJ(a:Zg):Cq Zg:=
 Cq.bind (Aw a.χ) λb=>Cq.bind (ZS (!a.neg) b) λc=>Cq.ret c
def PT(a:(Ŀ Za))(b:Zg)(c:Zg):Cq (Ŀ Za):=
 Cq.bind (EA c b) λd=>Cq.bind (JD d.1 (λ_=>0) a) λe=>Cq.ret e.1
def JK(a:(Ŀ Za))(b:Zg)(d:Zg):Cq (Ŀ Za):=
 Cq.Θ a 0 λg=>Cq.bind (ZH g.c) λe=>if e<0 then(Cq.bind (yJ d) λf=>PT a b f)else(PT a b d)
def PS(b:(Ŀ Za)):(Int×Zg×Zg)->Cq (Zg×Zg):=
 Cq.loop λk=>match k with|(a,e,d)=>if a<(b.length:Int)then(Cq.Θ b a λf=>Cq.bind (xl e f.c.num) λh=>Cq.bind (xl d f.c.den) λi=>Cq.bind (AD f.c.den i) λj=>Cq.bind (EZ d j.1) λg=>Cq.ret (.inl (i64.wrap (a+1),h,g)))else(Cq.ret (.inr (e,d)))
def AH(a:(Ŀ Za)):Cq (Ŀ Za):=
 if(a.length:Int)=0 then Cq.fail else(Cq.bind (yT 0) λb=>Cq.bind (yT 1) λc=>Cq.next (PS a (0,b,c)) λf=>match f with|(d,e)=>JK a d e)
def gi:Cq Bool:=
 Cq.ret true
def gh(e:ZD)(d:(Ŀ (Ŀ Za)))(b:Int):Int->Cq (Bool⊕Unit):=
 Cq.loop λk=>match k with|a=>if a<(d.length:Int)then(Cq.Θ d a λc=>Cq.bind (è e c 12) λf=>match f with|false=>(Cq.ret (.inr (.inl false)))|true=>(Cq.bind (wZ c) λg=>if g<b then(Cq.ret (.inr (.inl false)))else(Cq.bind (AH c) λh=>Cq.bind (ZU h c) λi=>if(!i)=true then(Cq.ret (.inr (.inl false)))else(if 0<a then(Cq.Θ d (i64.wrap (a-1)) λl=>Cq.bind (Em l c) λj=>if 0<=j then(Cq.ret (.inr (.inl false)))else(Cq.ret (.inl (i64.wrap (a+1)))))else(Cq.ret (.inl (i64.wrap (a+1))))))))else(Cq.ret (.inr (.inr ())))
def À(b:ZD)(c:(Ŀ (Ŀ Za)))(a:Int):Cq Bool:=
 if 12<(c.length:Int)then(Cq.ret false)else(Cq.next (gh b c a 0) λe=>match e with|.inl d=>Cq.ret d|.inr ()=>gi)
def Ã(a:ZD):Cq Bool:=
 if 1<=a.k.n then(if a.k.n<=4 then(Cq.bind (À a a.k.eqs 0) λb=>match b with|false=>(Cq.ret false)|true=>(Cq.bind (À a a.k.ε 1) λc=>Cq.ret c))else(Cq.ret false))else(Cq.ret false)
def vl(b:Zc):Cq Bool:=
 Cq.bind (Ã (ZD.mk b)) λa=>Cq.ret a
def vo(k:Zc):Cq Ĳ:=Cq.bind (vl k) λv=>match v with|true=>Cq.ê (0<=k.n/\(hC k).length<=1000000) (Cq.ret (bytesOf (hC k)))|false=>Cq.ret ByteArray.empty
def ZK(a:(Ŀ Za)):Cq (Ŀ Za):=
 Cq.bind (ua (u64.wrap (a.length:Int))) λb=>Cq.bind (Z0 a 0 (a.length:Int) b) λc=>Cq.ret c
def ZiA(a:(Ŀ Za)):Cq (Ŀ Za):=
 Cq.bind (ZK a) λb=>Cq.ret b
def Ziz:((Ŀ Za)×Ŀ ((Fin 8->Int)×Zf))->Cq (Ŀ Za):=
 Cq.loop λd=>match d with|(a,f)=>Cq.pick f (Cq.ret (.inr a)) λb e=>Cq.bind (ZH b.2) λc=>if ¬c=0 then(Cq.ê ((a++[(Za.mk b.2 b.1)]).length<=small) (Cq.ret (.inl ((a++[(Za.mk b.2 b.1)]),e))))else(Cq.ret (.inl (a,e)))
def Jp(a:(Ŀ ((Fin 8->Int)×Zf))):Cq (Ŀ Za):=
 Cq.ê (0<=(a.length:Int)/\(a.length:Int)<=1000000) (Cq.next (Ziz (([]:Ŀ Za),a)) λc=>match c with|b=>ZiA b)
def ZhE(a:(Ŀ ((Fin 8->Int)×Zf))):Cq ((Ŀ Za)×Int):=
 Cq.bind (Jp a) λb=>Cq.ret (b,0)
def ZhF(b:Int)(d:(Ŀ ((Fin 8->Int)×Zf)))(e:Za)(a:(Fin 8->Int)):Cq ((Int×(Ŀ ((Fin 8->Int)×Zf)))⊕(((Ŀ ((Fin 8->Int)×Zf))))):=
 Cq.ê ((∀i,(Lit.int i64 (a i)).wf=true)/\(eX d a e.c).length<=small) (Cq.ret (.inl (i64.wrap (b+1),(eX d a e.c))))
def Pd(b:(Fin 8->Int))(d:Za):(Int×(Fin 8->Int))->Cq (Fin 8->Int):=
 Cq.loop λe=>match e with|(a,c)=>if a<8 then(Cq.ê (0<=a/\a<8) (Cq.ê (0<=a/\a<8) (Cq.ê (0<=Ζ b a/\(Ζ b a)<8) (Cq.ret (.inl (i64.wrap (a+1),ζ c ((Ζ b a).toNat) (Ζ d.m a)))))))else(Cq.ret (.inr c))
def ZhC(d:(Ŀ Za))(b:(Fin 8->Int)):(Int×(Ŀ ((Fin 8->Int)×Zf)))->Cq (((Ŀ ((Fin 8->Int)×Zf)))):=
 Cq.loop λg=>match g with|(a,c)=>if a<(d.length:Int)then(Cq.Θ d a λe=>Cq.next (Pd b e (0,(λ_=>0))) λh=>match h with|f=>ZhF a c e f)else(Cq.ret (.inr c))
def Pe(c:(Ŀ Za))(a:(Fin 8->Int)):Cq ((Ŀ Za)×Int):=
 Cq.next (ZhC c a (0,[])) λd=>match d with|b=>ZhE b
def ZhD(b:(Fin 8->Int)):(Int×(Fin 8->Bool))->Cq (((Ŀ Za)×Int)⊕Unit):=
 Cq.loop λd=>match d with|(a,c)=>if a<8 then(Cq.ê (0<=a/\a<8) (if(Ζ b a)<0 then(Cq.ret (.inr (.inl ([],1))))else(if 8<=(Ζ b a)then(Cq.ret (.inr (.inl ([],1))))else(Cq.ê (0<=Ζ b a/\(Ζ b a)<8) (if(Ζ c (Ζ b a))=true then Cq.fail else(Cq.ê (0<=Ζ b a/\(Ζ b a)<8) (Cq.ret (.inl (i64.wrap (a+1),ζ c ((Ζ b a).toNat) true)))))))))else(Cq.ret (.inr (.inr ())))
def Ea(c:(Ŀ Za))(a:(Fin 8->Int)):Cq ((Ŀ Za)×Int):=
 Cq.next (ZhD a (0,(λ_=>false))) λd=>match d with|.inl b=>Cq.ret b|.inr ()=>Pe c a
def ZkE(a:(Ŀ (Ŀ Za))):Cq ((Ŀ (Ŀ Za))):=
 Cq.ret a
def ZkD(d:(Ŀ (Ŀ Za)))(c:(Fin 8->Int)):((Ŀ (Ŀ Za))×Int)->Cq (((Ŀ (Ŀ Za)))):=
 Cq.loop λf=>match f with|(b,a)=>if a<(d.length:Int)then(Cq.Θ d a λg=>Cq.bind (Ea g c) λe=>Cq.Θ b a λh=>Cq.ret (.inl ((b.set a.toNat e.1),i64.wrap (a+1))))else(Cq.ret (.inr b))
def AB(a:(Ŀ (Ŀ Za)))(b:(Fin 8->Int)):Cq ((Ŀ (Ŀ Za))):=
 Cq.ê (0<=(a.length:Int)/\(a.length:Int)<=1000000) (Cq.next (ZkD a b ((List.replicate (a.length:Int).toNat []),0)) λd=>match d with|c=>ZkE c)
def ZcP(a:(Ŀ (Ŀ Za))):Cq ((Ŀ (Ŀ Za))):=
 Cq.ret a
def ZcN(b:(Ŀ (Ŀ (Ŀ Za)))):((Ŀ (Ŀ Za))×Int)->Cq (((Ŀ (Ŀ Za)))):=
 Cq.loop λe=>match e with|(a,c)=>if c<(b.length:Int)then(Cq.Θ b c λd=>Cq.ê ((a++d).length<=small) (Cq.ret (.inl ((a++d),i64.wrap (c+1)))))else(Cq.ret (.inr a))
def ZcQ(b:(Ŀ (Ŀ (Ŀ Za))))(c:Int):Cq ((Ŀ (Ŀ Za))):=
 Cq.bind (O5 c) λd=>Cq.next (ZcN b (d,0)) λe=>match e with|a=>ZcP a
def ZcO(a:(Ŀ (Ŀ (Ŀ Za)))):(Int×Int)->Cq Int:=
 Cq.loop λe=>match e with|(b,c)=>if c<(a.length:Int)then(Cq.Θ a c λd=>if(i64.wrap (b+(d.length:Int)))<0 then Cq.fail else(Cq.ret (.inl (i64.wrap (b+(d.length:Int)),i64.wrap (c+1)))))else(Cq.ret (.inr b))
def Jh(a:(Ŀ (Ŀ (Ŀ Za)))):Cq ((Ŀ (Ŀ Za))):=
 Cq.next (ZcO a (0,0)) λc=>match c with|b=>ZcQ a b
def PG(b:Zg):Cq Zf:=
 Cq.bind (yT 1) λa=>Cq.ret (Zf.mk b a)
def wW(c:Int):Cq Zf:=
 Cq.bind (yT c) λa=>Cq.bind (PG a) λb=>Cq.ret b
def D4(a:Zf):Cq (Ŀ Za):=
 Cq.bind (ZH a) λb=>if b=0 then Cq.fail else(Cq.ret [(Za.mk a (λ_=>0))])
def KD(a:(Ŀ Za))(b:Int):Cq Bool:=
 Cq.bind (As a) λc=>match c with|false=>(Cq.ret false)|true=>(Cq.bind (Az a) λd=>Cq.ê (0<=b) (if(Int.fdiv (i64.wrap d) (2 ^ (min (b).toNat i64.bits)))=0 then(Cq.bind (wZ a) λe=>Cq.ret (decide (e<=12)))else(Cq.ret false)))
def Py(e:Int)(a:(Ŀ (Ŀ Za)))(b:(Ŀ (Ŀ Za))):Cq (Zc×Int):=
 Cq.bind (Ef a) λc=>Cq.bind (Ef b) λd=>if 12<(c.length:Int)then(Cq.ret ((Zc.mk 0 [] []),2))else(if 12<(d.length:Int)then(Cq.ret ((Zc.mk 0 [] []),2))else(Cq.ret ((Zc.mk e c d),0)))
def ZmC(d:(Ŀ (Ŀ Za))):((Ŀ (Ŀ Za))×(Ŀ (Ŀ Za))×Int)->Cq (((Ŀ (Ŀ Za))×(Ŀ (Ŀ Za)))):=
 Cq.loop λj=>match j with|(a,b,c)=>if c<(d.length:Int)then(Cq.Θ d c λg=>if(g.length:Int)=0 then(Cq.bind (wW 1) λh=>Cq.bind (D4 h) λe=>Cq.ê ((a++[e]).length<=small) (Cq.ret (.inl ((a++[e]),b,i64.wrap (c+1)))))else(Cq.bind (wZ g) λi=>if 0<i then(Cq.bind (AH g) λf=>Cq.ê ((b++[f]).length<=small) (Cq.ret (.inl (a,(b++[f]),i64.wrap (c+1)))))else(Cq.ret (.inl (a,b,i64.wrap (c+1))))))else(Cq.ret (.inr (a,b)))
def Pz(d:Int)(e:(Ŀ (Ŀ Za)))(a:(Ŀ (Ŀ Za))):Cq (Zc×Int):=
 Cq.next (ZmC e (a,[],0)) λf=>match f with|(b,c)=>Py d b c
def ZmD(c:(Ŀ (Ŀ Za))):((Ŀ (Ŀ Za))×Int)->Cq (((Ŀ (Ŀ Za)))):=
 Cq.loop λf=>match f with|(a,b)=>if b<(c.length:Int)then(Cq.Θ c b λe=>if 0<(e.length:Int)then(Cq.bind (AH e) λd=>Cq.ê ((a++[d]).length<=small) (Cq.ret (.inl ((a++[d]),i64.wrap (b+1)))))else(Cq.ret (.inl (a,i64.wrap (b+1)))))else(Cq.ret (.inr a))
def PA(b:Int)(c:(Ŀ (Ŀ Za)))(d:(Ŀ (Ŀ Za))):Cq (Zc×Int):=
 Cq.next (ZmD c ([],0)) λe=>match e with|a=>Pz b d a
def Px(d:Int)(b:(Ŀ (Ŀ Za))):(Int×Zc)->Cq ((Zc×Int)⊕Zc):=
 Cq.loop λf=>match f with|(a,c)=>if a<(b.length:Int)then(Cq.Θ b a λg=>Cq.bind (KD g d) λe=>if(!e)=true then(Cq.ret (.inr (.inl ((Zc.mk 0 [] []),1))))else(Cq.ret (.inl (i64.wrap (a+1),c))))else(Cq.ret (.inr (.inr c)))
def PB(a:Int)(b:(Ŀ (Ŀ Za)))(c:(Ŀ (Ŀ Za)))(d:Zc):Cq (Zc×Int):=
 Cq.bind (Jh [b,c]) λe=>Cq.next (Px a e (0,d)) λg=>match g with|.inl f=>Cq.ret f|.inr h=>PA a b c
def Ee(a:Int)(b:(Ŀ (Ŀ Za)))(c:(Ŀ (Ŀ Za))):Cq (Zc×Int):=
 if a<1 then(Cq.ret ((Zc.mk 0 [] []),1))else(if 4<a then(Cq.ret ((Zc.mk 0 [] []),1))else(PB a b c (Zc.mk 0 [] [])))
def sh(k:Zc)(p:(Fin 8->Int))(s:Zc×(Fin 8->Int)×Ĳ):Cq (Zc×(Fin 8->Int)×Ĳ):=Cq.bind (AB k.eqs p) λa=>Cq.bind (AB k.ε p) λb=>Cq.bind (Ee k.n a b) λr=>if ¬r.2=0 then Cq.ret s else Cq.bind (vo r.1) λt=>if s.2.2=ByteArray.empty then Cq.ret (r.1,p,t)else if Op.bytesLess t.toList s.2.2.toList=true then Cq.ret (r.1,p,t)else Cq.ret s
def nm(k:Zc):Ŀ (Fin 8->Int)->(Zc×(Fin 8->Int)×Ĳ)->Cq (Zc×(Fin 8->Int)×Ĳ)
 |[],s=>Cq.ret s
 |p::l,s=>Cq.bind (sh k p s) λs'=>nm k l s'
def EC(k:Zc):Cq (Zc×(Fin 8->Int)):=Cq.ê (1<=k.n/\k.n<=4) (Cq.bind (nm k (Β k.n.toNat) (⟨0,[],[]⟩,(λ_=>0),ByteArray.empty)) λs=>Cq.ret (s.1,s.2.1))
def Bb(q:Ze):Cq Ĳ:=Cq.ê ((oN q).length<=1000000) (Cq.ret (bytesOf (oN q)))
def cmp_isNaN_int(a:Int):Cq Bool:=
 Cq.ret (decide (¬a=a))
def D8(b:Int)(a:Int):Cq Int:=
 Cq.bind (cmp_isNaN_int b) λc=>Cq.bind (cmp_isNaN_int a) λd=>if c=true then Cq.fail else(if d=true then Cq.fail else(if b<a then(Cq.ret (-1))else(if a<b then(Cq.ret 1)else(Cq.ret 0))))
def ZpT:Cq Int:=
 Cq.ret 0
def ZpS(b:(Ŀ Int)):Int->Cq (Int⊕Unit):=
 Cq.loop λd=>match d with|a=>if a<(b.length:Int)then(Cq.Θ b a λc=>if ¬c=0 then(Cq.ret (.inr (.inl c)))else(Cq.ret (.inl (i64.wrap (a+1)))))else(Cq.ret (.inr (.inr ())))
def KM(a:(Ŀ Int)):Cq Int:=
 Cq.next (ZpS a 0) λc=>match c with|.inl b=>Cq.ret b|.inr ()=>ZpT
def J6(a:Zd)(b:Zd):Cq Int:=
 Cq.bind (D8 a.ο b.ο) λc=>Cq.bind (D8 a.id b.id) λd=>Cq.bind (KM [c,d]) λe=>Cq.ret e
def O9(l:Ŀ Zd)(a b c:Int):Cq (Ŀ Zd):=
 Cq.ê (a=0/\b=(l.length:Int)/\(0<=c/\c<1000000)/\l.length<=1000000) (Cq.any (λd=>d.Perm l/\d.Pairwise (λx y=>¬lq y x<0)) Cq.ret)
def Jr(b:Ze)(a:Bool):Cq (Ŀ Ze):=
 if a=true then(Cq.ret [(Ze.mk 5 [] [])])else(if b.kind=7 then(Cq.ret [(Ze.mk 6 [] [])])else(Cq.ret []))
def Js(a:Ze)(b:Bool):Cq (Ŀ Ze):=
 if b=true then(Cq.ret [(Ze.mk 4 [] [])])else(if a.kind=6 then(Jr a (decide (a.kind=6)))else(Jr a (decide (a.kind=10))))
def yR(a:Ze):Cq (Ŀ Ze):=
 if a.kind=5 then(Js a (decide (a.kind=5)))else(Js a (decide (a.kind=8)))
def tI(c:Zc)(d:Ze):Cq Ĳ:=
 Cq.bind (vo c) λa=>Cq.bind (Bb d) λb=>Cq.ê ((a.size:Int)+b.size<=1000000) (Cq.ret (a++b))
abbrev nS:=(Int×Int)×Ŀ (Ĳ×Int)×Zb
def pd(f:Ze->Ŀ (Ĳ×Int)->Zb->Cq nS)(T:Ŀ (Ĳ×Int)->Zb->Cq nS):Ŀ Ze->Ŀ (Ĳ×Int)->Zb->Cq nS
 |[],D,B=>T D B
 |x::l,D,B=>Cq.bind (f x D B) λo=>Cq.ê (o.1.2=0) (pd f T l o.2.1 o.2.2)
def tj(k:Zc)(q:Ze)(D:Ŀ (Ĳ×Int))(B:Zb):Cq nS:=
 Cq.bind (tI k q) λs=>Cq.ê (s.size<=1000000) (match fj D s with
  |some a=>Cq.ret ((a,0),D,B)
  |none=>Cq.ê (((B.t.length:Int)<100/\B.next<1000000)/\(eX D s B.next).length<=small) (Cq.ret ((B.next,0),eX D s B.next,⟨B.t++[Zd.mk B.next k q 0 0 (-1) false],i64.wrap (B.next+1)⟩)))
def vm:Nat->Zc->Ze->Ŀ (Ĳ×Int)->Zb->Cq nS
 |0,_,_,_,_=>Cq.fail
 |n+1,k,q,D,B=>Cq.bind (yR q) λl=>pd (vm n k) (tj k q) l D B
def Fm(a:(Ŀ Int))(b:Int):Cq (Ŀ Int):=
 Cq.ê ((a++[u8.wrap b]).length<=small) (Cq.ret (a++[u8.wrap b]))
def Fl:((Ŀ Int)×Int)->Cq (((Ŀ Int)×Int)):=
 Cq.loop λc=>match c with|(b,a)=>if 127<a then(Cq.ê ((b++[u8.wrap ((u8.wrap (Int.tmod a 128))+128)]).length<=small) (Cq.ret (.inl ((b++[u8.wrap ((u8.wrap (Int.tmod a 128))+128)]),u64.wrap (Int.tdiv a 128)))))else(Cq.ret (.inr (b,a)))
def uq(a:(Ŀ Int))(b:Int):Cq (Ŀ Int):=
 Cq.next (Fl (a,b)) λc=>match c with|(d,e)=>Fm d e
def AS(b:(Ŀ Int))(a:Int):Cq (Ŀ Int):=
 if a<0 then(Cq.bind (uq b (u64.wrap ((u64.wrap ((u64.wrap (i64.wrap (0-(i64.wrap (a+1)))))*2))+1))) λc=>Cq.ret c)else(Cq.bind (uq b (u64.wrap ((u64.wrap a)*2))) λd=>Cq.ret d)
def ZqR(a:(Ŀ Int)):Cq (Ŀ Int):=
 Cq.ret a
def ZqQ(d:Zg):((Ŀ Int)×Int)->Cq (Ŀ Int):=
 Cq.loop λe=>match e with|(b,c)=>if c<(d.χ.length:Int)then(Cq.Θ d.χ c λa=>Cq.ê ((b++[u8.wrap (Int.fdiv a (2 ^ (min (24:Int).toNat u32.bits))),u8.wrap (Int.fdiv a (2 ^ (min (16:Int).toNat u32.bits))),u8.wrap (Int.fdiv a (2 ^ (min (8:Int).toNat u32.bits))),u8.wrap a]).length<=small) (Cq.ret (.inl ((b++[u8.wrap (Int.fdiv a (2 ^ (min (24:Int).toNat u32.bits))),u8.wrap (Int.fdiv a (2 ^ (min (16:Int).toNat u32.bits))),u8.wrap (Int.fdiv a (2 ^ (min (8:Int).toNat u32.bits))),u8.wrap a]),i64.wrap (c+1)))))else(Cq.ret (.inr b))
def EI(c:(Ŀ Int))(a:Zg)(d:Int):Cq (Ŀ Int):=
 Cq.bind (uq c (u64.wrap ((u64.wrap ((u64.wrap (a.χ.length:Int))*2))+d))) λb=>Cq.next (ZqQ a (b,0)) λe=>match e with|f=>ZqR f
def A8(b:(Ŀ Int))(a:Zg):Cq (Ŀ Int):=
 if a.neg=true then(EI b a 1)else(EI b a 0)
def QG(d:(Ŀ Int))(a:Zf):Cq (Ŀ Int):=
 Cq.bind (A8 d a.num) λb=>Cq.bind (A8 b a.den) λc=>Cq.ret c
def Ztq(a:(Ŀ Int)):Cq (Ŀ Int):=
 Cq.ret a
def Ztr(a:Int)(b:(Ŀ Int)):Cq (((Ŀ Int)×Int)⊕(Ŀ Int)):=
 Cq.ret (.inl (b,i64.wrap (a+1)))
def Ztp(d:(Ŀ Za))(e:Int):((Ŀ Int)×Int)->Cq (Ŀ Int):=
 Cq.loop λf=>match f with|(b,a)=>if a<8 then(Cq.Θ d e λg=>Cq.ê (0<=a/\a<8) (Cq.bind (uq b (u64.wrap (Ζ g.m a))) λc=>Cq.ret (.inl (c,i64.wrap (a+1)))))else(Cq.ret (.inr b))
def Zto(b:(Ŀ Za)):((Ŀ Int)×Int)->Cq (Ŀ Int):=
 Cq.loop λf=>match f with|(d,a)=>if a<(b.length:Int)then(Cq.Θ b a λg=>Cq.bind (QG d g.c) λe=>Cq.next (Ztp b a (e,0)) λh=>match h with|i=>Ztr a i)else(Cq.ret (.inr d))
def F2(c:(Ŀ Int))(a:(Ŀ Za)):Cq (Ŀ Int):=
 Cq.bind (uq c (u64.wrap (a.length:Int))) λb=>Cq.next (Zto a (b,0)) λd=>match d with|e=>Ztq e
def ZqN(a:(Ŀ Int)):Cq (Ŀ Int):=
 Cq.ret a
def ZqM(b:(Ŀ (Ŀ Za))):((Ŀ Int)×Int)->Cq (Ŀ Int):=
 Cq.loop λe=>match e with|(c,a)=>if a<(b.length:Int)then(Cq.Θ b a λf=>Cq.bind (F2 c f) λd=>Cq.ret (.inl (d,i64.wrap (a+1))))else(Cq.ret (.inr c))
def FO(c:(Ŀ Int))(a:(Ŀ (Ŀ Za))):Cq (Ŀ Int):=
 Cq.bind (uq c (u64.wrap (a.length:Int))) λb=>Cq.next (ZqM a (b,0)) λd=>match d with|e=>ZqN e
def vw(e:(Ŀ Int))(a:Zc):Cq (Ŀ Int):=
 Cq.bind (AS e a.n) λb=>Cq.bind (FO b a.eqs) λc=>Cq.bind (FO c a.ε) λd=>Cq.ret d
def yP(c d:Zc):Cq Bool:=Cq.bind (vw [] c) λa=>Cq.bind (vw [] d) λb=>Cq.ret (decide (bytesOf a=bytesOf b))
def Zq3(a:(Ŀ (Fin 8->Int))):Cq ((Ŀ (Fin 8->Int))):=
 Cq.ret a
def Zq4(b:Int)(a:(Ŀ (Fin 8->Int))):Cq (((Ŀ (Fin 8->Int))×Int)⊕(((Ŀ (Fin 8->Int))))):=
 Cq.ret (.inl (a,i64.wrap (b+1)))
def Zq5(b:Int)(a:(Ŀ (Fin 8->Int))):Cq (((Ŀ (Fin 8->Int))×Int)⊕(((Ŀ (Fin 8->Int))))):=
 Cq.ret (.inl (a,i64.wrap (b+1)))
def Zq6(a:(Ŀ (Fin 8->Int)))(c:Int)(b:(Fin 8->Int)):Cq (((Ŀ (Fin 8->Int))×Int)⊕(((Ŀ (Fin 8->Int))))):=
 Cq.ê ((a++[b]).length<=small) (Cq.ret (.inl ((a++[b]),i64.wrap (c+1))))
def Zq2(c:(Ŀ (Fin 8->Int)))(d:Int)(e:Int):(Int×(Fin 8->Int))->Cq (Fin 8->Int):=
 Cq.loop λf=>match f with|(a,b)=>if d<a then(Cq.Θ c e λg=>Cq.ê (0<=i64.wrap (a-1)/\(i64.wrap (a-1))<8) (Cq.ê (0<=a/\a<8) (Cq.ret (.inl (i64.wrap (a-1),ζ b a.toNat (Ζ g (i64.wrap (a-1))))))))else(Cq.ret (.inr b))
def Zq1(g:Int)(a:(Ŀ (Fin 8->Int)))(d:Int)(e:Int):((Ŀ (Fin 8->Int))×Int)->Cq (((Ŀ (Fin 8->Int)))):=
 Cq.loop λh=>match h with|(b,c)=>if c<g then(Cq.Θ a e λi=>Cq.Θ a e λj=>Cq.ê (0<=c/\c<8) (Cq.ê (0<=d/\d<8) (Cq.next (Zq2 a d e (c,ζ i d.toNat (Ζ j c))) λk=>match k with|f=>Zq6 b c f)))else(Cq.ret (.inr b))
def Zq0(f:Int)(b:(Ŀ (Fin 8->Int)))(e:Int):((Ŀ (Fin 8->Int))×Int)->Cq (((Ŀ (Fin 8->Int)))):=
 Cq.loop λg=>match g with|(a,d)=>if d<(b.length:Int)then(Cq.next (Zq1 f b e d (a,e)) λh=>match h with|c=>Zq5 d c)else(Cq.ret (.inr a))
def ZqZ(d:Int):((Ŀ (Fin 8->Int))×Int)->Cq (((Ŀ (Fin 8->Int)))):=
 Cq.loop λe=>match e with|(a,c)=>if c<d then(Cq.next (Zq0 d a c ([],0)) λf=>match f with|b=>Zq4 c b)else(Cq.ret (.inr a))
def K2(b:Int):Cq ((Ŀ (Fin 8->Int))):=
 Cq.next (ZqZ b ([ζ (ζ (ζ (ζ (ζ (ζ (ζ (ζ (λ_=>0) 0 0) 1 1) 2 2) 3 3) 4 4) 5 5) 6 6) 7 7],0)) λc=>match c with|a=>Zq3 a
def Zs1(b:(Ŀ Int))(a:Int):Cq (Ŀ Int):=
 Cq.ê (0<=(0:Int)/\(0:Int)<=a/\a<=(b.length:Int)) (Cq.ret ((b.take a.toNat).drop (0:Int).toNat))
def Zs0(b:(Ŀ Int)):Int->Cq Int:=
 Cq.loop λc=>match c with|a=>if 0<a then(Cq.Θ b (i64.wrap (a-1)) λd=>if d=0 then(Cq.ret (.inl (i64.wrap (a-1))))else(Cq.ret (.inr a)))else(Cq.ret (.inr a))
def xu(a:(Ŀ Int)):Cq (Ŀ Int):=
 Cq.next (Zs0 a (a.length:Int)) λb=>match b with|c=>Zs1 a c
def A5(a:Int):Cq (Ŀ Int):=
 Cq.bind (xu [u32.wrap (Int.tmod a 4294967296),u32.wrap (u64.wrap (Int.tdiv a 4294967296))]) λb=>Cq.ret b
def rZ(b:Bool)(c:(Ŀ Int)):Cq Zg:=
 Cq.bind (xu c) λa=>if b=true then(Cq.ret (Zg.mk (decide (0<(a.length:Int))) a))else(Cq.ret (Zg.mk false a))
def ur(a:Int):Cq Zg:=
 if a<0 then(Cq.bind (A5 (u64.wrap ((u64.wrap (i64.wrap (0-(i64.wrap (a+1)))))+1))) λb=>Cq.bind (rZ true b) λc=>Cq.ret c)else(Cq.bind (A5 (u64.wrap a)) λd=>Cq.bind (rZ false d) λe=>Cq.ret e)
def Bi(a:Zg):Cq Int:=
 if a.neg=true then(Cq.ret (-1))else(Cq.ret (if 1<(a.χ.length:Int)then 1 else(a.χ.length:Int)))
def zd(a:(Ŀ Int))(b:Int):Cq Int:=
 if b<(a.length:Int)then(Cq.Θ a b λc=>Cq.ret (u64.wrap c))else(Cq.ret 0)
def Ks(a:(Ŀ Int)):Cq Int:=
 Cq.bind (zd a 1) λb=>Cq.bind (zd a 0) λc=>Cq.ret (u64.wrap ((u64.wrap (b*4294967296))+c))
def ZpA(a:Int):Cq Int:=
 Cq.ret a
def Zpz:(Int×Int)->Cq Int:=
 Cq.loop λc=>match c with|(b,a)=>if 0<a then(Cq.ê (a≠0) (Cq.ret (.inl (a,Int.tmod b a))))else(Cq.ret (.inr b))
def RR(a:Int)(b:Int):Cq Int:=
 Cq.next (Zpz (a,b)) λc=>match c with|d=>ZpA d
def ZmJ:Cq Int:=
 Cq.ret 0
def ZmI(b:(Ŀ Int))(c:(Ŀ Int)):Int->Cq (Int⊕Unit):=
 Cq.loop λd=>match d with|a=>if 0<=a then(Cq.Θ b a λe=>Cq.Θ c a λf=>if e<f then(Cq.ret (.inr (.inl (-1))))else(Cq.Θ b a λg=>Cq.Θ c a λh=>if h<g then(Cq.ret (.inr (.inl 1)))else(Cq.ret (.inl (i64.wrap (a-1))))))else(Cq.ret (.inr (.inr ())))
def Z5(a:(Ŀ Int))(b:(Ŀ Int)):Cq Int:=
 if(a.length:Int)<(b.length:Int)then(Cq.ret (-1))else(if(b.length:Int)<(a.length:Int)then(Cq.ret 1)else(Cq.next (ZmI a b (i64.wrap ((a.length:Int)-1))) λd=>match d with|.inl c=>Cq.ret c|.inr ()=>ZmJ))
def ZnP(a:(Ŀ Int))(b:Int):Cq ((Ŀ Int)×Int):=
 Cq.bind (xu a) λc=>Cq.ret (c,b)
def ZnO(f:(Ŀ Int))(d:Int):((Ŀ Int)×Int×Int)->Cq (((Ŀ Int)×Int)):=
 Cq.loop λg=>match g with|(a,b,c)=>if 0<=c then(Cq.Θ f c λe=>Cq.ê (d≠0) (Cq.Θ a c λh=>Cq.ê (d≠0) (Cq.ret (.inl ((a.set c.toNat (u32.wrap (u64.wrap (Int.tdiv (u64.wrap ((u64.wrap (b*4294967296))+(u64.wrap e))) d)))),Int.tmod (u64.wrap ((u64.wrap (b*4294967296))+(u64.wrap e))) d,i64.wrap (c-1))))))else(Cq.ret (.inr (a,b)))
def Rg(a:(Ŀ Int))(d:Int):Cq ((Ŀ Int)×Int):=
 Cq.ê (0<=(a.length:Int)/\(a.length:Int)<=1000000) (Cq.next (ZnO a d ((List.replicate (a.length:Int).toNat 0),0,i64.wrap ((a.length:Int)-1))) λe=>match e with|(b,c)=>ZnP b c)
def Zqv(a:(Ŀ Int)):Cq (Ŀ Int):=
 Cq.bind (xu a) λb=>Cq.ret b
def Zqw(b:(Ŀ Int))(a:Int)(c:(Ŀ Int))(d:Int):Cq (((Ŀ Int)×Int)⊕(Ŀ Int)):=
 Cq.Θ c (i64.wrap (a+(b.length:Int))) λe=>Cq.ret (.inl ((c.set (i64.wrap (a+(b.length:Int))).toNat (u32.wrap d)),i64.wrap (a+1)))
def Zqu(f:(Ŀ Int))(e:(Ŀ Int))(b:Int):((Ŀ Int)×Int×Int)->Cq (((Ŀ Int)×Int)):=
 Cq.loop λj=>match j with|(c,d,a)=>if a<(e.length:Int)then(Cq.Θ f b λg=>Cq.Θ e a λh=>Cq.Θ c (i64.wrap (b+a)) λi=>Cq.Θ c (i64.wrap (b+a)) λk=>Cq.ret (.inl ((c.set (i64.wrap (b+a)).toNat (u32.wrap (Int.tmod (u64.wrap ((u64.wrap ((u64.wrap ((u64.wrap g)*(u64.wrap h)))+(u64.wrap i)))+d)) 4294967296))),u64.wrap (Int.tdiv (u64.wrap ((u64.wrap ((u64.wrap ((u64.wrap g)*(u64.wrap h)))+(u64.wrap i)))+d)) 4294967296),i64.wrap (a+1))))else(Cq.ret (.inr (c,d)))
def Zqt(b:(Ŀ Int))(c:(Ŀ Int)):((Ŀ Int)×Int)->Cq (Ŀ Int):=
 Cq.loop λg=>match g with|(d,a)=>if a<(b.length:Int)then(Cq.next (Zqu b c a (d,0,0)) λh=>match h with|(e,f)=>Zqw c a e f)else(Cq.ret (.inr d))
def SE(a:(Ŀ Int))(b:(Ŀ Int)):Cq (Ŀ Int):=
 Cq.ê (0<=i64.wrap ((a.length:Int)+(b.length:Int))/\(i64.wrap ((a.length:Int)+(b.length:Int)))<=1000000) (Cq.next (Zqt a b ((List.replicate (i64.wrap ((a.length:Int)+(b.length:Int))).toNat 0),0)) λd=>match d with|c=>Zqv c)
def Kb(a:(Ŀ Int))(b:(Ŀ Int)):Cq ((Ŀ Int)×(Ŀ Int)):=
 Cq.bind (Z5 a b) λd=>if d<0 then(Cq.ret ([],a))else(if(b.length:Int)=1 then(Cq.Θ b 0 λf=>Cq.bind (Rg a (u64.wrap f)) λc=>Cq.bind (A5 c.2) λe=>Cq.ret (c.1,e))else Cq.fail)
def Zpy(a:(Ŀ Int)):Cq (Ŀ Int):=
 Cq.ret a
def P8(c:(Ŀ Int))(b:(Ŀ Int))(a:Bool):Cq (((Ŀ Int)×(Ŀ Int))⊕((Ŀ Int)⊕(Ŀ Int))):=
 if a=true then(Cq.bind (Ks c) λd=>Cq.bind (Ks b) λe=>Cq.bind (RR d e) λf=>Cq.bind (A5 f) λg=>Cq.ret (.inr (.inl g)))else(Cq.bind (Kb c b) λh=>Cq.ret (.inl (b,h.2)))
def Zpx:((Ŀ Int)×(Ŀ Int))->Cq ((Ŀ Int)⊕(Ŀ Int)):=
 Cq.loop λc=>match c with|(a,b)=>if 0<(b.length:Int)then(if(a.length:Int)<=2 then(P8 a b (decide ((b.length:Int)<=2)))else(P8 a b false))else(Cq.ret (.inr (.inr a)))
def RQ(b:(Ŀ Int))(c:(Ŀ Int)):Cq (Ŀ Int):=
 Cq.next (Zpx (b,c)) λd=>match d with|.inl a=>Cq.ret a|.inr e=>Zpy e
def xJ(c:Zg)(d:Zg):Cq Zg:=
 Cq.bind (RQ c.χ d.χ) λa=>Cq.bind (rZ false a) λb=>Cq.ret b
def Zpw(d:Zg)(e:Zg)(f:(Ŀ Int))(a:(Ŀ Int)):Cq (Zg×Zg×Int):=
 Cq.bind (rZ (decide (¬d.neg=e.neg)) f) λb=>Cq.bind (rZ false a) λc=>Cq.ret (b,c,0)
def P7(c:Zg)(d:Zg)(b:(Ŀ Int)×(Ŀ Int))(a:Bool):Cq (Zg×Zg×Int):=
 if a=true then Cq.fail else(Zpw c d b.1 b.2)
def yV(b:Zg)(c:Zg):Cq (Zg×Zg×Int):=
 if(c.χ.length:Int)=0 then Cq.fail else(Cq.bind (Kb b.χ c.χ) λa=>if b.neg=true then(P7 b c a (decide (0<(a.2.length:Int))))else(P7 b c a false))
def Le(b:Zg)(c:Zg):Cq Zg:=
 Cq.bind (yV b c) λa=>Cq.ret a.1
def Mf(a:Zg):Cq Zg:=
 Cq.bind (rZ (!a.neg) a.χ) λb=>Cq.ret b
def P9(d:Zg)(e:Zg)(a:Zg):Cq Zf:=
 Cq.bind (Le d a) λb=>Cq.bind (Le e a) λc=>Cq.ret (Zf.mk b c)
def AP(c:Zg)(a:Zg):Cq Zf:=
 Cq.bind (xJ c a) λb=>Cq.bind (Bi a) λd=>if d<0 then(Cq.bind (Mf b) λe=>P9 c a e)else(P9 c a b)
def Gl(d:Zg)(a:Zg):Cq (Zf×Int):=
 Cq.bind (Bi a) λb=>if b=0 then Cq.fail else(Cq.bind (AP d a) λc=>Cq.ret (c,0))
def oI(b:Zf):Cq Int:=
 Cq.bind (Bi b.num) λa=>Cq.ret a
def Zqz:Cq Bool:=
 Cq.ret true
def Zqy(b:(Fin 8->Int)):Int->Cq (Bool⊕Unit):=
 Cq.loop λc=>match c with|a=>if a<8 then(Cq.ê (0<=a/\a<8) (if(Ζ b a)<0 then(Cq.ret (.inr (.inl false)))else(Cq.ê (0<=a/\a<8) (if 65535<(Ζ b a)then Cq.fail else(Cq.ret (.inl (i64.wrap (a+1))))))))else(Cq.ret (.inr (.inr ())))
def FM(b:(Fin 8->Int)):Cq Bool:=
 Cq.next (Zqy b 0) λc=>match c with|.inl a=>Cq.ret a|.inr ()=>Zqz
def Zve(a:(Fin 8->Int)):Cq ((Fin 8->Int)×Int):=
 Cq.bind (FM a) λb=>if(!b)=true then Cq.fail else(Cq.ret (a,0))
def Zvd(c:(Fin 8->Int)):(Int×(Fin 8->Int))->Cq (Fin 8->Int):=
 Cq.loop λd=>match d with|(a,b)=>if a<8 then(Cq.ê (0<=a/\a<8) (Cq.ê (0<=a/\a<8) (Cq.ê (0<=a/\a<8) (Cq.ret (.inl (i64.wrap (a+1),ζ b a.toNat (i64.wrap ((Ζ b a)+(Ζ c a)))))))))else(Cq.ret (.inr b))
def Mh(b:(Fin 8->Int))(c:(Fin 8->Int)):Cq ((Fin 8->Int)×Int):=
 Cq.next (Zvd c (0,b)) λd=>match d with|a=>Zve a
def rk(a:Zg)(b:Zg):Cq Zg:=
 Cq.bind (SE a.χ b.χ) λc=>Cq.bind (rZ (decide (¬a.neg=b.neg)) c) λd=>Cq.ret d
def rl(a:Zf)(b:Zf):Cq Zf:=
 Cq.bind (rk a.num b.num) λc=>Cq.bind (rk a.den b.den) λd=>Cq.bind (AP c d) λe=>Cq.ret e
def ZqF(a:(Ŀ Za)):Cq ((Ŀ Za)×Int):=
 Cq.ret (a,0)
def ZqE(g:Zf)(h:(Fin 8->Int))(f:(Ŀ Za)):((Ŀ Za)×Int)->Cq (((Ŀ Za)×Int)⊕(Ŀ Za)):=
 Cq.loop λi=>match i with|(a,d)=>if d<(f.length:Int)then(Cq.Θ f d λj=>Cq.bind (Mh h j.m) λb=>if ¬b.2=0 then Cq.fail else(Cq.Θ f d λk=>Cq.bind (rl g k.c) λe=>Cq.ê ((a++[(Za.mk e b.1)]).length<=small) (Cq.ret (.inl ((a++[(Za.mk e b.1)]),i64.wrap (d+1))))))else(Cq.ret (.inr (.inr a)))
def FN(b:Zf)(e:(Fin 8->Int))(f:(Ŀ Za)):Cq ((Ŀ Za)×Int):=
 Cq.bind (oI b) λc=>if c=0 then(Cq.ret ([],0))else(Cq.next (ZqE b e f ([],0)) λg=>match g with|.inl d=>Cq.ret d|.inr a=>ZqF a)
def Gk(a:Zf):Cq Zf:=
 Cq.bind (Mf a.num) λb=>Cq.ret (Zf.mk b a.den)
def JT(a:(Ŀ Za))(b:Zf):Cq (Ŀ Za):=
 Cq.bind (FN b (λ_=>0) a) λc=>Cq.ret c.1
def JU(a:(Ŀ Za))(d:Zg)(e:Zg):Cq (Ŀ Za):=
 Cq.bind (Gl d e) λb=>Cq.Θ a 0 λh=>Cq.bind (oI h.c) λf=>if f<0 then(Cq.bind (Gk b.1) λg=>JT a g)else(JT a b.1)
def ZpF(b:(Ŀ Za))(g:Zg):(Int×Zg)->Cq Zg:=
 Cq.loop λi=>match i with|(a,d)=>if a<(b.length:Int)then(Cq.Θ b a λj=>Cq.bind (yV g j.c.den) λh=>Cq.Θ b a λk=>Cq.bind (rk k.c.num h.1) λe=>Cq.bind (xJ d e) λf=>Cq.ret (.inl (i64.wrap (a+1),f)))else(Cq.ret (.inr d))
def Qb(a:(Ŀ Za))(c:Zg)(b:Zg):Cq (Ŀ Za):=
 Cq.next (ZpF a b (0,c)) λe=>match e with|d=>JU a b d
def ZpG(b:(Ŀ Za)):(Int×Zg)->Cq Zg:=
 Cq.loop λh=>match h with|(a,d)=>if a<(b.length:Int)then(Cq.Θ b a λi=>Cq.Θ b a λj=>Cq.bind (xJ d j.c.den) λe=>Cq.bind (yV i.c.den e) λf=>Cq.bind (rk d f.1) λg=>Cq.ret (.inl (i64.wrap (a+1),g)))else(Cq.ret (.inr d))
def Fk(a:(Ŀ Za)):Cq (Ŀ Za):=
 if(a.length:Int)=0 then(Cq.ret [])else(Cq.bind (ur 1) λb=>Cq.bind (ur 0) λc=>Cq.next (ZpG a (0,b)) λe=>match e with|d=>Qb a c d)
def ZpC(a:Int):Cq Int:=
 Cq.ret a
def ZpB(c:(Fin 8->Int)):(Int×Int)->Cq Int:=
 Cq.loop λd=>match d with|(b,a)=>if a<8 then(Cq.ê (0<=a/\a<8) (Cq.ret (.inl (i64.wrap (b+(Ζ c a)),i64.wrap (a+1)))))else(Cq.ret (.inr b))
def Kt(a:(Fin 8->Int)):Cq Int:=
 Cq.next (ZpB a (0,0)) λb=>match b with|c=>ZpC c
def ZpE(a:Int):Cq Int:=
 Cq.ret a
def ZpD(d:(Ŀ Za)):(Int×Int)->Cq Int:=
 Cq.loop λe=>match e with|(b,c)=>if c<(d.length:Int)then(Cq.Θ d c λf=>Cq.bind (Kt f.m) λa=>Cq.ret (.inl (if b<a then a else b,i64.wrap (c+1))))else(Cq.ret (.inr b))
def xg(a:(Ŀ Za)):Cq Int:=
 Cq.next (ZpD a ((-1),0)) λb=>match b with|c=>ZpE c
def Zs4:Cq Bool:=
 Cq.ret true
def Zs3(b:Zg)(c:Zg):Int->Cq (Bool⊕Unit):=
 Cq.loop λd=>match d with|a=>if a<(b.χ.length:Int)then(Cq.Θ b.χ a λe=>Cq.Θ c.χ a λf=>if ¬e=f then(Cq.ret (.inr (.inl false)))else(Cq.ret (.inl (i64.wrap (a+1)))))else(Cq.ret (.inr (.inr ())))
def LC(a:Zg)(b:Zg):Cq Bool:=
 if ¬a.neg=b.neg then(Cq.ret false)else(if ¬(a.χ.length:Int)=(b.χ.length:Int)then(Cq.ret false)else(Cq.next (Zs3 a b 0) λd=>match d with|.inl c=>Cq.ret c|.inr ()=>Zs4))
def Bj(a:Zf)(b:Zf):Cq Bool:=
 Cq.bind (LC a.num b.num) λc=>match c with|false=>(Cq.ret false)|true=>(Cq.bind (LC a.den b.den) λd=>Cq.ret d)
def EF(a:Za)(b:Za):Cq Bool:=
 if a.m=b.m then(Cq.bind (Bj a.c b.c) λd=>Cq.ret d)else(Cq.ret false)
def Ztl:Cq Bool:=
 Cq.ret true
def Rr(b:(Ŀ Za))(d:(Ŀ Za)):Int->Cq (Bool⊕Unit):=
 Cq.loop λe=>match e with|a=>if a<(b.length:Int)then(Cq.Θ b a λf=>Cq.Θ d a λg=>Cq.bind (EF f g) λc=>if(!c)=true then(Cq.ret (.inr (.inl false)))else(Cq.ret (.inl (i64.wrap (a+1)))))else(Cq.ret (.inr (.inr ())))
def ub(a:(Ŀ Za))(b:(Ŀ Za)):Cq Bool:=
 if ¬(a.length:Int)=(b.length:Int)then(Cq.ret false)else(Cq.next (Rr a b 0) λd=>match d with|.inl c=>Cq.ret c|.inr ()=>Ztl)
def Zvc:Cq Int:=
 Cq.ret 0
def Zvb(b:(Fin 8->Int))(c:(Fin 8->Int)):Int->Cq (Int⊕Unit):=
 Cq.loop λd=>match d with|a=>if a<8 then(Cq.ê (0<=a/\a<8) (Cq.ê (0<=a/\a<8) (if(Ζ b a)<(Ζ c a)then(Cq.ret (.inr (.inl (-1))))else(Cq.ê (0<=a/\a<8) (Cq.ê (0<=a/\a<8) (if(Ζ c a)<(Ζ b a)then(Cq.ret (.inr (.inl 1)))else(Cq.ret (.inl (i64.wrap (a+1))))))))))else(Cq.ret (.inr (.inr ())))
def xK(b:(Fin 8->Int))(c:(Fin 8->Int)):Cq Int:=
 Cq.next (Zvb b c 0) λd=>match d with|.inl a=>Cq.ret a|.inr ()=>Zvc
def Me(a:Zg)(b:Zg):Cq Int:=
 if a.neg=true then(if(!b.neg)=true then(Cq.ret (-1))else(if a.neg=true then(if a.neg=true then(Cq.bind (Z5 b.χ a.χ) λc=>Cq.ret c)else(Cq.bind (Z5 a.χ b.χ) λd=>Cq.ret d))else(if b.neg=true then(Cq.ret 1)else(if a.neg=true then(Cq.bind (Z5 b.χ a.χ) λe=>Cq.ret e)else(Cq.bind (Z5 a.χ b.χ) λf=>Cq.ret f)))))else(if a.neg=true then(if a.neg=true then(Cq.bind (Z5 b.χ a.χ) λg=>Cq.ret g)else(Cq.bind (Z5 a.χ b.χ) λh=>Cq.ret h))else(if b.neg=true then(Cq.ret 1)else(if a.neg=true then(Cq.bind (Z5 b.χ a.χ) λi=>Cq.ret i)else(Cq.bind (Z5 a.χ b.χ) λj=>Cq.ret j))))
def vF(a:Zf)(b:Zf):Cq Int:=
 Cq.bind (rk a.num b.den) λc=>Cq.bind (rk b.num a.den) λd=>Cq.bind (Me c d) λe=>Cq.ret e
def Kv(a:(Ŀ Za))(b:(Ŀ Za)):Cq Int:=
 if(a.length:Int)<(b.length:Int)then(Cq.ret (-1))else(if(b.length:Int)<(a.length:Int)then(Cq.ret 1)else(Cq.ret 0))
def RT(b:(Ŀ Za))(d:(Ŀ Za))(a:Int):Cq (Int⊕(Int⊕Unit)):=
 Cq.Θ b a λi=>Cq.Θ d a λj=>Cq.bind (xK i.m j.m) λe=>if ¬e=0 then(Cq.Θ b a λk=>Cq.Θ d a λl=>Cq.bind (xK k.m l.m) λf=>Cq.ret (.inr (.inl f)))else(Cq.Θ b a λn=>Cq.Θ d a λo=>Cq.bind (vF n.c o.c) λg=>if ¬g=0 then(Cq.Θ b a λp=>Cq.Θ d a λq=>Cq.bind (vF p.c q.c) λh=>Cq.ret (.inr (.inl h)))else(Cq.ret (.inl (i64.wrap (a+1)))))
def RS(b:(Ŀ Za))(c:(Ŀ Za)):Int->Cq (Int⊕Unit):=
 Cq.loop λd=>match d with|a=>if a<(b.length:Int)then(if a<(c.length:Int)then(RT b c a)else(Cq.ret (.inr (.inr ()))))else(Cq.ret (.inr (.inr ())))
def Gn(a:(Ŀ Za))(b:(Ŀ Za)):Cq Int:=
 Cq.next (RS a b 0) λd=>match d with|.inl c=>Cq.ret c|.inr ()=>Kv a b
def ZpI(a:(Ŀ (Ŀ Za))):Cq ((Ŀ (Ŀ Za))):=
 Cq.ret a
def tZ(a:(Ŀ (Ŀ Za)))(d:Int)(c:(Ŀ Za))(b:Int):Cq (((Ŀ (Ŀ Za))×Int)⊕(((Ŀ (Ŀ Za))))):=
 Cq.ê (0<=b/\b<=(a.length:Int)/\(a.length:Int)<=(a.length:Int)) (Cq.ê (([c]++((a.take (a.length:Int).toNat).drop b.toNat)).length<=small) (Cq.ê (0<=(0:Int)/\(0:Int)<=b/\b<=(a.length:Int)) (Cq.ê ((((a.take b.toNat).drop (0:Int).toNat)++([c]++((a.take (a.length:Int).toNat).drop b.toNat))).length<=small) (Cq.ret (.inl ((((a.take b.toNat).drop (0:Int).toNat)++([c]++((a.take (a.length:Int).toNat).drop b.toNat))),i64.wrap (d+1)))))))
def JY(e:Bool)(a:(Ŀ (Ŀ Za)))(b:Int)(d:(Ŀ Za))(c:Int):Cq (((Ŀ (Ŀ Za))×Int)⊕(((Ŀ (Ŀ Za))))):=
 if(d.length:Int)=0 then(Cq.ret (.inl (a,i64.wrap (b+1))))else(if e=true then(Cq.bind (xg d) λf=>if f=0 then(Cq.ret (.inl (a,i64.wrap (b+1))))else(if c<(a.length:Int)then(Cq.Θ a c λi=>Cq.bind (ub i d) λg=>if g=true then(Cq.ret (.inl (a,i64.wrap (b+1))))else(tZ a b d c))else(tZ a b d c)))else(if c<(a.length:Int)then(Cq.Θ a c λj=>Cq.bind (ub j d) λh=>if h=true then(Cq.ret (.inl (a,i64.wrap (b+1))))else(tZ a b d c))else(tZ a b d c)))
def JX(b:(Ŀ (Ŀ Za)))(c:(Ŀ Za)):Int->Cq Int:=
 Cq.loop λe=>match e with|a=>if a<(b.length:Int)then(Cq.Θ b a λf=>Cq.bind (Gn f c) λd=>if d<0 then(Cq.ret (.inl (i64.wrap (a+1))))else(Cq.ret (.inr a)))else(Cq.ret (.inr a))
def ZpH(c:(Ŀ (Ŀ Za)))(e:Bool):((Ŀ (Ŀ Za))×Int)->Cq (((Ŀ (Ŀ Za)))):=
 Cq.loop λg=>match g with|(a,b)=>if b<(c.length:Int)then(Cq.Θ c b λh=>Cq.bind (Fk h) λd=>Cq.next (JX a d 0) λi=>match i with|f=>JY e a b d f)else(Cq.ret (.inr a))
def Fo(a:(Ŀ (Ŀ Za)))(b:Bool):Cq ((Ŀ (Ŀ Za))):=
 Cq.next (ZpH a b ([],0)) λd=>match d with|c=>ZpI c
def ZX(c:Int):Cq Zf:=
 Cq.bind (ur c) λa=>Cq.bind (ur 1) λb=>Cq.ret (Zf.mk a b)
def EE(a:Zf):Cq (Ŀ Za):=
 Cq.bind (oI a) λb=>if b=0 then(Cq.ret [])else(Cq.ret [(Za.mk a (λ_=>0))])
def Lb(a:Zg):Cq Bool:=
 if(a.χ.length:Int)=0 then(Cq.ret (!a.neg))else(Cq.Θ a.χ (i64.wrap ((a.χ.length:Int)-1)) λb=>Cq.ret (decide (¬b=0)))
def Zqx(a:Zf):Cq Bool:=
 Cq.bind (xJ a.num a.den) λb=>Cq.bind (ur 1) λc=>Cq.bind (Me b c) λd=>Cq.ret (decide (d=0))
def uk(a:Zf):Cq Bool:=
 Cq.bind (Lb a.num) λb=>match b with|false=>(Cq.ret false)|true=>(Cq.bind (Lb a.den) λc=>match c with|false=>(Cq.ret false)|true=>(Cq.bind (Bi a.den) λd=>if d<1 then Cq.fail else(Zqx a)))
def ZqH:Cq Bool:=
 Cq.ret true
def JR(b:(Ŀ Za))(a:Int):Cq (Int⊕(Bool⊕Unit)):=
 if 0<a then(Cq.Θ b (i64.wrap (a-1)) λd=>Cq.Θ b a λe=>Cq.bind (xK d.m e.m) λc=>if c<=0 then Cq.fail else(Cq.ret (.inl (i64.wrap (a+1)))))else(Cq.ret (.inl (i64.wrap (a+1))))
def ZqG(a:(Ŀ Za)):Int->Cq (Bool⊕Unit):=
 Cq.loop λg=>match g with|b=>if b<(a.length:Int)then(Cq.Θ a b λh=>Cq.bind (uk h.c) λd=>match d with|false=>(Cq.ret (.inr (.inl false)))|true=>(Cq.Θ a b λi=>Cq.bind (oI i.c) λe=>if e=0 then(Cq.ret (.inr (.inl false)))else(Cq.Θ a b λj=>Cq.bind (FM j.m) λf=>if(!f)=true then(Cq.ret (.inr (.inl false)))else(JR a b))))else(Cq.ret (.inr (.inr ())))
def A6(b:(Ŀ Za)):Cq Bool:=
 Cq.next (ZqG b 0) λc=>match c with|.inl a=>Cq.ret a|.inr ()=>ZqH
def Zva(a:Int):Cq Int:=
 Cq.ret (u8.wrap a)
def Zu9(c:Int):(Int×Int)->Cq Int:=
 Cq.loop λd=>match d with|(a,b)=>if b<c then(Cq.ret (.inl (i64.wrap (2*a),i64.wrap (b+1))))else(Cq.ret (.inr a))
def Mg(a:Int):Cq Int:=
 Cq.next (Zu9 a (1,0)) λb=>match b with|c=>Zva c
def ZnU(a:Int):Cq Int:=
 Cq.ret a
def ZnT(d:(Fin 8->Int)):(Int×Int)->Cq Int:=
 Cq.loop λe=>match e with|(b,a)=>if a<8 then(Cq.ê (0<=a/\a<8) (if 0<(Ζ d a)then(Cq.bind (Mg a) λc=>Cq.ret (.inl (u8.wrap (b+c),i64.wrap (a+1))))else(Cq.ret (.inl (b,i64.wrap (a+1))))))else(Cq.ret (.inr b))
def Kc(a:(Fin 8->Int)):Cq Int:=
 Cq.next (ZnT a (0,0)) λb=>match b with|c=>ZnU c
def Ztn(a:Int):Cq Int:=
 Cq.ret a
def Ztm(c:(Ŀ Za)):(Int×Int)->Cq Int:=
 Cq.loop λe=>match e with|(a,b)=>if b<(c.length:Int)then(Cq.Θ c b λf=>Cq.bind (Kc f.m) λd=>Cq.ret (.inl (u8.wrap (BitVec.ofInt u8.bits a ||| BitVec.ofInt u8.bits d).toNat,i64.wrap (b+1))))else(Cq.ret (.inr a))
def Bl(b:(Ŀ Za)):Cq Int:=
 Cq.next (Ztm b (0,0)) λc=>match c with|a=>Ztn a
def yW(a:(Ŀ Za))(b:Int):Cq Bool:=
 Cq.bind (A6 a) λc=>match c with|false=>(Cq.ret false)|true=>(Cq.bind (xg a) λd=>if d<=12 then(Cq.bind (Bl a) λe=>Cq.ê (0<=(u64.wrap b)) (Cq.ret (decide ((i64.wrap e)<(i64.wrap (1*2 ^ (min (u64.wrap b).toNat i64.bits)))))))else(Cq.ret false))
def Zvj:Cq Bool:=
 Cq.ret true
def RX(b:(Ŀ (Ŀ Za)))(d:Int):Int->Cq (Bool⊕Unit):=
 Cq.loop λe=>match e with|a=>if a<(b.length:Int)then(Cq.Θ b a λf=>Cq.bind (yW f d) λc=>if(!c)=true then(Cq.ret (.inr (.inl false)))else(Cq.ret (.inl (i64.wrap (a+1)))))else(Cq.ret (.inr (.inr ())))
def Gs(b:(Ŀ (Ŀ Za)))(c:Int):Cq Bool:=
 Cq.next (RX b c 0) λd=>match d with|.inl a=>Cq.ret a|.inr ()=>Zvj
def Qd(c:Int)(d:(Ŀ (Ŀ Za)))(e:(Ŀ (Ŀ Za))):Cq (Zc×Int):=
 Cq.bind (Fo e false) λa=>Cq.bind (Fo d true) λb=>if 12<(a.length:Int)then(Cq.ret ((Zc.mk 0 [] []),2))else(if 12<(b.length:Int)then(Cq.ret ((Zc.mk 0 [] []),2))else(Cq.ret ((Zc.mk c a b),0)))
def ZpL(c:(Ŀ (Ŀ Za))):((Ŀ (Ŀ Za))×Int)->Cq (((Ŀ (Ŀ Za)))):=
 Cq.loop λf=>match f with|(a,b)=>if b<(c.length:Int)then(Cq.Θ c b λg=>if(g.length:Int)=0 then(Cq.bind (ZX 1) λe=>Cq.bind (EE e) λd=>Cq.ê ((a++[d]).length<=small) (Cq.ret (.inl ((a++[d]),i64.wrap (b+1)))))else(Cq.ret (.inl (a,i64.wrap (b+1)))))else(Cq.ret (.inr a))
def Qe(c:Int)(a:(Ŀ (Ŀ Za)))(b:(Ŀ (Ŀ Za))):Cq (Zc×Int):=
 Cq.ê (([]++a).length<=small) (Cq.next (ZpL b (([]++a),0)) λe=>match e with|d=>Qd c b d)
def E3(a:Int)(b:(Ŀ (Ŀ Za)))(c:(Ŀ (Ŀ Za))):Cq (Zc×Int):=
 if a<1 then(Cq.ret ((Zc.mk 0 [] []),1))else(if 4<a then(Cq.ret ((Zc.mk 0 [] []),1))else(Cq.bind (Gs b a) λd=>match d with|false=>(Cq.ret ((Zc.mk 0 [] []),1))|true=>(Cq.bind (Gs c a) λe=>if(!e)=true then(Cq.ret ((Zc.mk 0 [] []),1))else(Qe a b c))))
def ZhW:Cq Bool:=
 Cq.ret true
def ZhV(a:(Fin 8->Int)):(Int×(Fin 8->Bool))->Cq (Bool⊕Unit):=
 Cq.loop λd=>match d with|(b,c)=>if b<8 then(Cq.ê (0<=b/\b<8) (if(Ζ a b)<0 then(Cq.ret (.inr (.inl false)))else(Cq.ê (0<=b/\b<8) (if 8<=(Ζ a b)then(Cq.ret (.inr (.inl false)))else(Cq.ê (0<=b/\b<8) (Cq.ê (0<=Ζ a b/\(Ζ a b)<8) (if(Ζ c (Ζ a b))=true then Cq.fail else(Cq.ê (0<=b/\b<8) (Cq.ê (0<=Ζ a b/\(Ζ a b)<8) (Cq.ret (.inl (i64.wrap (b+1),ζ c ((Ζ a b).toNat) true))))))))))))else(Cq.ret (.inr (.inr ())))
def Jn(a:(Fin 8->Int)):Cq Bool:=
 Cq.next (ZhV a (0,(λ_=>false))) λc=>match c with|.inl b=>Cq.ret b|.inr ()=>ZhW
def Zqq(a:(Ŀ Int)):Cq (Ŀ Int):=
 Cq.bind (xu a) λb=>Cq.ret b
def Zqp(f:(Ŀ Int))(g:(Ŀ Int)):((Ŀ Int)×Int×Int)->Cq (Ŀ Int):=
 Cq.loop λh=>match h with|(b,a,c)=>if c<(i64.wrap ((if(f.length:Int)<(g.length:Int)then(g.length:Int)else(f.length:Int))+1))then(Cq.bind (zd f c) λd=>Cq.bind (zd g c) λe=>Cq.Θ b c λi=>Cq.ret (.inl ((b.set c.toNat (u32.wrap (Int.tmod (u64.wrap ((u64.wrap (d+e))+a)) 4294967296))),u64.wrap (Int.tdiv (u64.wrap ((u64.wrap (d+e))+a)) 4294967296),i64.wrap (c+1))))else(Cq.ret (.inr b))
def SD(a:(Ŀ Int))(b:(Ŀ Int)):Cq (Ŀ Int):=
 Cq.ê (0<=i64.wrap ((if(a.length:Int)<(b.length:Int)then(b.length:Int)else(a.length:Int))+1)/\(i64.wrap ((if(a.length:Int)<(b.length:Int)then(b.length:Int)else(a.length:Int))+1))<=1000000) (Cq.next (Zqp a b ((List.replicate (i64.wrap ((if(a.length:Int)<(b.length:Int)then(b.length:Int)else(a.length:Int))+1)).toNat 0),0,0)) λd=>match d with|c=>Zqq c)
def Zqs(a:(Ŀ Int)):Cq (Ŀ Int):=
 Cq.bind (xu a) λb=>Cq.ret b
def Zqr(e:(Ŀ Int))(g:(Ŀ Int)):((Ŀ Int)×Int×Int)->Cq (Ŀ Int):=
 Cq.loop λh=>match h with|(b,a,c)=>if c<(e.length:Int)then(Cq.Θ e c λf=>Cq.bind (zd g c) λd=>Cq.Θ b c λi=>Cq.ret (.inl ((b.set c.toNat (u32.wrap (Int.tmod (u64.wrap ((u64.wrap ((u64.wrap (4294967296+(u64.wrap f)))-d))-a)) 4294967296))),u64.wrap (1-(u64.wrap (Int.tdiv (u64.wrap ((u64.wrap ((u64.wrap (4294967296+(u64.wrap f)))-d))-a)) 4294967296))),i64.wrap (c+1))))else(Cq.ret (.inr b))
def Ld(a:(Ŀ Int))(c:(Ŀ Int)):Cq (Ŀ Int):=
 Cq.ê (0<=(a.length:Int)/\(a.length:Int)<=1000000) (Cq.next (Zqr a c ((List.replicate (a.length:Int).toNat 0),0,0)) λd=>match d with|b=>Zqs b)
def Uv(a:Zg)(b:Zg):Cq Zg:=
 if a.neg=b.neg then(Cq.bind (SD a.χ b.χ) λc=>Cq.bind (rZ a.neg c) λd=>Cq.ret d)else(Cq.bind (Z5 a.χ b.χ) λe=>if e<0 then(Cq.bind (Ld b.χ a.χ) λf=>Cq.bind (rZ b.neg f) λg=>Cq.ret g)else(Cq.bind (Ld a.χ b.χ) λh=>Cq.bind (rZ a.neg h) λi=>Cq.ret i))
def vE(a:Zf)(b:Zf):Cq Zf:=
 Cq.bind (rk a.num b.den) λc=>Cq.bind (rk b.num a.den) λd=>Cq.bind (Uv c d) λe=>Cq.bind (rk a.den b.den) λf=>Cq.bind (AP e f) λg=>Cq.ret g
def Zvg(a:(Ŀ Za)):Cq (Ŀ Za):=
 Cq.ret a
def Ku(e:(Ŀ Za))(g:(Ŀ Za))(a:Int)(b:(Ŀ Za))(d:Int):Cq (((Ŀ Za)×Int×Int)⊕(Ŀ Za)):=
 Cq.Θ e a λj=>Cq.Θ g d λk=>Cq.bind (vE j.c k.c) λf=>Cq.bind (oI f) λh=>if ¬h=0 then(Cq.Θ e a λi=>Cq.ê ((b++[(Za.mk f i.m)]).length<=small) (Cq.ret (.inl ((b++[(Za.mk f i.m)]),i64.wrap (a+1),i64.wrap (d+1)))))else(Cq.ret (.inl (b,i64.wrap (a+1),i64.wrap (d+1))))
def AQ(f:(Ŀ Za))(c:(Ŀ Za))(a:Int)(b:(Ŀ Za))(d:Int)(e:Bool):Cq (((Ŀ Za)×Int×Int)⊕(Ŀ Za)):=
 if e=true then(Cq.Θ c a λg=>Cq.ê ((b++[g]).length<=small) (Cq.ret (.inl ((b++[g]),d,i64.wrap (a+1)))))else(Ku f c d b a)
def AR(a:(Ŀ Za))(c:(Ŀ Za))(d:Int)(e:(Ŀ Za))(b:Int):Cq (((Ŀ Za)×Int×Int)⊕(Ŀ Za)):=
 if b=(a.length:Int)then(AQ a c d e b true)else(Cq.Θ a b λg=>Cq.Θ c d λh=>Cq.bind (xK g.m h.m) λf=>AQ a c d e b (decide (f<0)))
def vu(c:(Ŀ Za))(f:(Ŀ Za))(a:(Ŀ Za))(b:Int)(d:Int)(e:Bool):Cq (((Ŀ Za)×Int×Int)⊕(Ŀ Za)):=
 if e=true then(Cq.Θ c b λg=>Cq.ê ((a++[g]).length<=small) (Cq.ret (.inl ((a++[g]),i64.wrap (b+1),d))))else(AR c f d a b)
def xf(a:(Ŀ Za))(b:(Ŀ Za))(e:(Ŀ Za))(c:Int)(d:Int):Cq (((Ŀ Za)×Int×Int)⊕(Ŀ Za)):=
 if d=(b.length:Int)then(vu a b e c d true)else(if c<(a.length:Int)then(Cq.Θ a c λg=>Cq.Θ b d λh=>Cq.bind (xK g.m h.m) λf=>vu a b e c d (decide (0<f)))else(vu a b e c d false))
def Zvf(a:(Ŀ Za))(b:(Ŀ Za)):((Ŀ Za)×Int×Int)->Cq (Ŀ Za):=
 Cq.loop λf=>match f with|(c,d,e)=>if d<(a.length:Int)then(xf a b c d e)else(if e<(b.length:Int)then(xf a b c d e)else(Cq.ret (.inr c)))
def Bu(a:(Ŀ Za))(b:(Ŀ Za)):Cq (Ŀ Za):=
 Cq.next (Zvf a b ([],0,0)) λd=>match d with|c=>Zvg c
def Zn3(a:(Ŀ Za)):Cq ((Ŀ Za)×Int):=
 Cq.ret (a,0)
def Zn4(f:(Ŀ Za))(a:(Ŀ Za))(b:Int)(d:(Fin 8->Int)):Cq (((Ŀ Za)×Int)⊕(Ŀ Za)):=
 Cq.Θ f b λg=>Cq.bind (Bu a [(Za.mk g.c d)]) λe=>Cq.ret (.inl (e,i64.wrap (b+1)))
def PM(d:(Ŀ Za))(b:(Fin 8->Int))(e:Int):(Int×(Fin 8->Int))->Cq (Fin 8->Int):=
 Cq.loop λf=>match f with|(a,c)=>if a<8 then(Cq.ê (0<=a/\a<8) (Cq.Θ d e λg=>Cq.ê (0<=a/\a<8) (Cq.ê (0<=Ζ b a/\(Ζ b a)<8) (Cq.ret (.inl (i64.wrap (a+1),ζ c ((Ζ b a).toNat) (Ζ g.m a)))))))else(Cq.ret (.inr c))
def Zn2(c:(Ŀ Za))(b:(Fin 8->Int)):((Ŀ Za)×Int)->Cq (Ŀ Za):=
 Cq.loop λf=>match f with|(a,d)=>if d<(c.length:Int)then(Cq.next (PM c b d (0,(λ_=>0))) λg=>match g with|e=>Zn4 c a d e)else(Cq.ret (.inr a))
def AF(d:(Ŀ Za))(a:(Fin 8->Int)):Cq ((Ŀ Za)×Int):=
 Cq.bind (Jn a) λc=>if(!c)=true then Cq.fail else(Cq.next (Zn2 d a ([],0)) λe=>match e with|b=>Zn3 b)
def Po(a:Zc)(b:(Ŀ (Ŀ Za)))(c:(Ŀ (Ŀ Za))):Cq Zc:=
 Cq.bind (E3 a.n b c) λd=>Cq.ret d.1
def ZmQ(c:Zc)(e:(Fin 8->Int)):((Ŀ (Ŀ Za))×Int)->Cq (((Ŀ (Ŀ Za)))):=
 Cq.loop λf=>match f with|(b,a)=>if a<(c.ε.length:Int)then(Cq.Θ c.ε a λg=>Cq.bind (AF g e) λd=>Cq.ê ((b++[d.1]).length<=small) (Cq.ret (.inl ((b++[d.1]),i64.wrap (a+1)))))else(Cq.ret (.inr b))
def Pp(a:Zc)(b:(Fin 8->Int))(c:(Ŀ (Ŀ Za))):Cq Zc:=
 Cq.next (ZmQ a b ([],0)) λe=>match e with|d=>Po a c d
def ZmR(c:Zc)(e:(Fin 8->Int)):((Ŀ (Ŀ Za))×Int)->Cq (((Ŀ (Ŀ Za)))):=
 Cq.loop λf=>match f with|(a,b)=>if b<(c.eqs.length:Int)then(Cq.Θ c.eqs b λg=>Cq.bind (AF g e) λd=>Cq.ê ((a++[d.1]).length<=small) (Cq.ret (.inl ((a++[d.1]),i64.wrap (b+1)))))else(Cq.ret (.inr a))
def EJ(a:Zc)(b:(Fin 8->Int)):Cq Zc:=
 Cq.next (ZmR a b ([],0)) λd=>match d with|c=>Pp a b c
def xh(b:(Ŀ Za))(c:Int)(a:Int):Cq Bool:=
 Cq.bind (A6 b) λd=>match d with|false=>(Cq.ret false)|true=>(Cq.bind (Bl b) λe=>Cq.ê (0<=(u64.wrap c)) (if(i64.wrap e)<(i64.wrap (1*2 ^ (min (u64.wrap c).toNat i64.bits)))then(Cq.bind (xg b) λf=>Cq.ret (decide (f<=a)))else(Cq.ret false)))
def ZpK:Cq Bool:=
 Cq.ret true
def ZpJ(b:(Ŀ (Ŀ Za)))(g:Int):Int->Cq (Bool⊕Unit):=
 Cq.loop λh=>match h with|a=>if a<(b.length:Int)then(Cq.Θ b a λi=>Cq.bind (xh i g 12) λc=>match c with|false=>(Cq.ret (.inr (.inl false)))|true=>(Cq.Θ b a λj=>if(j.length:Int)=0 then(Cq.ret (.inr (.inl false)))else(Cq.Θ b a λk=>Cq.bind (Fk k) λd=>Cq.Θ b a λl=>Cq.bind (ub d l) λe=>match e with|false=>(Cq.ret (.inr (.inl false)))|true=>(if 0<a then(Cq.Θ b (i64.wrap (a-1)) λm=>Cq.Θ b a λn=>Cq.bind (Gn m n) λf=>if 0<=f then Cq.fail else(Cq.ret (.inl (i64.wrap (a+1)))))else(Cq.ret (.inl (i64.wrap (a+1))))))))else(Cq.ret (.inr (.inr ())))
def Fp(a:(Ŀ (Ŀ Za)))(c:Int):Cq Bool:=
 if 12<(a.length:Int)then Cq.fail else(Cq.next (ZpJ a c 0) λd=>match d with|.inl b=>Cq.ret b|.inr ()=>ZpK)
def ZqP:Cq Bool:=
 Cq.ret true
def ZqO(b:Zc):Int->Cq (Bool⊕Unit):=
 Cq.loop λd=>match d with|a=>if a<(b.ε.length:Int)then(Cq.Θ b.ε a λe=>Cq.bind (xg e) λc=>if c=0 then Cq.fail else(Cq.ret (.inl (i64.wrap (a+1)))))else(Cq.ret (.inr (.inr ())))
def Qm(b:Zc):Cq Bool:=
 Cq.next (ZqO b 0) λc=>match c with|.inl a=>Cq.ret a|.inr ()=>ZqP
def A7(a:Zc):Cq Bool:=
 if a.n<1 then(Cq.ret false)else(if 4<a.n then(Cq.ret false)else(Cq.bind (Fp a.eqs a.n) λb=>match b with|false=>(Cq.ret false)|true=>(Cq.bind (Fp a.ε a.n) λc=>if(!c)=true then(Cq.ret false)else(Qm a))))
def Gr(a:Zc):Cq Ĳ:=
 Cq.bind (A7 a) λb=>if(!b)=true then Cq.fail else(Cq.bind (vw [] a) λc=>Cq.ret (bytesOf c))
def ZqY(a:Zc)(b:(Fin 8->Int)):Cq (Zc×(Fin 8->Int)):=
 Cq.ret (a,b)
def ZqX(h:Zc)(a:(Ŀ (Fin 8->Int))):(Int×Zc×(Fin 8->Int))->Cq ((Zc×(Fin 8->Int))):=
 Cq.loop λi=>match i with|(b,c,d)=>if b<(a.length:Int)then(Cq.Θ a b λj=>Cq.bind (EJ h j) λe=>Cq.bind (Gr e) λf=>Cq.bind (Gr c) λg=>if(Op.bytesLess f.toList g.toList)=true then(Cq.Θ a b λk=>Cq.ret (.inl (i64.wrap (b+1),e,k)))else(Cq.ret (.inl (i64.wrap (b+1),c,d))))else(Cq.ret (.inr (c,d)))
def K1(b:Zc):Cq (Zc×(Fin 8->Int)):=
 Cq.bind (K2 b.n) λa=>Cq.Θ a 0 λf=>Cq.bind (EJ b f) λc=>Cq.Θ a 0 λg=>Cq.next (ZqX b a (1,c,g)) λh=>match h with|(d,e)=>ZqY d e
def ZqC:Cq Bool:=
 Cq.ret true
def ZqD(b:Int)(a:Int):Cq (Int⊕(Bool⊕Unit)):=
 if a<0 then Cq.fail else(Cq.ret (.inl (i64.wrap (b+1))))
def ZqB(d:(Ŀ (Fin 8->Int)))(b:Int):(Int×Int)->Cq (Bool⊕Int):=
 Cq.loop λe=>match e with|(a,c)=>if c<(d.length:Int)then(Cq.Θ d c λf=>Cq.ê (0<=b/\b<8) (if(Ζ f b)<(-1000)then(Cq.ret (.inr (.inl false)))else(Cq.Θ d c λg=>Cq.ê (0<=b/\b<8) (if 1000<(Ζ g b)then Cq.fail else(if a=0 then(Cq.Θ d c λh=>Cq.ê (0<=b/\b<8) (Cq.ret (.inl (Ζ h b,i64.wrap (c+1)))))else(Cq.ret (.inl (a,i64.wrap (c+1)))))))))else(Cq.ret (.inr (.inr a)))
def ZqA(d:(Ŀ (Fin 8->Int))):Int->Cq (Bool⊕Unit):=
 Cq.loop λe=>match e with|b=>if b<8 then(Cq.next (ZqB d b (0,0)) λf=>match f with|.inl c=>Cq.ret (.inr (.inl c))|.inr a=>ZqD b a)else(Cq.ret (.inr (.inr ())))
def y4(a:(Ŀ (Fin 8->Int))):Cq Bool:=
 if 24<(a.length:Int)then Cq.fail else(Cq.next (ZqA a 0) λc=>match c with|.inl b=>Cq.ret b|.inr ()=>ZqC)
def Zjv:Cq Bool:=
 Cq.ret true
def Zju(a:(Fin 8->Int)):(Int×(Fin 8->Bool))->Cq (Bool⊕Unit):=
 Cq.loop λd=>match d with|(b,c)=>if b<8 then(Cq.ê (0<=b/\b<8) (if(Ζ a b)<0 then(Cq.ret (.inr (.inl false)))else(Cq.ê (0<=b/\b<8) (if 7<(Ζ a b)then(Cq.ret (.inr (.inl false)))else(Cq.ê (0<=b/\b<8) (Cq.ê (0<=Ζ a b/\(Ζ a b)<8) (if(Ζ c (Ζ a b))=true then Cq.fail else(Cq.ê (0<=b/\b<8) (Cq.ê (0<=Ζ a b/\(Ζ a b)<8) (Cq.ret (.inl (i64.wrap (b+1),ζ c ((Ζ a b).toNat) true))))))))))))else(Cq.ret (.inr (.inr ())))
def Ju(a:(Fin 8->Int)):Cq Bool:=
 Cq.next (Zju a (0,(λ_=>false))) λc=>match c with|.inl b=>Cq.ret b|.inr ()=>Zjv
def Gj(b:Zf):Cq (Zf×Int):=
 Cq.bind (Gl b.den b.num) λa=>Cq.ret (a.1,a.2)
def Gm(c:Zf)(d:Zf):Cq Zf:=
 Cq.bind (Gk d) λa=>Cq.bind (vE c a) λb=>Cq.ret b
def Zn1(a:(Ŀ Zf)):Cq (Ŀ Zf):=
 Cq.ret a
def Zn0(c:(Ŀ Zf))(f:Zf):(Int×(Ŀ Zf))->Cq (Ŀ Zf):=
 Cq.loop λg=>match g with|(b,a)=>if b<8 then(Cq.Θ a b λh=>Cq.Θ c b λi=>Cq.bind (rl f i) λd=>Cq.bind (Gm h d) λe=>Cq.Θ a b λj=>Cq.ret (.inl (i64.wrap (b+1),a.set b.toNat e)))else(Cq.ret (.inr a))
def Ke(a:(Ŀ Zf))(b:(Ŀ Zf))(d:Int):Cq (Ŀ Zf):=
 Cq.Θ a d λe=>Cq.next (Zn0 b e (0,a)) λf=>match f with|c=>Zn1 c
def Ztb(a:(Ŀ (Ŀ Zf))):Cq Int:=
 Cq.ret (a.length:Int)
def Ztc(a:(Ŀ (Ŀ Zf)))(b:(Ŀ Int))(e:Int)(c:Int)(d:(Ŀ Zf)):Cq (((Ŀ (Ŀ Zf))×(Ŀ Int)×Int)⊕(((Ŀ (Ŀ Zf))))):=
 Cq.ê ((a++[d]).length<=small) (Cq.ê ((b++[c]).length<=small) (Cq.ret (.inl ((a++[d]),(b++[c]),i64.wrap (e+1)))))
def Rj(c:Zf×Int):(Int×(Ŀ Zf))->Cq (Ŀ Zf):=
 Cq.loop λe=>match e with|(a,b)=>if a<8 then(Cq.Θ b a λf=>Cq.bind (rl f c.1) λd=>Cq.Θ b a λg=>Cq.ret (.inl (i64.wrap (a+1),b.set a.toNat d)))else(Cq.ret (.inr b))
def Ztd(b:(Ŀ (Ŀ Zf)))(c:(Ŀ Int))(d:Int)(e:(Ŀ Zf))(a:Int):Cq (((Ŀ (Ŀ Zf))×(Ŀ Int)×Int)⊕(((Ŀ (Ŀ Zf))))):=
 if a=8 then(Cq.ret (.inl (b,c,i64.wrap (d+1))))else(Cq.Θ e a λh=>Cq.bind (Gj h) λf=>Cq.next (Rj f (0,e)) λi=>match i with|g=>Ztc b c d a g)
def Rk(b:(Ŀ Zf)):Int->Cq Int:=
 Cq.loop λd=>match d with|a=>if a<8 then(Cq.Θ b a λe=>Cq.bind (oI e) λc=>if c=0 then(Cq.ret (.inl (i64.wrap (a+1))))else(Cq.ret (.inr a)))else(Cq.ret (.inr a))
def Zte(b:(Ŀ (Ŀ Zf)))(c:(Ŀ Int))(d:Int)(a:(Ŀ Zf)):Cq (((Ŀ (Ŀ Zf))×(Ŀ Int)×Int)⊕(((Ŀ (Ŀ Zf))))):=
 Cq.next (Rk a 0) λf=>match f with|e=>Ztd b c d a e
def Rl(b:(Ŀ (Ŀ Zf)))(d:(Ŀ Int)):(Int×(Ŀ Zf))->Cq (Ŀ Zf):=
 Cq.loop λf=>match f with|(a,c)=>if a<(b.length:Int)then(Cq.Θ b a λg=>Cq.Θ d a λh=>Cq.bind (Ke c g h) λe=>Cq.ret (.inl (i64.wrap (a+1),e)))else(Cq.ret (.inr c))
def Ztf(a:(Ŀ (Ŀ Zf)))(b:(Ŀ Int))(c:Int)(d:(Ŀ Zf)):Cq (((Ŀ (Ŀ Zf))×(Ŀ Int)×Int)⊕(((Ŀ (Ŀ Zf))))):=
 Cq.next (Rl a b (0,d)) λf=>match f with|e=>Zte a b c e
def QF(c:(Ŀ (Fin 8->Int)))(d:Int):(Int×(Ŀ Zf))->Cq (Ŀ Zf):=
 Cq.loop λf=>match f with|(a,b)=>if a<8 then(Cq.Θ c d λg=>Cq.ê (0<=a/\a<8) (Cq.bind (ZX (Ζ g a)) λe=>Cq.Θ b a λh=>Cq.ret (.inl (i64.wrap (a+1),b.set a.toNat e))))else(Cq.ret (.inr b))
def Zta(b:(Ŀ (Fin 8->Int))):((Ŀ (Ŀ Zf))×(Ŀ Int)×Int)->Cq (((Ŀ (Ŀ Zf)))):=
 Cq.loop λf=>match f with|(c,d,a)=>if a<(b.length:Int)then(Cq.next (QF b a (0,(List.replicate 8 (Zf.mk (Zg.mk false []) (Zg.mk false []))))) λg=>match g with|e=>Ztf c d a e)else(Cq.ret (.inr c))
def F0(a:(Ŀ (Fin 8->Int))):Cq Int:=
 Cq.next (Zta a ([],[],0)) λc=>match c with|b=>Ztb b
def F1(a:Int)(b:Int):Cq (Fin 8->Int):=
 Cq.ê (0<=a/\a<8) (Cq.ret (ζ (λ_=>0) a.toNat b))
def Zs7(a:(Ŀ (Fin 8->Int))):Cq ((Ŀ (Fin 8->Int))×Int):=
 Cq.ret (a,0)
def Zs6:((Ŀ (Fin 8->Int))×Int)->Cq (((Ŀ (Fin 8->Int)))):=
 Cq.loop λd=>match d with|(a,c)=>if c<8 then(Cq.bind (F1 c 1) λb=>Cq.ê ((a++[b]).length<=small) (Cq.ret (.inl ((a++[b]),i64.wrap (c+1)))))else(Cq.ret (.inr a))
def LD(a:(Ŀ (Fin 8->Int))):Cq ((Ŀ (Fin 8->Int))×Int):=
 Cq.bind (y4 a) λc=>if(!c)=true then Cq.fail else(Cq.ê (([]++a).length<=small) (Cq.bind (F0 a) λd=>if d=8 then(Cq.ret (([]++a),0))else(if 16<(a.length:Int)then Cq.fail else(Cq.next (Zs6 (([]++a),0)) λe=>match e with|b=>Zs7 b))))
def ZnW(a:(Ŀ (Fin 8->Int))):Cq ((Ŀ (Fin 8->Int))×Int):=
 Cq.ret (a,0)
def ZnX(a:(Ŀ (Fin 8->Int)))(c:Int)(b:(Fin 8->Int)):Cq (((Ŀ (Fin 8->Int))×Int)⊕(((Ŀ (Fin 8->Int))))):=
 Cq.ê ((a++[b]).length<=small) (Cq.ret (.inl ((a++[b]),i64.wrap (c+1))))
def PL(b:(Fin 8->Int))(d:(Ŀ (Fin 8->Int))×Int)(e:Int):(Int×(Fin 8->Int))->Cq (Fin 8->Int):=
 Cq.loop λf=>match f with|(a,c)=>if a<8 then(Cq.ê (0<=a/\a<8) (Cq.Θ d.1 e λg=>Cq.ê (0<=a/\a<8) (Cq.ê (0<=Ζ b a/\(Ζ b a)<8) (Cq.ret (.inl (i64.wrap (a+1),ζ c ((Ζ b a).toNat) (Ζ g a)))))))else(Cq.ret (.inr c))
def ZnV(b:(Fin 8->Int))(c:(Ŀ (Fin 8->Int))×Int):((Ŀ (Fin 8->Int))×Int)->Cq (((Ŀ (Fin 8->Int)))):=
 Cq.loop λf=>match f with|(a,d)=>if d<(c.1.length:Int)then(Cq.next (PL b c d (0,(λ_=>0))) λg=>match g with|e=>ZnX a d e)else(Cq.ret (.inr a))
def Kd(d:(Ŀ (Fin 8->Int)))(a:(Fin 8->Int)):Cq ((Ŀ (Fin 8->Int))×Int):=
 Cq.bind (y4 d) λe=>if(!e)=true then Cq.fail else(Cq.bind (Ju a) λf=>if(!f)=true then Cq.fail else(Cq.bind (LD d) λb=>if ¬b.2=0 then Cq.fail else(Cq.next (ZnV a b ([],0)) λg=>match g with|c=>ZnW c)))
def Ex(a:Int):Cq Bool:=
 if a=1 then(Cq.ret true)else(if a=7 then(Cq.ret true)else(Cq.ret (decide (a=9))))
def JO(a:Ze):Cq Bool:=
 if(a.p.length:Int)=0 then(if(a.o.length:Int)=0 then(Cq.ret true)else(Cq.ret (decide (a.kind=3))))else(Cq.bind (Ex a.kind) λb=>match b with|false=>(Cq.ret false)|true=>(if(a.o.length:Int)=0 then(Cq.ret true)else(Cq.ret (decide (a.kind=3)))))
def K4(b:Zc)(a:Ze):Cq Bool:=
 if a.kind<1 then(Cq.ret false)else(if 10<a.kind then(Cq.ret false)else(Cq.bind (A6 a.p) λc=>match c with|false=>(Cq.ret false)|true=>(Cq.bind (xg a.p) λd=>if 12<d then(Cq.ret false)else(Cq.bind (Bl a.p) λe=>Cq.ê (0<=(u64.wrap b.n)) (if(i64.wrap (1*2 ^ (min (u64.wrap b.n).toNat i64.bits)))<=(i64.wrap e)then(Cq.ret false)else(Cq.bind (y4 a.o) λf=>if(!f)=true then(Cq.ret false)else(JO a)))))))
def Qt(a:ZE):Cq ZE:=
 if ¬a.e=0 then Cq.fail else(Cq.ret a)
def Zrg(e:Zc)(b:Ze):Cq ZE:=
 Cq.bind (K1 e) λa=>Cq.bind (AF b.p a.2) λc=>if b.kind=3 then(Cq.bind (Kd b.o a.2) λd=>Qt (ZE.mk a.1 (Ze.mk b.kind c.1 d.1) d.2))else(Qt (ZE.mk a.1 (Ze.mk b.kind c.1 []) 0))
def Ba(a:Zc)(b:Ze):Cq ZE:=
 Cq.bind (A7 a) λc=>match c with|false=>(Cq.ret (ZE.mk (Zc.mk 0 [] []) (Ze.mk 0 [] []) 1))|true=>(Cq.bind (K4 a b) λd=>if(!d)=true then(Cq.ret (ZE.mk (Zc.mk 0 [] []) (Ze.mk 0 [] []) 1))else(Zrg a b))
def JL(b:Ze)(a:Bool):Cq (Ŀ Ze):=
 if a=true then(Cq.ret [(Ze.mk 5 [] [])])else(if b.kind=7 then(Cq.ret [(Ze.mk 6 [] [])])else(Cq.ret []))
def JM(a:Ze)(b:Bool):Cq (Ŀ Ze):=
 if b=true then(Cq.ret [(Ze.mk 4 [] [])])else(if a.kind=6 then(JL a (decide (a.kind=6)))else(JL a (decide (a.kind=10))))
def Ft(a:Ze):Cq (Ŀ Ze):=
 if a.kind=5 then(JM a (decide (a.kind=5)))else(JM a (decide (a.kind=8)))
def ZqK(a:(Ŀ Int)):Cq (Ŀ Int):=
 Cq.ret a
def ZqL(a:Int)(b:(Ŀ Int)):Cq (((Ŀ Int)×Int)⊕(Ŀ Int)):=
 Cq.ret (.inl (b,i64.wrap (a+1)))
def ZqJ(d:(Ŀ (Fin 8->Int)))(e:Int):((Ŀ Int)×Int)->Cq (Ŀ Int):=
 Cq.loop λf=>match f with|(b,a)=>if a<8 then(Cq.Θ d e λg=>Cq.ê (0<=a/\a<8) (Cq.bind (AS b (Ζ g a)) λc=>Cq.ret (.inl (c,i64.wrap (a+1)))))else(Cq.ret (.inr b))
def ZqI(b:(Ŀ (Fin 8->Int))):((Ŀ Int)×Int)->Cq (Ŀ Int):=
 Cq.loop λd=>match d with|(c,a)=>if a<(b.length:Int)then(Cq.next (ZqJ b a (c,0)) λe=>match e with|f=>ZqL a f)else(Cq.ret (.inr c))
def Lg(c:(Ŀ Int))(a:(Ŀ (Fin 8->Int))):Cq (Ŀ Int):=
 Cq.bind (uq c (u64.wrap (a.length:Int))) λb=>Cq.next (ZqI a (b,0)) λd=>match d with|e=>ZqK e
def Gq(a:Ze):Cq Ĳ:=
 Cq.bind (AS [] a.kind) λb=>Cq.bind (F2 b a.p) λc=>Cq.bind (Lg c a.o) λd=>Cq.ret (bytesOf d)
def D9(c:Ze)(d:Ze):Cq Bool:=
 Cq.bind (Gq c) λa=>Cq.bind (Gq d) λb=>Cq.ret (decide (a=b))
def Zwn:Cq Int:=
 Cq.ret (-1)
def Fw(b:Zb)(e:Zc)(f:Ze):Int->Cq (Int⊕Unit):=
 Cq.loop λg=>match g with|a=>if a<(b.t.length:Int)then(Cq.Θ b.t a λh=>Cq.bind (yP h.k e) λc=>match c with|false=>(Cq.ret (.inl (i64.wrap (a+1))))|true=>(Cq.Θ b.t a λi=>Cq.bind (D9 i.q f) λd=>if d=true then(Cq.ret (.inr (.inl a)))else(Cq.ret (.inl (i64.wrap (a+1))))))else(Cq.ret (.inr (.inr ())))
def GG(b:Zb)(c:Zc)(d:Ze):Cq Int:=
 Cq.next (Fw b c d 0) λe=>match e with|.inl a=>Cq.ret a|.inr ()=>Zwn
def Qs(b:ZE)(a:Zb):Cq Zv:=
 Cq.bind (GG a b.k b.q) λc=>if 0<=c then(Cq.Θ a.t c λd=>Cq.ret (Zv.mk a d.id 0))else(if 100<=(a.t.length:Int)then(Cq.ret (Zv.mk (Zb.mk [] 0) 0 2))else(if 1000000<=a.next then Cq.fail else(Cq.ê ((([]:Ŀ Zd)++a.t).length<=small) (Cq.ê (((([]:Ŀ Zd)++a.t)++[(Zd.mk a.next b.k b.q 0 0 (-1) false)]).length<=small) (Cq.ret (Zv.mk (Zb.mk ((([]:Ŀ Zd)++a.t)++[(Zd.mk a.next b.k b.q 0 0 (-1) false)]) (i64.wrap (a.next+1))) a.next 0))))))
def Zrf(e:Zb->Zc->Ze->Cq Zv)(h:ZE)(c:(Ŀ Ze)):(Int×Zb×Zv)->Cq (Zv⊕(Zb×Zv)):=
 Cq.loop λi=>match i with|(a,d,f)=>if a<(c.length:Int)then(Cq.Θ c a λj=>Cq.bind (e d h.k j) λg=>if ¬g.e=0 then Cq.fail else(Cq.ret (.inl (i64.wrap (a+1),g.b,f))))else(Cq.ret (.inr (.inr (d,f))))
def Kn(e:Zb->Zc->Ze->Cq Zv)(b:Zb)(c:Zc)(d:Ze):Cq Zv:=
 Cq.bind (Ba c d) λa=>if ¬a.e=0 then(Cq.ret (Zv.mk (Zb.mk [] 0) 0 a.e))else(Cq.bind (Ft a.q) λf=>Cq.next (Zrf e a f (0,b,(Zv.mk (Zb.mk [] 0) 0 0))) λi=>match i with|.inl g=>Cq.ret g|.inr (h,j)=>Qs a h)
def A9:Nat->Zb->Zc->Ze->Cq Zv
 |0,_,_,_=>Cq.fail
 |n+1,a,b,c=>Kn (A9 n) a b c
def L9(a:Int):Cq ((Ŀ Za)×Int):=
 if a<0 then(Cq.ret ([],1))else(if 8<=a then Cq.fail else(Cq.ê (0<=a/\a<8) (Cq.bind (ZX 1) λb=>Cq.ret ([(Za.mk b (ζ (λ_=>0) a.toNat 1))],0))))
def Bo:Cq Zb:=
 Cq.ret (Zb.mk [] 1)
def A1(a:Int):Cq Ze:=
 Cq.ret (Ze.mk a [] [])
def Zon(c:(Ŀ Int))(b:(Ŀ Int))(a:Int):Cq (Ŀ Int):=
 Cq.Θ b (c.length:Int) λe=>Cq.bind (ZY (b.set (c.length:Int).toNat (u32.wrap a))) λd=>Cq.ret d
def PR(b:(Ŀ Int))(a:Int)(c:Int):Cq (((Ŀ Int)×Int×Int)⊕(((Ŀ Int)×Int))):=
 Cq.Θ b a λd=>Cq.ret (.inl ((b.set a.toNat (u32.wrap c)),Int.fdiv c (2 ^ (min (32:Int).toNat u64.bits)),i64.wrap (a+1)))
def Zom(d:(Ŀ Int))(e:(Ŀ Int)):((Ŀ Int)×Int×Int)->Cq (((Ŀ Int)×Int)):=
 Cq.loop λg=>match g with|(c,b,a)=>if a<(d.length:Int)then(Cq.Θ d a λf=>if a<(e.length:Int)then(Cq.Θ e a λh=>PR c a (u64.wrap ((u64.wrap ((u64.wrap f)+b))+(u64.wrap h))))else(PR c a (u64.wrap ((u64.wrap f)+b))))else(Cq.ret (.inr (c,b)))
def JJ(a:(Ŀ Int))(d:(Ŀ Int)):Cq (Ŀ Int):=
 Cq.ê (0<=i64.wrap ((a.length:Int)+1)/\(i64.wrap ((a.length:Int)+1))<=1000000) (Cq.next (Zom a d ((List.replicate (i64.wrap ((a.length:Int)+1)).toNat 0),0,0)) λe=>match e with|(c,b)=>Zon a c b)
def QZ(a:(Ŀ Int))(b:(Ŀ Int)):Cq (Ŀ Int):=
 if(a.length:Int)<(b.length:Int)then(JJ b a)else(JJ a b)
def Zhv(a:(Ŀ Int)):Cq (Ŀ Int):=
 Cq.bind (ZY a) λb=>Cq.ret b
def Pc(b:(Ŀ Int))(a:Int)(c:Int):Cq (((Ŀ Int)×Int×Int)⊕(Ŀ Int)):=
 Cq.Θ b a λd=>Cq.ret (.inl ((b.set a.toNat (u32.wrap c)),Int.fdiv c (2 ^ (min (63:Int).toNat u64.bits)),i64.wrap (a+1)))
def Zhu(d:(Ŀ Int))(e:(Ŀ Int)):((Ŀ Int)×Int×Int)->Cq (Ŀ Int):=
 Cq.loop λg=>match g with|(c,b,a)=>if a<(d.length:Int)then(Cq.Θ d a λf=>if a<(e.length:Int)then(Cq.Θ e a λh=>Pc c a (u64.wrap ((u64.wrap ((u64.wrap f)-b))-(u64.wrap h))))else(Pc c a (u64.wrap ((u64.wrap f)-b))))else(Cq.ret (.inr c))
def Jq(a:(Ŀ Int))(c:(Ŀ Int)):Cq (Ŀ Int):=
 Cq.ê (0<=(a.length:Int)/\(a.length:Int)<=1000000) (Cq.next (Zhu a c ((List.replicate (a.length:Int).toNat 0),0,0)) λd=>match d with|b=>Zhv b)
def Zov:Cq Bool:=
 Cq.ret true
def Zow(a:Int)(b:(Fin 8->Bool)):Cq ((Int×(Fin 8->Bool))⊕(Bool⊕Unit)):=
 Cq.ret (.inl (i64.wrap (a+1),b))
def El(c:(Fin 8->Int))(a:Int)(b:(Fin 8->Bool)):Cq ((Int×(Fin 8->Bool))⊕(Bool⊕(Fin 8->Bool))):=
 Cq.ê (0<=a/\a<8) (if(Ζ b a)=true then(Cq.ê (0<=a/\a<8) (Cq.ret (.inl (i64.wrap (a+1),ζ b a.toNat true))))else(Cq.ê (0<=a/\a<8) (Cq.ret (.inl (i64.wrap (a+1),ζ b a.toNat (decide (¬(Ζ c a)=0)))))))
def PU(c:(Fin 8->Int)):(Int×(Fin 8->Bool))->Cq (Bool⊕(Fin 8->Bool)):=
 Cq.loop λd=>match d with|(a,b)=>if a<8 then(Cq.ê (0<=a/\a<8) (if(Ζ c a)<(-1000)then(Cq.ret (.inr (.inl false)))else(if 1000<(Ζ c a)then(Cq.ret (.inr (.inl false)))else(if(Ζ c a)<0 then(Cq.ê (0<=a/\a<8) (if(!(Ζ b a))=true then Cq.fail else(El c a b)))else(El c a b)))))else(Cq.ret (.inr (.inr b)))
def Zou(b:(Ŀ (Fin 8->Int))):(Int×(Fin 8->Bool))->Cq (Bool⊕Unit):=
 Cq.loop λf=>match f with|(a,c)=>if a<(b.length:Int)then(Cq.Θ b a λg=>Cq.next (PU g (0,c)) λh=>match h with|.inl d=>Cq.ret (.inr (.inl d))|.inr e=>Zow a e)else(Cq.ret (.inr (.inr ())))
def yK(a:(Ŀ (Fin 8->Int))):Cq Bool:=
 if 24<(a.length:Int)then Cq.fail else(Cq.next (Zou a (0,(λ_=>false))) λc=>match c with|.inl b=>Cq.ret b|.inr ()=>Zov)
def Ei(a:Ze):Cq Bool:=
 if a.kind=1 then(if a.kind=1 then(Cq.ret true)else(Cq.ret (decide ((a.p.length:Int)=0))))else(if a.kind=7 then(if a.kind=7 then(Cq.ret true)else(Cq.ret (decide ((a.p.length:Int)=0))))else(if a.kind=9 then(Cq.ret true)else(Cq.ret (decide ((a.p.length:Int)=0)))))
def J9(a:Ze):Cq Bool:=
 Cq.bind (yK a.o) λb=>match b with|false=>(Cq.ret false)|true=>(if 0<(a.o.length:Int)then(if ¬a.kind=3 then(Cq.ret false)else(Ei a))else(Ei a))
def QB(b:Zc)(a:Ze):Cq Bool:=
 Cq.bind (As a.p) λc=>match c with|false=>(Cq.ret false)|true=>(Cq.bind (wZ a.p) λd=>if 12<d then(Cq.ret false)else(Cq.bind (Az a.p) λe=>Cq.ê (0<=b.n) (if ¬(Int.fdiv e (2 ^ (min (b.n).toNat u8.bits)))=0 then(Cq.ret false)else(J9 a))))
def Fg(b:Zc)(a:Ze):Cq Bool:=
 if a.kind<1 then(Cq.ret false)else(if 10<a.kind then(Cq.ret false)else(QB b a))
def Pa(a:(Ŀ (Fin 8->Int))):Cq ((Ŀ (Fin 8->Int))):=
 Cq.qh a (Cq.ret []) (Cq.ê (([]++a).length<=small) (Cq.ret ([]++a)))
def J4(a:(Ŀ Zf))(b:Int):Cq Bool:=
 Cq.Θ a b λd=>Cq.bind (ZH d) λc=>Cq.ret (decide (¬c=0))
def QP(a:Zf):Cq (Zf×Int):=
 Cq.bind (vi a.num) λb=>if b=0 then Cq.fail else(if b=(-1)then(Cq.bind (yJ a.den) λc=>Cq.bind (yJ a.num) λd=>Cq.ret ((Zf.mk c d),0))else(Cq.ret ((Zf.mk a.den a.num),0)))
def Ez(c:Zf)(d:Zf):Cq (Zf×Int):=
 Cq.bind (QP d) λa=>if ¬a.2=0 then Cq.fail else(Cq.bind (Z7 c a.1) λb=>Cq.ret (b,0))
def QQ(a:Zf):Cq Zf:=
 Cq.bind (yJ a.num) λb=>Cq.ret (Zf.mk b a.den)
def QX(a:Zg)(b:Zg):Cq Zg:=
 if a.neg=b.neg then(Cq.bind (QZ a.χ b.χ) λc=>Cq.bind (ZS a.neg c) λd=>Cq.ret d)else(Cq.bind (Ay a.χ b.χ) λe=>if 0<=e then(Cq.bind (Jq a.χ b.χ) λf=>Cq.bind (ZS a.neg f) λg=>Cq.ret g)else(Cq.bind (Jq b.χ a.χ) λh=>Cq.bind (ZS b.neg h) λi=>Cq.ret i))
def QO(a:Zf)(b:Zf):Cq Zf:=
 Cq.bind (Z8 [a.num,b.den]) λc=>Cq.bind (Z8 [b.num,a.den]) λd=>Cq.bind (QX c d) λe=>Cq.bind (Z8 [a.den,b.den]) λf=>Cq.bind (AA e f) λg=>Cq.ret g
def EB(c:Zf)(d:Zf):Cq Zf:=
 Cq.bind (QQ d) λa=>Cq.bind (QO c a) λb=>Cq.ret b
def ZaK:Cq Int:=
 Cq.ret (-1)
def ZaJ(c:(Ŀ (Ŀ Zf)))(b:Int):Int->Cq (Int⊕Unit):=
 Cq.loop λe=>match e with|a=>if a<(c.length:Int)then(Cq.Θ c a λf=>Cq.bind (J4 f b) λd=>if d=true then(Cq.ret (.inr (.inl a)))else(Cq.ret (.inl (i64.wrap (a+1)))))else(Cq.ret (.inr (.inr ())))
def ZO(c:(Ŀ (Ŀ Zf)))(a:Int):Cq Int:=
 Cq.next (ZaJ c a 0) λd=>match d with|.inl b=>Cq.ret b|.inr ()=>ZaK
def Zp4(a:Int):Cq Int:=
 Cq.ret a
def Zp5(b:Int)(a:Int)(c:(Ŀ (Ŀ Zf))):Cq (((Ŀ (Ŀ Zf))×Int×Int)⊕Int):=
 Cq.ret (.inl (c,i64.wrap (b+1),i64.wrap (a+1)))
def Zp6(a:Int)(b:(Ŀ (Ŀ Zf))):Cq (((Ŀ (Ŀ Zf))×Int)⊕(((Ŀ (Ŀ Zf))))):=
 Cq.ret (.inl (b,i64.wrap (a+1)))
def PX(e:Int)(c:Int)(f:Zf×Int):((Ŀ (Ŀ Zf))×Int)->Cq (((Ŀ (Ŀ Zf)))):=
 Cq.loop λl=>match l with|(b,a)=>if a<8 then(Cq.Θ b c λm=>Cq.Θ m a λg=>Cq.Θ b e λh=>Cq.Θ h a λi=>Cq.bind (Z7 f.1 i) λj=>Cq.bind (EB g j) λk=>Cq.Θ b c λd=>Cq.Θ d a λn=>Cq.ret (.inl ((b.set c.toNat (d.set a.toNat k)),i64.wrap (a+1))))else(Cq.ret (.inr b))
def PW(d:Int)(c:Int):((Ŀ (Ŀ Zf))×Int)->Cq (((Ŀ (Ŀ Zf)))):=
 Cq.loop λg=>match g with|(b,a)=>if a<(b.length:Int)then(Cq.Θ b a λh=>Cq.Θ h c λi=>Cq.Θ b d λj=>Cq.Θ j c λk=>Cq.bind (Ez i k) λf=>Cq.next (PX d a f (b,c)) λl=>match l with|e=>Zp6 a e)else(Cq.ret (.inr b))
def Zp3:((Ŀ (Ŀ Zf))×Int×Int)->Cq Int:=
 Cq.loop λg=>match g with|(b,a,c)=>if c<8 then(Cq.ê (0<=a/\a<=(b.length:Int)) (Cq.bind (ZO (b.drop a.toNat) c) λd=>if d<0 then(Cq.ret (.inl (b,a,i64.wrap (c+1))))else(Cq.Θ b (i64.wrap (a+d)) λf=>Cq.Θ b a λh=>Cq.Θ b a λj=>Cq.Θ (b.set a.toNat f) (i64.wrap (a+d)) λk=>Cq.next (PW a c (((b.set a.toNat f).set (i64.wrap (a+d)).toNat h),i64.wrap (a+1))) λi=>match i with|e=>Zp5 a c e)))else(Cq.ret (.inr a))
def Zp7(a:(Ŀ (Ŀ Zf))):Cq Int:=
 Cq.next (Zp3 (a,0,0)) λc=>match c with|b=>Zp4 b
def Zp8(a:Int)(b:(Ŀ (Ŀ Zf))):Cq (((Ŀ (Ŀ Zf))×Int)⊕(((Ŀ (Ŀ Zf))))):=
 Cq.ret (.inl (b,i64.wrap (a+1)))
def PF(c:Int)(e:(Fin 8->Int)):((Ŀ (Ŀ Zf))×Int)->Cq (((Ŀ (Ŀ Zf)))):=
 Cq.loop λg=>match g with|(b,a)=>if a<8 then(Cq.ê (0<=a/\a<8) (Cq.bind (wW (Ζ e a)) λf=>Cq.Θ b c λd=>Cq.Θ d a λh=>Cq.ret (.inl ((b.set c.toNat (d.set a.toNat f)),i64.wrap (a+1)))))else(Cq.ret (.inr b))
def PY(b:(Ŀ (Fin 8->Int))):((Ŀ (Ŀ Zf))×Int)->Cq (((Ŀ (Ŀ Zf)))):=
 Cq.loop λf=>match f with|(c,a)=>if a<(b.length:Int)then(Cq.Θ b a λe=>Cq.next (PF a e (c,0)) λg=>match g with|d=>Zp8 a d)else(Cq.ret (.inr c))
def Fe(a:(Ŀ (Fin 8->Int))):Cq Int:=
 Cq.ê (0<=(a.length:Int)/\(a.length:Int)<=1000000) (Cq.next (PY a ((List.replicate (a.length:Int).toNat (List.replicate 8 (Zf.mk (Zg.mk false []) (Zg.mk false [])))),0)) λc=>match c with|b=>Zp7 b)
def Zp2(a:(Fin 8->Int)):Cq (Fin 8->Int):=
 Cq.ret a
def Zp1(b:Int):(Int×(Fin 8->Int))->Cq (Fin 8->Int):=
 Cq.loop λd=>match d with|(a,c)=>if a<8 then(Cq.ê (0<=a) (Cq.ê (0<=a/\a<8) (Cq.ret (.inl (i64.wrap (a+1),ζ c a.toNat (i64.wrap (u8.wrap (BitVec.ofInt u8.bits (Int.fdiv b (2 ^ (min (a).toNat u8.bits))) &&& BitVec.ofInt u8.bits 1).toNat)))))))else(Cq.ret (.inr c))
def KV(a:Int):Cq (Fin 8->Int):=
 Cq.next (Zp1 a (0,(λ_=>0))) λc=>match c with|b=>Zp2 b
def Zp0(a:(Ŀ (Fin 8->Int))):Cq ((Ŀ (Fin 8->Int))×Int):=
 Cq.ret (a,0)
def ZpZ:((Ŀ (Fin 8->Int))×Int)->Cq (((Ŀ (Fin 8->Int)))):=
 Cq.loop λd=>match d with|(b,a)=>if a<8 then(Cq.ê (0<=a) (Cq.bind (KV (u8.wrap (1*2 ^ (min (a).toNat u8.bits)))) λc=>Cq.ê ((b++[c]).length<=small) (Cq.ret (.inl ((b++[c]),i64.wrap (a+1))))))else(Cq.ret (.inr b))
def KU(a:(Ŀ (Fin 8->Int))):Cq ((Ŀ (Fin 8->Int))×Int):=
 Cq.bind (yK a) λc=>if(!c)=true then Cq.fail else(Cq.bind (Pa a) λb=>Cq.bind (Fe a) λd=>if d=8 then(Cq.ret (b,0))else(if 24<(i64.wrap ((a.length:Int)+8))then Cq.fail else(Cq.next (ZpZ (b,0)) λf=>match f with|e=>Zp0 e)))
def Zmt(a:(Ŀ (Fin 8->Int))):Cq ((Ŀ (Fin 8->Int))×Int):=
 Cq.ret (a,0)
def Zmu(a:Int)(b:(Ŀ (Fin 8->Int))):Cq (((Ŀ (Fin 8->Int))×Int)⊕(((Ŀ (Fin 8->Int))))):=
 Cq.ret (.inl (b,i64.wrap (a+1)))
def Pv(c:(Fin 8->Int))(d:Int)(e:(Fin 8->Int)):((Ŀ (Fin 8->Int))×Int)->Cq (((Ŀ (Fin 8->Int)))):=
 Cq.loop λf=>match f with|(b,a)=>if a<8 then(Cq.ê (0<=a/\a<8) (Cq.ê (0<=a/\a<8) (Cq.Θ b d λg=>Cq.ê (0<=Ζ c a/\(Ζ c a)<8) (Cq.ret (.inl ((b.set d.toNat (ζ g (Ζ c a).toNat (Ζ e a))),i64.wrap (a+1)))))))else(Cq.ret (.inr b))
def Zmr(e:(Fin 8->Int))(d:(Ŀ (Fin 8->Int))×Int):((Ŀ (Fin 8->Int))×Int)->Cq (((Ŀ (Fin 8->Int)))):=
 Cq.loop λf=>match f with|(b,a)=>if a<(d.1.length:Int)then(Cq.Θ d.1 a λg=>Cq.next (Pv e a g (b,0)) λh=>match h with|c=>Zmu a c)else(Cq.ret (.inr b))
def Pw(c:(Ŀ (Fin 8->Int)))(d:(Fin 8->Int)):Cq ((Ŀ (Fin 8->Int))×Int):=
 Cq.bind (KU c) λa=>if ¬a.2=0 then Cq.fail else(Cq.ê (0<=(a.1.length:Int)/\(a.1.length:Int)<=1000000) (Cq.next (Zmr d a ((List.replicate (a.1.length:Int).toNat (λ_=>0)),0)) λe=>match e with|b=>Zmt b))
def Zms(b:(Fin 8->Int)):(Int×(Fin 8->Bool))->Cq (((Ŀ (Fin 8->Int))×Int)⊕Unit):=
 Cq.loop λd=>match d with|(a,c)=>if a<8 then(Cq.ê (0<=a/\a<8) (if(Ζ b a)<0 then(Cq.ret (.inr (.inl ([],1))))else(if 8<=(Ζ b a)then(Cq.ret (.inr (.inl ([],1))))else(Cq.ê (0<=Ζ b a/\(Ζ b a)<8) (if(Ζ c (Ζ b a))=true then Cq.fail else(Cq.ê (0<=Ζ b a/\(Ζ b a)<8) (Cq.ret (.inl (i64.wrap (a+1),ζ c ((Ζ b a).toNat) true)))))))))else(Cq.ret (.inr (.inr ())))
def J3(a:(Ŀ (Fin 8->Int)))(b:(Fin 8->Int)):Cq ((Ŀ (Fin 8->Int))×Int):=
 Cq.bind (yK a) λc=>if(!c)=true then Cq.fail else(Cq.next (Zms b (0,(λ_=>false))) λe=>match e with|.inl d=>Cq.ret d|.inr ()=>Pw a b)
def Eo(b:Ze)(a:(Fin 8->Int)):Cq (Ze×Int):=
 Cq.bind (Ea b.p a) λc=>if ¬c.2=0 then Cq.fail else(if b.kind=3 then(Cq.bind (J3 b.o a) λd=>if ¬d.2=0 then Cq.fail else(Cq.ret ((Ze.mk b.kind c.1 d.1),0)))else(Cq.ret ((Ze.mk b.kind c.1 []),0)))
def Z3(a:(Ŀ Zd)):Cq (Ŀ Zd):=
 Cq.qh a (Cq.ret []) (Cq.ê (([]++a).length<=small) (Cq.ret ([]++a)))
def Zt5(b:Zb)(c:Zc×(Fin 8->Int))(d:Ze×Int)(e:(Ŀ (Ĳ×Int))):Cq (Zb×Int×Int):=
 Cq.bind (Z3 b.t) λf=>Cq.bind (vm 5 c.1 d.1 e (Zb.mk f b.next)) λa=>if ¬a.1.2=0 then Cq.fail else(Cq.ret ((Zb.mk a.2.2.t a.2.2.next),a.1.1,0))
def E2(b:Zb):(Int×(Ŀ (Ĳ×Int)))->Cq (((Ŀ (Ĳ×Int)))):=
 Cq.loop λf=>match f with|(a,c)=>if a<(b.t.length:Int)then(Cq.Θ b.t a λe=>Cq.bind (tI e.k e.q) λd=>Cq.ê ((d.size<=1000000)/\(eX c d e.id).length<=small) (Cq.ret (.inl (i64.wrap (a+1),(eX c d e.id)))))else(Cq.ret (.inr c))
def Q8(a:Zb)(d:Zc)(e:Ze):Cq (Zb×Int×Int):=
 Cq.bind (EC d) λb=>Cq.bind (Eo e b.2) λc=>if ¬c.2=0 then Cq.fail else(Cq.next (E2 a (0,[])) λg=>match g with|f=>Zt5 a b c f)
def xF(c:Zb)(a:Zc)(b:Ze):Cq (Zb×Int×Int):=
 Cq.bind (vl a) λd=>match d with|false=>(Cq.ret ((Zb.mk [] 0),0,1))|true=>(Cq.bind (Fg a b) λe=>if(!e)=true then(Cq.ret ((Zb.mk [] 0),0,1))else(Q8 c a b))
def ZsQ:Cq (Zd×Bool):=
 Cq.ret ((Zd.mk 0 (Zc.mk 0 [] []) (Ze.mk 0 [] []) 0 0 0 false),false)
def Km(c:Zb)(d:Int):(Int×Zd)->Cq ((Zd×Bool)⊕Zd):=
 Cq.loop λf=>match f with|(a,b)=>if a<(c.t.length:Int)then(Cq.Θ c.t a λe=>if e.id=d then(Cq.ret (.inr (.inl (e,true))))else(Cq.ret (.inl (i64.wrap (a+1),b))))else(Cq.ret (.inr (.inr b)))
def xz(c:Zb)(a:Int):Cq (Zd×Bool):=
 Cq.next (Km c a (0,(Zd.mk 0 (Zc.mk 0 [] []) (Ze.mk 0 [] []) 0 0 0 false))) λd=>match d with|.inl b=>Cq.ret b|.inr e=>ZsQ
def fz(a:ZD)(c:(Ŀ Za)):Cq Bool:=
 Cq.bind (è a c 64) λb=>Cq.ret b
def ZaZ:Cq Bool:=
 Cq.ret true
def ZaY(c:(Ŀ (Ŀ Za)))(b:ZD):Int->Cq (Bool⊕Unit):=
 Cq.loop λe=>match e with|a=>if a<(c.length:Int)then(Cq.Θ c a λf=>Cq.bind (fz b f) λd=>if(!d)=true then(Cq.ret (.inr (.inl false)))else(Cq.ret (.inl (i64.wrap (a+1)))))else(Cq.ret (.inr (.inr ())))
def O6(c:(Ŀ (Ŀ Za)))(a:ZD):Cq Bool:=
 Cq.next (ZaY c a 0) λd=>match d with|.inl b=>Cq.ret b|.inr ()=>ZaZ
def fp(a:ZD)(c:(Ŀ (Ŀ Za))):Cq Bool:=
 Cq.bind (O6 c a) λb=>Cq.ret b
def Ä(a:ZD)(b:(Ŀ (Ŀ Za))):Cq Bool:=
 if(b.length:Int)<=64 then(Cq.bind (fp a b) λc=>Cq.ret c)else(Cq.ret false)
def Eu(a:Int):Cq Bool:=
 if 0<=a then(Cq.ret (decide (a<=1000000)))else(Cq.ret false)
def Jz(a:Zl):Cq Bool:=
 Cq.bind (ZZ a.lo) λb=>match b with|false=>(Cq.ret false)|true=>(Cq.bind (ZZ a.hi) λc=>match c with|false=>(Cq.ret false)|true=>(Cq.bind (vj a.lo a.hi) λd=>Cq.ret (decide (d<=0))))
def tD(a:Zf):Cq Bool:=
 Cq.bind (ZZ a) λb=>match b with|false=>(Cq.ret false)|true=>(Cq.bind (ZH a) λc=>Cq.ret (decide (c=0)))
def gJ:Cq Bool:=
 Cq.ret true
def gI(b:ZD)(i:(Ŀ Zl)):Int->Cq (Bool⊕Unit):=
 Cq.loop λj=>match j with|a=>if a<8 then(Cq.Θ i a λc=>if a<b.k.n then(Cq.bind (Jz c) λd=>match d with|false=>(Cq.ret (.inr (.inl false)))|true=>(if b.k.n<=a then(Cq.bind (tD c.lo) λe=>match e with|false=>(Cq.ret (.inr (.inl false)))|true=>(Cq.bind (tD c.hi) λf=>if(!f)=true then(Cq.ret (.inr (.inl false)))else(Cq.ret (.inl (i64.wrap (a+1))))))else(Cq.ret (.inl (i64.wrap (a+1))))))else(if b.k.n<=a then(Cq.bind (tD c.lo) λg=>match g with|false=>(Cq.ret (.inr (.inl false)))|true=>(Cq.bind (tD c.hi) λh=>if(!h)=true then(Cq.ret (.inr (.inl false)))else(Cq.ret (.inl (i64.wrap (a+1))))))else(Cq.ret (.inl (i64.wrap (a+1))))))else(Cq.ret (.inr (.inr ())))
def dR(a:ZD)(c:(Ŀ Zl)):Cq Bool:=
 Cq.next (gI a c 0) λd=>match d with|.inl b=>Cq.ret b|.inr ()=>gJ
def Za5:Cq Bool:=
 Cq.ret true
def Za4(c:(Ŀ (Ŀ Zl)))(b:ZD):Int->Cq (Bool⊕Unit):=
 Cq.loop λe=>match e with|a=>if a<(c.length:Int)then(Cq.Θ c a λf=>Cq.bind (dR b f) λd=>if(!d)=true then(Cq.ret (.inr (.inl false)))else(Cq.ret (.inl (i64.wrap (a+1)))))else(Cq.ret (.inr (.inr ())))
def O8(c:(Ŀ (Ŀ Zl)))(a:ZD):Cq Bool:=
 Cq.next (Za4 c a 0) λd=>match d with|.inl b=>Cq.ret b|.inr ()=>Za5
def Â(a:ZD)(b:(Ŀ (Ŀ Zl))):Cq Bool:=
 if(b.length:Int)<=64 then(Cq.bind (O8 b a) λc=>Cq.ret c)else(Cq.ret false)
def Ki(a:Int):Cq Bool:=
 if(-1)<=a then(Cq.ret (decide (a<=1)))else(Cq.ret false)
def ZP(a:Zh):Cq Bool:=
 if a.kind=0 then(if a.n=0 then(if a.d=0 then(if a.r=0 then(if(a.p.length:Int)=0 then(if(a.o.length:Int)=0 then(if(a.l.length:Int)=0 then(if(a.s.length:Int)=0 then(Cq.ret (decide ((a.b.length:Int)=0)))else(Cq.ret false))else(Cq.ret false))else(Cq.ret false))else(Cq.ret false))else(Cq.ret false))else(Cq.ret false))else(Cq.ret false))else(Cq.ret false)
def Zea:Cq Bool:=
 Cq.ret true
def Zd9(b:(Ŀ Int)):Int->Cq (Bool⊕Unit):=
 Cq.loop λd=>match d with|a=>if a<(b.length:Int)then(Cq.Θ b a λe=>Cq.bind (Ki e) λc=>if(!c)=true then(Cq.ret (.inr (.inl false)))else(Cq.ret (.inl (i64.wrap (a+1)))))else(Cq.ret (.inr (.inr ())))
def Jg(b:(Ŀ Int)):Cq Bool:=
 Cq.next (Zd9 b 0) λc=>match c with|.inl a=>Cq.ret a|.inr ()=>Zea
def ú(a:vn)(e:Bool):Cq Bool:=
 if e=true then(Cq.bind (Eu a.c.n) λf=>if f=true then(Cq.bind (ZP (Zh.mk 0 a.c.p 0 a.c.d a.c.r a.c.o a.c.l a.c.s a.c.b)) λg=>Cq.ret g)else(Cq.ret false))else(Cq.ret false)
def û(a:vn)(e:Bool):Cq Bool:=
 if e=true then(Cq.bind (ZP (Zh.mk 0 a.c.p a.c.n a.c.d a.c.r a.c.o a.c.l a.c.s a.c.b)) λw=>Cq.ret w)else(if a.c.kind=4 then(Cq.bind (yK a.c.o) λx=>match x with|false=>(Cq.ret false)|true=>(Cq.bind (Ä a.rules a.c.l) λy=>if y=true then(Cq.bind (ZP (Zh.mk 0 a.c.p a.c.n a.c.d a.c.r [] [] a.c.s a.c.b)) λz=>Cq.ret z)else(Cq.ret false)))else(if a.c.kind=5 then(if(-1)<=a.c.d then(if a.c.d<=a.rules.k.n then(Cq.bind (Eu a.c.n) λc=>if c=true then(Cq.bind (ZP (Zh.mk 0 a.c.p 0 0 a.c.r a.c.o a.c.l a.c.s a.c.b)) λd=>Cq.ret d)else(Cq.ret false))else(Cq.ret false))else(Cq.ret false))else(if a.c.kind=6 then(if 0<=a.c.r then(if a.c.r<=a.c.d then(if a.c.d<=a.c.n then(Cq.bind (Eu a.c.n) λf=>if f=true then(Cq.bind (ZP (Zh.mk 0 a.c.p 0 0 0 a.c.o a.c.l a.c.s a.c.b)) λg=>Cq.ret g)else(Cq.ret false))else(Cq.ret false))else(Cq.ret false))else(Cq.ret false))else(if a.c.kind=7 then(Cq.bind (Â a.rules a.c.b) λh=>if h=true then(Cq.bind (ZP (Zh.mk 0 a.c.p a.c.n a.c.d a.c.r a.c.o a.c.l a.c.s [])) λi=>Cq.ret i)else(Cq.ret false))else(if a.c.kind=8 then(Cq.bind (è a.rules a.c.p 12) λj=>match j with|false=>(Cq.ret false)|true=>(Cq.bind (Â a.rules a.c.b) λm=>match m with|false=>(Cq.ret false)|true=>(if(a.c.s.length:Int)=(a.c.b.length:Int)then(Cq.bind (Jg a.c.s) λq=>if q=true then(Cq.bind (ZP (Zh.mk 0 [] a.c.n a.c.d a.c.r a.c.o a.c.l [] [])) λt=>Cq.ret t)else(Cq.ret false))else(Cq.ret false))))else(if a.c.kind=11 then(Cq.bind (Ä a.rules a.c.l) λu=>if u=true then(Cq.bind (ZP (Zh.mk 0 a.c.p a.c.n a.c.d a.c.r a.c.o [] a.c.s a.c.b)) λv=>Cq.ret v)else(Cq.ret false))else(if a.c.kind=12 then(ú a (decide (a.c.kind=12)))else(ú a (decide (a.c.kind=13))))))))))
def ì(a:vn)(e:Bool):Cq Bool:=
 if e=true then(Cq.bind (è a.rules a.c.p 12) λf=>if f=true then(Cq.bind (ZP (Zh.mk 0 [] a.c.n a.c.d a.c.r a.c.o a.c.l a.c.s a.c.b)) λg=>Cq.ret g)else(Cq.ret false))else(if a.c.kind=3 then(û a (decide (a.c.kind=3)))else(û a (decide (a.c.kind=9))))
def fa(a:vn):Cq Bool:=
 Cq.bind (Ã a.rules) λb=>if(!b)=true then(Cq.ret false)else(if a.c.kind=1 then(ì a (decide (a.c.kind=1)))else(if a.c.kind=2 then(ì a (decide (a.c.kind=2)))else(ì a (decide (a.c.kind=10)))))
def EY(b:Zc)(c:Zh):Cq Bool:=
 Cq.bind (fa (vn.mk (ZD.mk b) c)) λa=>Cq.ret a
def Zk3:Cq Bool:=
 Cq.ret true
def Zk2(b:(Ŀ (Fin 8->Int)))(c:(Ŀ (Fin 8->Int))):Int->Cq (Bool⊕Unit):=
 Cq.loop λd=>match d with|a=>if a<(b.length:Int)then(Cq.Θ b a λe=>Cq.Θ c a λf=>if ¬e=f then(Cq.ret (.inr (.inl false)))else(Cq.ret (.inl (i64.wrap (a+1)))))else(Cq.ret (.inr (.inr ())))
def Ey(a:(Ŀ (Fin 8->Int)))(b:(Ŀ (Fin 8->Int))):Cq Bool:=
 if ¬(a.length:Int)=(b.length:Int)then(Cq.ret false)else(Cq.next (Zk2 a b 0) λd=>match d with|.inl c=>Cq.ret c|.inr ()=>Zk3)
def Et(c:Zc)(b:Ze)(a:Zh):Cq Bool:=
 if b.kind=1 then(if a.kind=1 then(Cq.bind (ZU a.p b.p) λd=>Cq.ret d)else(if a.kind=2 then(Cq.bind (ZU a.p b.p) λe=>Cq.ret e)else(Cq.ret false)))else(if b.kind=2 then(Cq.bind (wW 1) λf=>Cq.bind (D4 f) λg=>if a.kind=3 then(Cq.ret true)else(if a.kind=2 then(if(c.ε.length:Int)=0 then(Cq.bind (ZU a.p g) λh=>Cq.ret h)else(Cq.ret false))else(Cq.ret false)))else(if b.kind=3 then(if a.kind=4 then(Cq.bind (Ey a.o b.o) λi=>Cq.ret i)else(Cq.ret false))else(if b.kind=4 then(Cq.ret (decide (a.kind=5)))else(if b.kind=5 then(Cq.ret (decide (a.kind=6)))else(if b.kind=6 then(Cq.ret (decide (a.kind=7)))else(if b.kind=7 then(if a.kind=8 then(Cq.bind (ZU a.p b.p) λj=>Cq.ret j)else(Cq.ret false))else(if b.kind=8 then(if a.kind=9 then(Cq.ret true)else(if a.kind=6 then(Cq.ret true)else(if a.kind=13 then(Cq.ret (decide (1<=a.n)))else(Cq.ret false))))else(if b.kind=9 then(if a.kind=10 then(Cq.bind (ZU a.p b.p) λk=>Cq.ret k)else(Cq.ret false))else(if b.kind=10 then(Cq.ret (decide (a.kind=11)))else(Cq.ret false))))))))))
def D6(a:Zh)(c:Bool):Cq (Int×Int):=
 if c=true then(Cq.ret ((a.b.length:Int),(a.b.length:Int)))else(if a.kind=9 then(Cq.ret (0,0))else(if a.kind=13 then(Cq.ret (a.n,(-1)))else(if a.kind=12 then(Cq.ret (0,a.n))else(Cq.ret (0,(-1))))))
def D7(a:Zh)(b:Bool):Cq (Int×Int):=
 if b=true then(if a.kind=6 then(Cq.ret (a.r,a.r))else(if a.kind=7 then(D6 a (decide (a.kind=7)))else(D6 a (decide (a.kind=8)))))else(Cq.ret (0,(-1)))
def JQ(b:Ze)(a:Zh):Cq (Int×Int):=
 if b.kind=5 then(if a.kind=6 then(Cq.ret (a.n,a.n))else(if a.kind=12 then(Cq.ret (0,a.n))else(Cq.ret (0,(-1)))))else(if b.kind=8 then(D7 a (decide (b.kind=8)))else(D7 a (decide (b.kind=6))))
def Eh(c:Zh)(a:Zd):Cq Zd:=
 Cq.bind (JQ a.q c) λb=>if 0<=b.2 then(if a.high<0 then(Cq.ret (Zd.mk a.id a.k a.q a.ο (if a.low<b.1 then b.1 else a.low) b.2 a.done))else(if b.2<a.high then(Cq.ret (Zd.mk a.id a.k a.q a.ο (if a.low<b.1 then b.1 else a.low) b.2 a.done))else(Cq.ret (Zd.mk a.id a.k a.q a.ο (if a.low<b.1 then b.1 else a.low) a.high a.done))))else(Cq.ret (Zd.mk a.id a.k a.q a.ο (if a.low<b.1 then b.1 else a.low) a.high a.done))
def KH(a:Zd)(b:Zh):Cq Zd:=
 Cq.bind (Et a.k a.q b) λc=>if c=true then(Eh b (Zd.mk a.id a.k a.q a.ο a.low a.high true))else(Eh b a)
def Zqc(b:(Ŀ Zd))(a:Int):Cq (Zb×Int):=
 Cq.ret ((Zb.mk b a),0)
def yO(f:Int)(e:Int)(c:(Ŀ Zd))(a:Int)(d:Int)(b:Zd):Cq (((Ŀ Zd)×Int×Int)⊕(((Ŀ Zd)×Int))):=
 if b.id=f then(Cq.Θ c a λg=>Cq.ret (.inl ((c.set a.toNat (Zd.mk b.id b.k b.q (if b.ο<(i64.wrap (e+1))then(i64.wrap (e+1))else b.ο) b.low b.high b.done)),i64.wrap (a+1),d)))else(Cq.Θ c a λh=>Cq.ret (.inl ((c.set a.toNat b),i64.wrap (a+1),d)))
def Zqd(d:Int)(e:Int)(b:(Ŀ Zd))(c:Int)(a:Int)(f:Zd):Cq (((Ŀ Zd)×Int×Int)⊕(((Ŀ Zd)×Int))):=
 yO d e b c a f
def P1(b:(Ŀ Zh)):(Int×Zd)->Cq Zd:=
 Cq.loop λe=>match e with|(a,c)=>if a<(b.length:Int)then(Cq.Θ b a λf=>Cq.bind (KH c f) λd=>Cq.ret (.inl (i64.wrap (a+1),d)))else(Cq.ret (.inr c))
def Zqa(d:Int)(f:(Ŀ Zh))(e:Int)(h:Ĳ)(i:(Ŀ Zd)):((Ŀ Zd)×Int×Int)->Cq (((Ŀ Zd)×Int)):=
 Cq.loop λm=>match m with|(b,c,a)=>if c<(i.length:Int)then(Cq.Θ b c λg=>Cq.bind (vo g.k) λj=>if j=h then(Cq.next (P1 f (0,g)) λn=>match n with|l=>Zqd d e b c a l)else(yO d e b c a g))else(Cq.ret (.inr (b,a)))
def Zqe(b:Zb)(d:Int)(e:(Ŀ Zh))(f:Int)(h:Zd×Bool):Cq (Zb×Int):=
 Cq.bind (vo h.1.k) λi=>Cq.bind (Z3 b.t) λc=>Cq.next (Zqa d e f i c (c,0,b.next)) λj=>match j with|(g,a)=>Zqc g a
def Zqb(b:(Ŀ Zh))(d:Zd×Bool):(Int×Zb)->Cq ((Zb×Int)⊕Zb):=
 Cq.loop λf=>match f with|(a,c)=>if a<(b.length:Int)then(Cq.Θ b a λg=>Cq.bind (EY d.1.k g) λe=>if(!e)=true then(Cq.ret (.inr (.inl ((Zb.mk [] 0),1))))else(Cq.ret (.inl (i64.wrap (a+1),c))))else(Cq.ret (.inr (.inr c)))
def P2(c:Zb)(d:Int)(a:(Ŀ Zh))(e:Int)(b:Zd×Bool)(f:Zb):Cq (Zb×Int):=
 Cq.next (Zqb a b (0,f)) λh=>match h with|.inl g=>Cq.ret g|.inr i=>Zqe c d a e b
def rp(b:Zb)(c:Int)(e:(Ŀ Zh))(a:Int):Cq (Zb×Int):=
 Cq.bind (xz b c) λd=>if(!d.2)=true then(Cq.ret ((Zb.mk [] 0),380))else(if a<0 then(Cq.ret ((Zb.mk [] 0),1))else(if 12<a then(Cq.ret ((Zb.mk [] 0),1))else(P2 b c e a d (Zb.mk [] 0))))
def EN(a:Zd)(b:Zd):Cq Bool:=
 if a.id=b.id then(if a.ο=b.ο then(if a.low=b.low then(if a.high=b.high then(if a.done=b.done then(Cq.bind (yP a.k b.k) λc=>match c with|false=>(Cq.ret false)|true=>(Cq.bind (D9 a.q b.q) λd=>Cq.ret d))else(Cq.ret false))else(Cq.ret false))else(Cq.ret false))else(Cq.ret false))else(Cq.ret false)
def ZtH:Cq Bool:=
 Cq.ret true
def ZtG(b:Zb)(d:Zb):Int->Cq (Bool⊕Unit):=
 Cq.loop λe=>match e with|a=>if a<(b.t.length:Int)then(Cq.Θ b.t a λf=>Cq.Θ d.t a λg=>Cq.bind (EN f g) λc=>if(!c)=true then Cq.fail else(Cq.ret (.inl (i64.wrap (a+1)))))else(Cq.ret (.inr (.inr ())))
def xB(a:Zb)(b:Zb):Cq Bool:=
 if ¬a.next=b.next then(Cq.ret false)else(if ¬(a.t.length:Int)=(b.t.length:Int)then Cq.fail else(Cq.next (ZtG a b 0) λd=>match d with|.inl c=>Cq.ret c|.inr ()=>ZtH))
def PI(a:Zd):Cq Bool:=
 Cq.bind (EC a.k) λb=>Cq.bind (vo b.1) λd=>Cq.bind (vo a.k) λe=>if ¬d=e then(Cq.ret false)else(Cq.bind (Eo a.q b.2) λc=>if c.2=0 then(Cq.bind (Bb c.1) λf=>Cq.bind (Bb a.q) λg=>Cq.ret (decide (f=g)))else(Cq.ret false))
def JF(a:Zd):Cq Bool:=
 Cq.bind (vl a.k) λb=>match b with|false=>(Cq.ret false)|true=>(Cq.bind (Fg a.k a.q) λc=>if(!c)=true then(Cq.ret false)else(PI a))
def KE(a:Zd):Cq Bool:=
 if a.ο<0 then(Cq.ret false)else(if 13<a.ο then(Cq.ret false)else(if a.low<0 then(Cq.ret false)else(if a.high<(-1)then(Cq.ret false)else(JF a))))
def Zqk:Cq Bool:=
 Cq.ret true
def Zql(b:Int)(c:(Ŀ (Ĳ×Bool)))(d:Zd):Cq ((Int×Int×(Ŀ (Ĳ×Bool)))⊕(Bool⊕Unit)):=
 Cq.bind (tI d.k d.q) λa=>Cq.ê ((a.size<=1000000)/\(eX c a true).length<=small) (Cq.ret (.inl (d.id,i64.wrap (b+1),(eX c a true))))
def J8(d:(Ŀ (Ĳ×Bool)))(e:Zd)(b:(Ŀ Ze)):Int->Cq (Bool⊕Unit):=
 Cq.loop λf=>match f with|a=>if a<(b.length:Int)then(Cq.Θ b a λg=>Cq.bind (tI e.k g) λc=>Cq.ê (c.size<=1000000) (if(!((fj d c).getD false))=true then(Cq.ret (.inr (.inl false)))else(Cq.ret (.inl (i64.wrap (a+1))))))else(Cq.ret (.inr (.inr ())))
def P3(a:Int)(b:(Ŀ (Ĳ×Bool)))(c:Zd):Cq ((Int×Int×(Ŀ (Ĳ×Bool)))⊕(Bool⊕Unit)):=
 Cq.bind (yR c.q) λd=>Cq.next (J8 b c d 0) λf=>match f with|.inl e=>Cq.ret (.inr (.inl e))|.inr ()=>Zql a b c
def J7(b:Zb):(Int×Int×(Ŀ (Ĳ×Bool)))->Cq (Bool⊕Unit):=
 Cq.loop λh=>match h with|(f,a,d)=>if a<(b.t.length:Int)then(Cq.Θ b.t a λc=>if c.id<=f then(Cq.ret (.inr (.inl false)))else(if b.next<=c.id then(Cq.ret (.inr (.inl false)))else(Cq.bind (KE c) λg=>match g with|false=>(Cq.ret (.inr (.inl false)))|true=>(Cq.bind (tI c.k c.q) λe=>Cq.ê (e.size<=1000000) (if((fj d e).getD false)=true then(Cq.ret (.inr (.inl false)))else(P3 a d c))))))else(Cq.ret (.inr (.inr ())))
def P4(a:Zb):Cq Bool:=
 Cq.next (J7 a (0,0,[])) λc=>match c with|.inl b=>Cq.ret b|.inr ()=>Zqk
def AO(a:Zb):Cq Bool:=
 if a.next<1 then(Cq.ret false)else(if 1000000<a.next then(Cq.ret false)else(if 100<(a.t.length:Int)then(Cq.ret false)else(P4 a)))
def J5(d:Ze)(b:(Ŀ (Ĳ×Bool)))(c:Zd):Cq Bool:=
 Cq.bind (tI c.k d) λa=>Cq.ê (a.size<=1000000) (Cq.ret (!((fj b a).getD false)))
def ZR(a:(Ŀ Zd)):Cq (Ŀ Zd):=
 Cq.bind (ua (u64.wrap (a.length:Int))) λb=>Cq.bind (O9 a 0 (a.length:Int) b) λc=>Cq.ret c
def Zax:Cq Int:=
 Cq.ret (-1)
def Zaw(d:(Ŀ Ze))(b:(Ŀ (Ĳ×Bool)))(c:Zd):Int->Cq (Int⊕Unit):=
 Cq.loop λf=>match f with|a=>if a<(d.length:Int)then(Cq.Θ d a λg=>Cq.bind (J5 g b c) λe=>if e=true then(Cq.ret (.inr (.inl a)))else(Cq.ret (.inl (i64.wrap (a+1)))))else(Cq.ret (.inr (.inr ())))
def ZW(d:(Ŀ Ze))(a:(Ŀ (Ĳ×Bool)))(b:Zd):Cq Int:=
 Cq.next (Zaw d a b 0) λe=>match e with|.inl c=>Cq.ret c|.inr ()=>Zax
def ZG(d:(Ŀ Ze))(a:(Ŀ (Ĳ×Bool)))(b:Zd):Cq Bool:=
 Cq.bind (ZW d a b) λc=>Cq.ret (decide (0<=c))
def Zqh(a:(Ŀ Int)):Cq (Ŀ Int):=
 Cq.ret a
def Zqf(c:(Ŀ Zd)):((Ŀ Int)×Int)->Cq (Ŀ Int):=
 Cq.loop λe=>match e with|(a,b)=>if b<(c.length:Int)then(Cq.Θ c b λd=>Cq.ê ((a++[d.id]).length<=small) (Cq.ret (.inl ((a++[d.id]),i64.wrap (b+1)))))else(Cq.ret (.inr a))
def Zqi(b:(Ŀ Zd)):Cq (Ŀ Int):=
 Cq.bind (ZR b) λc=>Cq.next (Zqf c ([],0)) λd=>match d with|a=>Zqh a
def Zqg(d:Zb)(e:(Ŀ (Ĳ×Bool))):((Ŀ Zd)×Int)->Cq (Ŀ Zd):=
 Cq.loop λh=>match h with|(b,a)=>if a<(d.t.length:Int)then(Cq.Θ d.t a λc=>if c.done=true then(Cq.ret (.inl (b,i64.wrap (a+1))))else(if c.ο<=12 then(Cq.bind (yR c.q) λf=>Cq.bind (ZG f e c) λg=>if(!g)=true then(Cq.ê ((b++[c]).length<=small) (Cq.ret (.inl ((b++[c]),i64.wrap (a+1)))))else(Cq.ret (.inl (b,i64.wrap (a+1)))))else(Cq.ret (.inl (b,i64.wrap (a+1))))))else(Cq.ret (.inr b))
def Zqj(a:Zb)(c:(Ŀ (Ĳ×Bool))):Cq (Ŀ Int):=
 Cq.next (Zqg a c ([],0)) λd=>match d with|b=>Zqi b
def Eg(c:Zb):(Int×(Ŀ (Ĳ×Bool)))->Cq (((Ŀ (Ĳ×Bool)))):=
 Cq.loop λf=>match f with|(a,b)=>if a<(c.t.length:Int)then(Cq.Θ c.t a λe=>if e.done=true then(Cq.bind (tI e.k e.q) λd=>Cq.ê ((d.size<=1000000)/\(eX b d true).length<=small) (Cq.ret (.inl (i64.wrap (a+1),(eX b d true)))))else(Cq.ret (.inl (i64.wrap (a+1),b))))else(Cq.ret (.inr b))
def Ff(a:Zb):Cq (Ŀ Int):=
 Cq.next (Eg a (0,[])) λc=>match c with|b=>Zqj a b
def Jo(i:(Ŀ Za)×Int)(j:Zb×Int×Int):Cq Bool:=
 Cq.bind (A1 5) λd=>Cq.bind (xF j.1 (Zc.mk 1 [i.1] []) d) λa=>if ¬a.2.2=0 then(Cq.ret false)else(Cq.bind (rp a.1 a.2.1 [(Zh.mk 12 [] 5 0 0 [] [] [] []),(Zh.mk 12 [] 7 0 0 [] [] [] [])] 0) λc=>Cq.bind (xz c.1 a.2.1) λb=>if c.2=0 then(if b.2=true then(if b.1.high=5 then(if b.1.low=0 then(if b.1.done=true then(Cq.ret false)else(Cq.bind (Bo) λe=>Cq.bind (AO e) λf=>match f with|false=>(Cq.ret false)|true=>(Cq.bind (Bo) λg=>Cq.bind (Ff g) λh=>Cq.ret (decide ((h.length:Int)=0)))))else(Cq.ret false))else(Cq.ret false))else(Cq.ret false))else(Cq.ret false))
def Ej:Cq Bool:=
 Cq.bind (L9 0) λc=>Cq.bind (Bo) λk=>Cq.bind (A1 4) λl=>Cq.bind (xF k (Zc.mk 1 [c.1] []) l) λa=>Cq.bind (A1 4) λm=>Cq.bind (xF a.1 (Zc.mk 1 [c.1] []) m) λd=>Cq.bind (rp a.1 a.2.1 [(Zh.mk 5 [] 1 0 0 [] [] [] [])] 3) λe=>Cq.bind (A1 11) λf=>Cq.bind (xF a.1 (Zc.mk 1 [c.1] []) f) λg=>Cq.bind (rp a.1 a.1.next [] 3) λh=>Cq.bind (rp a.1 a.2.1 [] 13) λi=>Cq.bind (xz e.1 a.2.1) λb=>if ¬a.2.2=0 then(Cq.ret false)else(if ¬d.2.2=0 then(Cq.ret false)else(if ¬e.2=0 then(Cq.ret false)else(if ¬g.2.2=1 then(Cq.ret false)else(if ¬h.2=380 then(Cq.ret false)else(if ¬i.2=1 then(Cq.ret false)else(if ¬a.2.1=d.2.1 then(Cq.ret false)else(Cq.bind (xB a.1 d.1) λj=>match j with|false=>(Cq.ret false)|true=>(if b.2=true then(if b.1.done=true then(if ¬b.1.ο=4 then(Cq.ret false)else(if ¬b.1.high=(-1)then(Cq.ret false)else(Jo c a)))else(Cq.ret false))else(Cq.ret false)))))))))
def Mb:Cq Zb:=
 Cq.ret (Zb.mk [] 1)
def Gp(a:Int):Cq Int:=
 if a<0 then(Cq.ret (i64.wrap (0-(i64.wrap a))))else(Cq.ret (i64.wrap a))
def Lf(b:Zf)(c:(Ŀ Za)):Cq (Ŀ Za):=
 Cq.bind (FN b (λ_=>0) c) λa=>Cq.ret a.1
def Ztj(a:(Ŀ Za)):Cq (Ŀ Za):=
 Cq.ret a
def Ztk(b:Zu)(c:(Ŀ Za))(a:Int)(d:(Fin 8->Int)):Cq (((Ŀ Za)×Int)⊕(Ŀ Za)):=
 Cq.Θ b.t a λi=>Cq.bind (ZX (i64.wrap (Int.tmod (Ζ i 0) 4))) λe=>Cq.bind (ZX 1) λf=>Cq.bind (Lf e [(Za.mk f d)]) λg=>Cq.bind (Bu c g) λh=>Cq.ret (.inl (h,i64.wrap (a+1)))
def Ro(f:Zu)(g:Int)(d:Int):(Int×Int×(Fin 8->Int))->Cq (Fin 8->Int):=
 Cq.loop λh=>match h with|(b,a,c)=>if a<g then(if a<4 then(Cq.Θ f.t d λi=>Cq.ê (0<=i64.wrap (1+a)/\(i64.wrap (1+a))<5) (Cq.bind (Gp (Ζ i (i64.wrap (1+a)))) λe=>Cq.ê ((i64.wrap (b+1))≠0) (Cq.ê (0<=a/\a<8) (Cq.ê (0<=a/\a<8) (Cq.ret (.inl (i64.wrap (b-(Ζ (ζ c a.toNat (Int.tmod e (i64.wrap (b+1)))) a)),i64.wrap (a+1),ζ c a.toNat (Int.tmod e (i64.wrap (b+1))))))))))else(Cq.ret (.inr c)))else(Cq.ret (.inr c))
def Rq(b:Zu)(c:Int)(d:Int)(e:(Ŀ Za))(a:Int):Cq (((Ŀ Za)×Int)⊕(Ŀ Za)):=
 Cq.next (Ro b c a (d,0,(λ_=>0))) λg=>match g with|f=>Ztk b e a f
def Zti(c:Zu)(d:Int)(e:Int)(f:Int):((Ŀ Za)×Int)->Cq (Ŀ Za):=
 Cq.loop λg=>match g with|(b,a)=>if a<(c.t.length:Int)then(if a<f then(Rq c d e b a)else(Cq.ret (.inr b)))else(Cq.ret (.inr b))
def Bk(a:Zu)(b:Int)(c:Int)(d:Int):Cq (Ŀ Za):=
 Cq.next (Zti a b c d ([],0)) λf=>match f with|e=>Ztj e
def Kg(a:(Ŀ Ĳ))(d:(Ŀ Zo))(b:(Ŀ Zo))(c:Int):Cq Zx:=
 Cq.ret (Zx.mk a d b c)
def EU(h:ZA)(f:Int)(e:(Ŀ Ĳ))(d:(Ŀ Zo))(b:(Ŀ Zo))(a:Int)(c:Int):Cq ((Int×(Ŀ Ĳ)×(Ŀ Zo)×(Ŀ Zo)×Int)⊕(((Ŀ Ĳ)×(Ŀ Zo)×(Ŀ Zo)×Int))):=
 Cq.Θ h.l f λi=>Cq.bind (Bk i (i64.wrap (Int.tmod h.n 4)) 2 3) λg=>if(Int.tmod f 3)=2 then(Cq.ê ((b++[(Zo.mk (i64.wrap (a+c)) g)]).length<=small) (Cq.ret (.inl (i64.wrap (f+1),e,d,(b++[(Zo.mk (i64.wrap (a+c)) g)]),i64.wrap ((i64.wrap (a+c))+1)))))else(Cq.ê ((d++[(Zo.mk (i64.wrap (a+c)) g)]).length<=small) (Cq.ret (.inl (i64.wrap (f+1),e,(d++[(Zo.mk (i64.wrap (a+c)) g)]),b,i64.wrap ((i64.wrap (a+c))+1)))))
def EV(a:ZA)(f:Int)(b:(Ŀ Ĳ))(e:(Ŀ Zo))(c:(Ŀ Zo))(d:Int):Cq ((Int×(Ŀ Ĳ)×(Ŀ Zo)×(Ŀ Zo)×Int)⊕(((Ŀ Ĳ)×(Ŀ Zo)×(Ŀ Zo)×Int))):=
 if 0<(a.iu.length:Int)then(Cq.ê ((a.iu.length:Int)≠0) (Cq.Θ a.iu (Int.tmod f (a.iu.length:Int)) λg=>EU a f b e c d (i64.wrap (Int.tmod g 4))))else(EU a f b e c d 0)
def Ztw(f:ZA):(Int×(Ŀ Ĳ)×(Ŀ Zo)×(Ŀ Zo)×Int)->Cq (((Ŀ Ĳ)×(Ŀ Zo)×(Ŀ Zo)×Int)):=
 Cq.loop λg=>match g with|(e,a,d,b,c)=>if e<(f.l.length:Int)then(if e<6 then(EV f e a d b c)else(Cq.ret (.inr (a,d,b,c))))else(Cq.ret (.inr (a,d,b,c)))
def FT(a:ZA):Cq Zx:=
 Cq.ê (0<=(0:Int)/\(0:Int)<=(i64.wrap (Int.tmod a.n 4))/\(i64.wrap (Int.tmod a.n 4))<=([AM,AL,AK].length:Int)) (Cq.next (Ztw a (0,(([AM,AL,AK].take (i64.wrap (Int.tmod a.n 4)).toNat).drop (0:Int).toNat),[],[],1)) λf=>match f with|(b,e,c,d)=>Kg b e c d)
def ZtA:Cq Bool:=
 Cq.ret true
def Ztz(b:(Ŀ Zo))(d:Int)(c:Int):Int->Cq (Bool⊕Unit):=
 Cq.loop λg=>match g with|a=>if a<(b.length:Int)then(Cq.Θ b a λh=>if h.id<1 then(Cq.ret (.inr (.inl false)))else(Cq.Θ b a λi=>if c<=i.id then(Cq.ret (.inr (.inl false)))else(if 0<a then(Cq.Θ b (i64.wrap (a-1)) λj=>Cq.Θ b a λk=>if k.id<=j.id then(Cq.ret (.inr (.inl false)))else(Cq.Θ b a λl=>Cq.bind (yW l.p d) λe=>if(!e)=true then(Cq.ret (.inr (.inl false)))else(Cq.ret (.inl (i64.wrap (a+1))))))else(Cq.Θ b a λm=>Cq.bind (yW m.p d) λf=>if(!f)=true then(Cq.ret (.inr (.inl false)))else(Cq.ret (.inl (i64.wrap (a+1))))))))else(Cq.ret (.inr (.inr ())))
def Be(b:(Ŀ Zo))(d:Int)(a:Int):Cq Bool:=
 if 12<(b.length:Int)then(Cq.ret false)else(Cq.next (Ztz b d a 0) λe=>match e with|.inl c=>Cq.ret c|.inr ()=>ZtA)
def AT(a:Int):Cq Bool:=
 if 65<=a then(if a<=90 then(Cq.ret true)else(if 97<=a then(Cq.ret (decide (a<=122)))else(Cq.ret false)))else(if 97<=a then(Cq.ret (decide (a<=122)))else(Cq.ret false))
def Zty:Cq Bool:=
 Cq.ret true
def Ztx(b:Ĳ):Int->Cq (Bool⊕Unit):=
 Cq.loop λd=>match d with|a=>if a<(b.size:Int)then(Cq.ê (0<=(a:Int)/\a<(b.size:Int)) (Cq.bind (AT (eR b a)) λc=>match c with|false=>(Cq.ê (0<=(a:Int)/\a<(b.size:Int)) (if 48<=(eR b a)then(Cq.ê (0<=(a:Int)/\a<(b.size:Int)) (if(eR b a)<=57 then(Cq.ret (.inl (i64.wrap (a+1))))else(Cq.ê (0<=(a:Int)/\a<(b.size:Int)) (if ¬(eR b a)=95 then(Cq.ret (.inr (.inl false)))else(Cq.ret (.inl (i64.wrap (a+1))))))))else(Cq.ê (0<=(a:Int)/\a<(b.size:Int)) (if ¬(eR b a)=95 then(Cq.ret (.inr (.inl false)))else(Cq.ret (.inl (i64.wrap (a+1))))))))|true=>(Cq.ret (.inl (i64.wrap (a+1))))))else(Cq.ret (.inr (.inr ())))
def Rs(b:Ĳ):Cq Bool:=
 Cq.next (Ztx b 1) λc=>match c with|.inl a=>Cq.ret a|.inr ()=>Zty
def FU(a:Ĳ):Cq Bool:=
 if(a.size:Int)<1 then(Cq.ret false)else(if 12<(a.size:Int)then(Cq.ret false)else(Cq.ê (0<=(0:Int)/\0<(a.size:Int)) (Cq.bind (AT (eR a 0)) λb=>if(!b)=true then(Cq.ret false)else(Rs a))))
def Zrd:Cq Bool:=
 Cq.ret true
def Zre(a:Int):Cq (Int⊕(Bool⊕Unit)):=
 Cq.ret (.inl (i64.wrap (a+1)))
def Zra(a:Zx)(c:Int):Int->Cq (Bool⊕Unit):=
 Cq.loop λd=>match d with|b=>if b<(a.ε.length:Int)then(Cq.Θ a.eqs c λe=>Cq.Θ a.ε b λf=>if e.id=f.id then(Cq.ret (.inr (.inl false)))else(Cq.ret (.inl (i64.wrap (b+1)))))else(Cq.ret (.inr (.inr ())))
def Zq9(b:Zx):Int->Cq (Bool⊕Unit):=
 Cq.loop λd=>match d with|a=>if a<(b.eqs.length:Int)then(Cq.next (Zra b a 0) λe=>match e with|.inl c=>Cq.ret (.inr (.inl c))|.inr ()=>Zre a)else(Cq.ret (.inr (.inr ())))
def Qp(a:Zx):Cq Bool:=
 Cq.next (Zq9 a 0) λc=>match c with|.inl b=>Cq.ret b|.inr ()=>Zrd
def Qq(b:Zx)(a:Int):Cq (Int⊕(Bool⊕Unit)):=
 Cq.Θ b.vars a λd=>Cq.bind (FU d) λc=>if(!c)=true then(Cq.ret (.inr (.inl false)))else(Cq.ret (.inl (i64.wrap (a+1))))
def Zrc(b:Zx)(c:Int):Int->Cq (Bool⊕Unit):=
 Cq.loop λd=>match d with|a=>if a<c then(Cq.Θ b.vars c λe=>Cq.Θ b.vars a λf=>if e=f then(Cq.ret (.inr (.inl false)))else(Cq.ret (.inl (i64.wrap (a+1)))))else(Cq.ret (.inr (.inr ())))
def Zrb(a:Zx):Int->Cq (Bool⊕Unit):=
 Cq.loop λd=>match d with|b=>if b<(a.vars.length:Int)then(Cq.next (Zrc a b 0) λe=>match e with|.inl c=>Cq.ret (.inr (.inl c))|.inr ()=>Qq a b)else(Cq.ret (.inr (.inr ())))
def Qr(a:Zx):Cq Bool:=
 Cq.next (Zrb a 0) λc=>match c with|.inl b=>Cq.ret b|.inr ()=>Qp a
def Fv(a:Zx):Cq Bool:=
 if 4<(a.vars.length:Int)then(Cq.ret false)else(if a.next<1 then(Cq.ret false)else(if 1000000<a.next then(Cq.ret false)else(Cq.bind (Be a.eqs (a.vars.length:Int) a.next) λb=>match b with|false=>(Cq.ret false)|true=>(Cq.bind (Be a.ε (a.vars.length:Int) a.next) λc=>if(!c)=true then(Cq.ret false)else(Qr a)))))
def Zq8(a:(Ŀ (Ŀ Za))):Cq ((Ŀ (Ŀ Za))):=
 Cq.ret a
def Zq7(c:(Ŀ Zo)):((Ŀ (Ŀ Za))×Int)->Cq (((Ŀ (Ŀ Za)))):=
 Cq.loop λe=>match e with|(a,b)=>if b<(c.length:Int)then(Cq.Θ c b λd=>Cq.ê ((a++[d.p]).length<=small) (Cq.ret (.inl ((a++[d.p]),i64.wrap (b+1)))))else(Cq.ret (.inr a))
def Fu(b:(Ŀ Zo)):Cq ((Ŀ (Ŀ Za))):=
 Cq.next (Zq7 b ([],0)) λc=>match c with|a=>Zq8 a
def LH(a:Zx):Cq (Zc×Int):=
 Cq.bind (Fv a) λc=>if(!c)=true then(Cq.ret ((Zc.mk 0 [] []),320))else(Cq.bind (Fu a.eqs) λd=>Cq.bind (Fu a.ε) λe=>Cq.bind (E3 (if 1<(a.vars.length:Int)then(a.vars.length:Int)else 1) d e) λb=>Cq.ret (b.1,b.2))
def Bg(d:Zq):Cq Zc:=
 Cq.bind (FT d.c) λa=>Cq.bind (LH a) λb=>Cq.ret b.1
def U2:Cq ((Ŀ (Fin 8->Int))):=
 Cq.ret []
def Fj:Cq ((Ŀ (Fin 8->Int))):=
 Cq.ret [ζ (ζ (ζ (ζ (ζ (ζ (ζ (ζ (λ_=>0) 0 1) 1 1) 2 1) 3 1) 4 1) 5 1) 6 1) 7 1]
def ZnZ(a:(Ŀ (Fin 8->Int))):Cq ((Ŀ (Fin 8->Int))):=
 Cq.ret a
def ZnY:((Ŀ (Fin 8->Int))×Int)->Cq (((Ŀ (Fin 8->Int)))):=
 Cq.loop λd=>match d with|(b,c)=>if 0<c then(Cq.bind (F1 c (-1)) λa=>Cq.ê ((b++[a]).length<=small) (Cq.ret (.inl ((b++[a]),i64.wrap (c-1)))))else(Cq.ret (.inr b))
def ES:Cq ((Ŀ (Fin 8->Int))):=
 Cq.bind (Fj) λa=>Cq.next (ZnY (a,7)) λb=>match b with|c=>ZnZ c
def VR(a:Int)(b:Int):Cq Bool:=
 Cq.ê (0<=(u64.wrap b)) (Cq.ret (decide ((u8.wrap (BitVec.ofInt u8.bits (Int.fdiv a (2 ^ (min (u64.wrap b).toNat u8.bits))) &&& BitVec.ofInt u8.bits 1).toNat)=1)))
def Zjt(a:(Fin 8->Int)):Cq ((Ŀ (Fin 8->Int))):=
 Cq.bind (ES) λb=>Cq.ê (([a]++b).length<=small) (Cq.ret ([a]++b))
def Zjs(c:Int):(Int×(Fin 8->Int))->Cq (Fin 8->Int):=
 Cq.loop λe=>match e with|(a,b)=>if a<8 then(Cq.bind (VR c a) λd=>if d=true then(Cq.ê (0<=a/\a<8) (Cq.ret (.inl (i64.wrap (a+1),ζ b a.toNat 1))))else(Cq.ret (.inl (i64.wrap (a+1),b))))else(Cq.ret (.inr b))
def Jt(a:Int):Cq ((Ŀ (Fin 8->Int))):=
 Cq.next (Zjs a (0,(λ_=>0))) λc=>match c with|b=>Zjt b
def ET(b:Int)(a:Bool):Cq ((Ŀ (Fin 8->Int))):=
 if a=true then(Cq.bind (ES) λc=>Cq.ret c)else(if(Int.tmod b 8)=4 then(Cq.ret [ζ (ζ (ζ (ζ (ζ (ζ (ζ (ζ (λ_=>0) 0 2) 1 3) 2 1) 3 1) 4 1) 5 1) 6 1) 7 1])else(if(Int.tmod b 8)=5 then(Cq.ret [ζ (ζ (ζ (ζ (ζ (ζ (ζ (ζ (λ_=>0) 0 1) 1 1) 2 0) 3 0) 4 0) 5 0) 6 0) 7 0,ζ (ζ (ζ (ζ (ζ (ζ (ζ (ζ (λ_=>0) 0 1) 1 0) 2 2) 3 1) 4 1) 5 1) 6 1) 7 1])else(Cq.bind (Jt (Int.tmod (u8.wrap (Int.tdiv b 8)) 16)) λd=>Cq.ret d)))
def xw(a:Int):Cq ((Ŀ (Fin 8->Int))):=
 if(Int.tmod a 8)=0 then(Cq.bind (U2) λb=>Cq.ret b)else(if(Int.tmod a 8)=1 then(Cq.bind (Fj) λc=>Cq.ret c)else(if(Int.tmod a 8)=2 then(ET a (decide ((Int.tmod a 8)=2)))else(ET a (decide ((Int.tmod a 8)=3)))))
def EW(c:Zq)(a:Ze):Cq Ze:=
 if a.kind=3 then(Cq.bind (xw c.o) λb=>Cq.ret (Ze.mk a.kind a.p b))else(Cq.ret a)
def Bf(a:Zq)(b:Zc):Cq Ze:=
 Cq.bind (Ex (i64.wrap (Int.tmod a.kind 12))) λc=>if c=true then(Cq.bind (Bk a.p (if 3<b.n then 3 else b.n) 2 3) λd=>EW a (Ze.mk (i64.wrap (Int.tmod a.kind 12)) d []))else(EW a (Ze.mk (i64.wrap (Int.tmod a.kind 12)) [] []))
def Rn(a:(Ŀ (Ŀ Za))):Cq ((Ŀ (Ŀ Za))):=
 Cq.ret a
def Zth(g:(Ŀ Zu))(h:Int)(f:Int)(b:Int)(c:Int):((Ŀ (Ŀ Za))×Int)->Cq (((Ŀ (Ŀ Za)))):=
 Cq.loop λi=>match i with|(a,d)=>if d<(g.length:Int)then(if d<c then(Cq.Θ g d λj=>Cq.bind (Bk j h f b) λe=>Cq.ê ((a++[e]).length<=small) (Cq.ret (.inl ((a++[e]),i64.wrap (d+1)))))else(Cq.ret (.inr a)))else(Cq.ret (.inr a))
def LG(e:(Ŀ Zu))(f:Int)(c:Int)(a:Int)(b:Int):Cq ((Ŀ (Ŀ Za))):=
 Cq.next (Zth e f c a b ([],0)) λg=>match g with|d=>Rn d
def Ztv(a:(Ŀ (Ŀ Za))):Cq ((Ŀ (Ŀ Za))):=
 Cq.ret a
def Ztu(b:(Ŀ (Ŀ Za)))(e:Int)(f:Int):((Ŀ (Ŀ Za))×Int)->Cq (((Ŀ (Ŀ Za)))):=
 Cq.loop λg=>match g with|(a,c)=>if c<f then(if(b.length:Int)=0 then(Cq.ê ((a++[[]]).length<=small) (Cq.ret (.inl ((a++[[]]),i64.wrap (c+1)))))else(Cq.ê ((b.length:Int)≠0) (Cq.Θ b (Int.tmod (i64.wrap (e+c)) (b.length:Int)) λd=>Cq.ê ((a++[d]).length<=small) (Cq.ret (.inl ((a++[d]),i64.wrap (c+1)))))))else(Cq.ret (.inr a))
def xA(b:(Ŀ (Ŀ Za)))(c:Int)(d:Int):Cq ((Ŀ (Ŀ Za))):=
 Cq.next (Ztu b c d ([],0)) λe=>match e with|a=>Ztv a
def ud(a:(Ŀ Int))(b:Int):Cq Int:=
 if(a.length:Int)=0 then(Cq.ret 0)else(Cq.ê ((a.length:Int)≠0) (Cq.Θ a (Int.tmod b (a.length:Int)) λc=>Cq.ret (i64.wrap c)))
def Zs2(d:vk)(a:Zg)(b:Zg):Cq Zf:=
 if(Int.tmod d.k 8)=6 then Cq.fail else(Cq.bind (AP b a) λc=>Cq.ret c)
def Rh(a:vk)(b:Zg)(c:Zg):Cq Zf:=
 Cq.bind (ur (i64.wrap (4611686018427387904+(i64.wrap a.k)))) λd=>if(Int.tmod a.k 8)=7 then Cq.fail else(Zs2 a c b)
def xv(a:vk):Cq Zf:=
 Cq.bind (ur (i64.wrap a.n)) λb=>Cq.bind (ur (i64.wrap a.d)) λc=>if a.d=0 then Cq.fail else(Rh a b c)
def Zvh(a:(Ŀ Zl)):Cq (Ŀ Zl):=
 Cq.ret a
def RU(d:(Ŀ Int))(e:Int):(Int×(Ŀ Zl))->Cq (Ŀ Zl):=
 Cq.loop λj=>match j with|(a,b)=>if a<2 then(Cq.bind (ud d (i64.wrap (e+a))) λf=>Cq.bind (xv (vk.mk (i8.wrap f) 3 0)) λc=>Cq.bind (ud d e) λg=>Cq.bind (xv (vk.mk (i8.wrap (i64.wrap (BitVec.ofInt i64.bits g &&& BitVec.ofInt i64.bits 7).toNat)) 2 0)) λh=>Cq.bind (vE c h) λi=>Cq.Θ b a λk=>Cq.ret (.inl (i64.wrap (a+1),b.set a.toNat (Zl.mk c i))))else(Cq.ret (.inr b))
def Zvi(c:(Ŀ Int))(d:Int)(a:(Ŀ Zl)):Cq (Ŀ Zl):=
 Cq.next (RU c d (0,a)) λe=>match e with|b=>Zvh b
def RW:(Int×(Ŀ Zl))->Cq (Ŀ Zl):=
 Cq.loop λe=>match e with|(b,a)=>if b<8 then(Cq.bind (ZX 0) λc=>Cq.bind (ZX 0) λd=>Cq.Θ a b λf=>Cq.ret (.inl (i64.wrap (b+1),a.set b.toNat (Zl.mk c d))))else(Cq.ret (.inr a))
def Ma(b:(Ŀ Int))(c:Int):Cq (Ŀ Zl):=
 Cq.next (RW (0,(List.replicate 8 (Zl.mk (Zf.mk (Zg.mk false []) (Zg.mk false [])) (Zf.mk (Zg.mk false []) (Zg.mk false [])))))) λd=>match d with|a=>Zvi b c a
def ZlX(j:(Ŀ Za))(a:Int)(i:(Ŀ Za))(b:Int)(c:Int)(d:Int)(e:(Ŀ (Fin 8->Int)))(f:(Ŀ (Ŀ Za)))(g:(Ŀ Int))(h:(Ŀ (Ŀ Zl))):Cq Zh:=
 if a=8 then(Cq.ret (Zh.mk a j b c d e f g h))else(Cq.ret (Zh.mk a i b c d e f g h))
def Jk(k:ZM)(o:(Ŀ Za))(n:Int):(Int×Int×(Ŀ Za)×Int×Int×Int×(Ŀ (Fin 8->Int))×(Ŀ (Ŀ Za))×(Ŀ Int)×(Ŀ (Ŀ Zl)))->Cq ((Int×(Ŀ Za)×Int×Int×Int×(Ŀ (Fin 8->Int))×(Ŀ (Ŀ Za))×(Ŀ Int)×(Ŀ (Ŀ Zl)))):=
 Cq.loop λp=>match p with|(b,a,l,e,f,g,h,i,c,d)=>if b<(i64.wrap (BitVec.ofInt i64.bits (i64.wrap (BitVec.ofInt i64.bits n &&& BitVec.ofInt i64.bits 7).toNat) &&& BitVec.ofInt i64.bits 3).toNat)then(Cq.bind (Ma k.v b) λj=>Cq.ê ((d++[j]).length<=small) (if a=8 then(Cq.bind (ud k.v b) λm=>Cq.ê ((c++[i64.wrap ((Int.tmod (i64.wrap (BitVec.ofInt i64.bits m &&& BitVec.ofInt i64.bits 127).toNat) 3)-1)]).length<=small) (Cq.ret (.inl (i64.wrap (b+1),a,o,e,f,g,h,i,(c++[i64.wrap ((Int.tmod (i64.wrap (BitVec.ofInt i64.bits m &&& BitVec.ofInt i64.bits 127).toNat) 3)-1)]),(d++[j])))))else(Cq.ret (.inl (i64.wrap (b+1),a,l,e,f,g,h,i,c,(d++[j]))))))else(Cq.ret (.inr (a,l,e,f,g,h,i,c,d)))
def Jy(a:ZM)(n:(Ŀ (Ŀ Za)))(o:(Ŀ Za))(b:Int)(d:Bool):Cq Zh:=
 if d=true then(Cq.next (Jk a o b (0,i64.wrap (1+(i64.wrap (Int.tmod a.kind 13))),[],0,0,0,[],[],[],[])) λp=>match p with|(c,e,f,g,h,i,j,k,l)=>ZlX o c e f g h i j k l)else(if(i64.wrap (1+(i64.wrap (Int.tmod a.kind 13))))=11 then(Cq.bind (xA n 1 (i64.wrap (BitVec.ofInt i64.bits (i64.wrap (BitVec.ofInt i64.bits b &&& BitVec.ofInt i64.bits 7).toNat) &&& BitVec.ofInt i64.bits 3).toNat)) λm=>Cq.ret (Zh.mk (i64.wrap (1+(i64.wrap (Int.tmod a.kind 13)))) [] 0 0 0 [] m [] []))else(if(i64.wrap (1+(i64.wrap (Int.tmod a.kind 13))))=12 then(if(i64.wrap (1+(i64.wrap (Int.tmod a.kind 13))))=12 then(Cq.ret (Zh.mk (i64.wrap (1+(i64.wrap (Int.tmod a.kind 13)))) [] (i64.wrap (BitVec.ofInt i64.bits b &&& BitVec.ofInt i64.bits 7).toNat) 0 0 [] [] [] []))else(Cq.ret (Zh.mk (i64.wrap (1+(i64.wrap (Int.tmod a.kind 13)))) [] 0 0 0 [] [] [] [])))else(if(i64.wrap (1+(i64.wrap (Int.tmod a.kind 13))))=13 then(Cq.ret (Zh.mk (i64.wrap (1+(i64.wrap (Int.tmod a.kind 13)))) [] (i64.wrap (BitVec.ofInt i64.bits b &&& BitVec.ofInt i64.bits 7).toNat) 0 0 [] [] [] []))else(Cq.ret (Zh.mk (i64.wrap (1+(i64.wrap (Int.tmod a.kind 13)))) [] 0 0 0 [] [] [] [])))))
def w7(a:ZM)(c:(Ŀ (Ŀ Za)))(e:(Ŀ Za))(b:Int)(d:Bool):Cq Zh:=
 if d=true then(Cq.ret (Zh.mk (i64.wrap (1+(i64.wrap (Int.tmod a.kind 13)))) e 0 0 0 [] [] [] []))else(if(i64.wrap (1+(i64.wrap (Int.tmod a.kind 13))))=4 then(Cq.bind (ud a.v 2) λg=>Cq.bind (xw (u8.wrap g)) λh=>Cq.bind (xA c 1 (i64.wrap (BitVec.ofInt i64.bits (i64.wrap (BitVec.ofInt i64.bits b &&& BitVec.ofInt i64.bits 7).toNat) &&& BitVec.ofInt i64.bits 3).toNat)) λi=>Cq.ret (Zh.mk (i64.wrap (1+(i64.wrap (Int.tmod a.kind 13)))) [] 0 0 0 h i [] []))else(if(i64.wrap (1+(i64.wrap (Int.tmod a.kind 13))))=5 then(Cq.bind (ud a.v 3) λf=>Cq.ret (Zh.mk (i64.wrap (1+(i64.wrap (Int.tmod a.kind 13)))) [] (i64.wrap (BitVec.ofInt i64.bits f &&& BitVec.ofInt i64.bits 15).toNat) (i64.wrap ((i64.wrap (BitVec.ofInt i64.bits (i64.wrap (BitVec.ofInt i64.bits b &&& BitVec.ofInt i64.bits 7).toNat) &&& BitVec.ofInt i64.bits 3).toNat)-1)) 0 [] [] [] []))else(if(i64.wrap (1+(i64.wrap (Int.tmod a.kind 13))))=6 then(Cq.ret (Zh.mk (i64.wrap (1+(i64.wrap (Int.tmod a.kind 13)))) [] (i64.wrap (BitVec.ofInt i64.bits b &&& BitVec.ofInt i64.bits 7).toNat) (i64.wrap ((i64.wrap (BitVec.ofInt i64.bits b &&& BitVec.ofInt i64.bits 7).toNat)-(i64.wrap (Int.tdiv (i64.wrap (BitVec.ofInt i64.bits b &&& BitVec.ofInt i64.bits 7).toNat) 3)))) (i64.wrap (Int.tdiv (i64.wrap (BitVec.ofInt i64.bits b &&& BitVec.ofInt i64.bits 7).toNat) 2)) [] [] [] []))else(if(i64.wrap (1+(i64.wrap (Int.tmod a.kind 13))))=7 then(Jy a c e b (decide ((i64.wrap (1+(i64.wrap (Int.tmod a.kind 13))))=7)))else(Jy a c e b (decide ((i64.wrap (1+(i64.wrap (Int.tmod a.kind 13))))=8)))))))
def Es(a:ZM):Cq Zh:=
 Cq.bind (LG a.l 2 2 3 6) λb=>Cq.bind (xA b 2 1) λe=>Cq.Θ e 0 λd=>Cq.bind (ud a.v 1) λc=>if(i64.wrap (1+(i64.wrap (Int.tmod a.kind 13))))=1 then(w7 a b d c (decide ((i64.wrap (1+(i64.wrap (Int.tmod a.kind 13))))=1)))else(if(i64.wrap (1+(i64.wrap (Int.tmod a.kind 13))))=2 then(w7 a b d c (decide ((i64.wrap (1+(i64.wrap (Int.tmod a.kind 13))))=2)))else(w7 a b d c (decide ((i64.wrap (1+(i64.wrap (Int.tmod a.kind 13))))=10))))
def ZpN(a:(Ŀ Zh)):Cq (Ŀ Zh):=
 Cq.ret a
def Qf(d:Zq):((Ŀ Zh)×Int)->Cq (Ŀ Zh):=
 Cq.loop λe=>match e with|(a,b)=>if b<(d.l.length:Int)then(if b<4 then(Cq.Θ d.l b λf=>Cq.bind (Es f) λc=>Cq.ê ((a++[c]).length<=small) (Cq.ret (.inl ((a++[c]),i64.wrap (b+1)))))else(Cq.ret (.inr a)))else(Cq.ret (.inr a))
def yX(a:Zq):Cq (Ŀ Zh):=
 Cq.next (Qf a ([],0)) λb=>match b with|c=>ZpN c
def KR(d:Zb)(c:Zq):Cq (Zb×Int×Int):=
 if(Int.tmod c.fW 2)=0 then(Cq.bind (Bg c) λe=>Cq.bind (Bf c e) λf=>Cq.bind (xF d e f) λa=>if ¬a.2.2=0 then(Cq.ret (d,a.2.1,a.2.2))else(Cq.ret (a.1,a.2.1,a.2.2)))else(Cq.bind (yX c) λg=>Cq.bind (rp d c.id g c.tried) λb=>if ¬b.2=0 then(Cq.ret (d,0,b.2))else(Cq.ret (b.1,0,b.2)))
def ZtB:Cq (Zd×Bool):=
 Cq.ret ((Zd.mk 0 (Zc.mk 0 [] []) (Ze.mk 0 [] []) 0 0 0 false),false)
def Kh(c:Zb)(d:Int):(Int×Zd)->Cq ((Zd×Bool)⊕Zd):=
 Cq.loop λe=>match e with|(a,b)=>if a<(c.t.length:Int)then(Cq.Θ c.t a λf=>if f.id=d then(Cq.Θ c.t a λg=>Cq.ret (.inr (.inl (g,true))))else(Cq.ret (.inl (i64.wrap (a+1),b))))else(Cq.ret (.inr (.inr b)))
def FW(c:Zb)(a:Int):Cq (Zd×Bool):=
 Cq.next (Kh c a (0,(Zd.mk 0 (Zc.mk 0 [] []) (Ze.mk 0 [] []) 0 0 0 false))) λd=>match d with|.inl b=>Cq.ret b|.inr e=>ZtB
def Ztt:Cq Bool:=
 Cq.ret true
def Zts(b:(Ŀ (Ŀ Za)))(d:Int):Int->Cq (Bool⊕Unit):=
 Cq.loop λe=>match e with|a=>if a<(b.length:Int)then(Cq.Θ b a λf=>Cq.bind (xh f d 64) λc=>if(!c)=true then(Cq.ret (.inr (.inl false)))else(Cq.ret (.inl (i64.wrap (a+1)))))else(Cq.ret (.inr (.inr ())))
def F3(b:(Ŀ (Ŀ Za)))(c:Int):Cq Bool:=
 Cq.next (Zts b c 0) λd=>match d with|.inl a=>Cq.ret a|.inr ()=>Ztt
def FR(a:Int):Cq Bool:=
 if 0<=a then(Cq.ret (decide (a<=1000000)))else(Cq.ret false)
def JS(a:Zl):Cq Bool:=
 Cq.bind (uk a.lo) λb=>match b with|false=>(Cq.ret false)|true=>(Cq.bind (uk a.hi) λc=>match c with|false=>(Cq.ret false)|true=>(Cq.bind (vF a.lo a.hi) λd=>Cq.ret (decide (d<=0))))
def vx(c:Zf):Cq Bool:=
 Cq.bind (ZX 0) λa=>Cq.bind (Bj c a) λb=>Cq.ret b
def ZqT:Cq Bool:=
 Cq.ret true
def ZqU(a:Int):Cq (Int⊕(Bool⊕Unit)):=
 Cq.ret (.inl (i64.wrap (a+1)))
def Qo(b:(Ŀ (Ŀ Zl)))(g:Int)(c:Int):Int->Cq (Bool⊕Unit):=
 Cq.loop λh=>match h with|a=>if a<8 then(Cq.Θ b c λi=>Cq.Θ i a λj=>Cq.bind (JS j) λd=>match d with|false=>(Cq.ret (.inr (.inl false)))|true=>(if g<=a then(Cq.Θ b c λk=>Cq.Θ k a λl=>Cq.bind (vx l.lo) λe=>match e with|false=>(Cq.ret (.inr (.inl false)))|true=>(Cq.Θ b c λm=>Cq.Θ m a λn=>Cq.bind (vx n.hi) λf=>if(!f)=true then(Cq.ret (.inr (.inl false)))else(Cq.ret (.inl (i64.wrap (a+1))))))else(Cq.ret (.inl (i64.wrap (a+1))))))else(Cq.ret (.inr (.inr ())))
def ZqS(b:(Ŀ (Ŀ Zl)))(d:Int):Int->Cq (Bool⊕Unit):=
 Cq.loop λe=>match e with|a=>if a<(b.length:Int)then(Cq.next (Qo b d a 0) λf=>match f with|.inl c=>Cq.ret (.inr (.inl c))|.inr ()=>ZqU a)else(Cq.ret (.inr (.inr ())))
def FQ(a:(Ŀ (Ŀ Zl)))(c:Int):Cq Bool:=
 if 64<(a.length:Int)then Cq.fail else(Cq.next (ZqS a c 0) λd=>match d with|.inl b=>Cq.ret b|.inr ()=>ZqT)
def ZqW:Cq Bool:=
 Cq.ret true
def ZqV(b:(Ŀ Int)):Int->Cq (Bool⊕Unit):=
 Cq.loop λc=>match c with|a=>if a<(b.length:Int)then(Cq.Θ b a λd=>if d<(-1)then(Cq.ret (.inr (.inl false)))else(Cq.Θ b a λe=>if 1<e then Cq.fail else(Cq.ret (.inl (i64.wrap (a+1))))))else(Cq.ret (.inr (.inr ())))
def K0(b:(Ŀ Int)):Cq Bool:=
 Cq.next (ZqV b 0) λc=>match c with|.inl a=>Cq.ret a|.inr ()=>ZqW
def EG(a:Zh)(c:Bool):Cq Bool:=
 if c=true then(if(a.p.length:Int)=0 then(if(a.l.length:Int)=0 then(if(a.o.length:Int)=0 then(if(a.s.length:Int)=0 then(if(a.b.length:Int)=0 then(if a.d=0 then(if a.r=0 then(Cq.bind (FR a.n) λe=>Cq.ret e)else(Cq.ret false))else(Cq.ret false))else(Cq.ret false))else(Cq.ret false))else(Cq.ret false))else(Cq.ret false))else(Cq.ret false))else(Cq.ret false)
def EH(e:Zc)(a:Zh)(c:Bool)(h:Bool)(f:Bool):Cq Bool:=
 if f=true then(if(a.p.length:Int)=0 then(if(a.l.length:Int)=0 then(if(a.o.length:Int)=0 then(if(a.s.length:Int)=0 then(if(a.b.length:Int)=0 then(Cq.ret c)else(Cq.ret false))else(Cq.ret false))else(Cq.ret false))else(Cq.ret false))else(Cq.ret false))else(if a.kind=4 then(if(a.p.length:Int)=0 then(if(a.s.length:Int)=0 then(if(a.b.length:Int)=0 then(if c=true then(Cq.bind (y4 a.o) λi=>match i with|false=>(Cq.ret false)|true=>(if(a.l.length:Int)<=64 then(Cq.bind (F3 a.l e.n) λj=>Cq.ret j)else(Cq.ret false)))else(Cq.ret false))else(Cq.ret false))else(Cq.ret false))else(Cq.ret false))else(if a.kind=5 then(if(a.p.length:Int)=0 then(if(a.l.length:Int)=0 then(if(a.o.length:Int)=0 then(if(a.s.length:Int)=0 then(if(a.b.length:Int)=0 then(if a.r=0 then(if(-1)<=a.d then(if a.d<=e.n then(Cq.bind (FR a.n) λk=>Cq.ret k)else(Cq.ret false))else(Cq.ret false))else(Cq.ret false))else(Cq.ret false))else(Cq.ret false))else(Cq.ret false))else(Cq.ret false))else(Cq.ret false))else(if a.kind=6 then(if(a.p.length:Int)=0 then(if(a.l.length:Int)=0 then(if(a.o.length:Int)=0 then(if(a.s.length:Int)=0 then(if(a.b.length:Int)=0 then(Cq.bind (FR a.n) λm=>match m with|false=>(Cq.ret false)|true=>(if 0<=a.r then(if a.r<=a.d then(Cq.ret (decide (a.d<=a.n)))else(Cq.ret false))else(Cq.ret false)))else(Cq.ret false))else(Cq.ret false))else(Cq.ret false))else(Cq.ret false))else(Cq.ret false))else(if a.kind=7 then(if(a.p.length:Int)=0 then(if(a.l.length:Int)=0 then(if(a.o.length:Int)=0 then(if(a.s.length:Int)=0 then(if c=true then(Cq.bind (FQ a.b e.n) λq=>Cq.ret q)else(Cq.ret false))else(Cq.ret false))else(Cq.ret false))else(Cq.ret false))else(Cq.ret false))else(if a.kind=8 then(if h=true then(if(a.l.length:Int)=0 then(if(a.o.length:Int)=0 then(if c=true then(Cq.bind (FQ a.b e.n) λt=>match t with|false=>(Cq.ret false)|true=>(if(a.s.length:Int)=(a.b.length:Int)then(Cq.bind (K0 a.s) λu=>Cq.ret u)else(Cq.ret false)))else(Cq.ret false))else(Cq.ret false))else(Cq.ret false))else(Cq.ret false))else(if a.kind=11 then(if(a.p.length:Int)=0 then(if(a.o.length:Int)=0 then(if(a.s.length:Int)=0 then(if(a.b.length:Int)=0 then(if c=true then(if(a.l.length:Int)<=64 then(Cq.bind (F3 a.l e.n) λg=>Cq.ret g)else(Cq.ret false))else(Cq.ret false))else(Cq.ret false))else(Cq.ret false))else(Cq.ret false))else(Cq.ret false))else(if a.kind=12 then(EG a (decide (a.kind=12)))else(EG a (decide (a.kind=13))))))))))
def AI(d:Zc)(a:Zh)(c:Bool)(e:Bool)(f:Bool):Cq Bool:=
 if f=true then(if e=true then(if(a.l.length:Int)=0 then(if(a.o.length:Int)=0 then(if(a.s.length:Int)=0 then(if(a.b.length:Int)=0 then(Cq.ret c)else(Cq.ret false))else(Cq.ret false))else(Cq.ret false))else(Cq.ret false))else(Cq.ret false))else(if a.kind=3 then(EH d a c e (decide (a.kind=3)))else(EH d a c e (decide (a.kind=9))))
def wY(b:Zc)(a:Zh)(c:Bool):Cq Bool:=
 Cq.bind (xh a.p b.n 12) λd=>if a.kind=1 then(AI b a c d (decide (a.kind=1)))else(if a.kind=2 then(AI b a c d (decide (a.kind=2)))else(AI b a c d (decide (a.kind=10))))
def FP(b:Zc)(a:Zh):Cq Bool:=
 Cq.bind (A7 b) λc=>if(!c)=true then Cq.fail else(if a.n=0 then(if a.d=0 then(wY b a (decide (a.r=0)))else(wY b a false))else(wY b a false))
def Qc(a:Zh)(c:Bool)(b:Bool):Cq (Int×Int):=
 if b=true then(Cq.ret (0,0))else(if c=true then(if a.kind=13 then(Cq.ret (a.n,(-1)))else(Cq.ret (0,(-1))))else(Cq.ret (0,(-1))))
def Ep(a:Zh)(c:Bool)(d:Bool):Cq (Int×Int):=
 if d=true then(Cq.ret ((a.b.length:Int),(a.b.length:Int)))else(if c=true then(Qc a c (decide (a.kind=9)))else(Qc a c false))
def JV(a:Zh)(b:Bool)(c:Bool):Cq (Int×Int):=
 if c=true then(Cq.ret (a.r,a.r))else(if b=true then(if a.kind=7 then(Ep a b true)else(Ep a b (decide (a.kind=8))))else(Ep a b false))
def Er(a:Zh)(b:Bool)(c:Bool):Cq (Int×Int):=
 if c=true then(Cq.ret (0,a.n))else(if b=true then(JV a b (decide (a.kind=6)))else(JV a b false))
def JW(a:Zh)(d:Bool)(b:Bool)(c:Bool):Cq (Int×Int):=
 if c=true then(Cq.ret (a.n,a.n))else(if d=true then(Er a b (decide (a.kind=12)))else(if b=true then(Er a b (decide (a.kind=12)))else(Er a b false)))
def yI(a:Zh)(b:Bool)(c:Bool):Cq (Int×Int):=
 if b=true then(JW a b c (decide (a.kind=6)))else(JW a b c false)
def Kw(a:Ze)(b:Zh):Cq (Int×Int):=
 if a.kind=8 then(yI b (decide (a.kind=5)) true)else(yI b (decide (a.kind=5)) (decide (a.kind=6)))
def Zs9:Cq Bool:=
 Cq.ret true
def Zs8(b:(Ŀ (Fin 8->Int)))(c:(Ŀ (Fin 8->Int))):Int->Cq (Bool⊕Unit):=
 Cq.loop λd=>match d with|a=>if a<(b.length:Int)then(Cq.Θ b a λe=>Cq.Θ c a λf=>if ¬e=f then(Cq.ret (.inr (.inl false)))else(Cq.ret (.inl (i64.wrap (a+1)))))else(Cq.ret (.inr (.inr ())))
def FZ(a:(Ŀ (Fin 8->Int)))(b:(Ŀ (Fin 8->Int))):Cq Bool:=
 if ¬(a.length:Int)=(b.length:Int)then(Cq.ret false)else(Cq.next (Zs8 a b 0) λd=>match d with|.inl c=>Cq.ret c|.inr ()=>Zs9)
def Kf(d:Zc)(b:Ze)(a:Zh):Cq Bool:=
 Cq.bind (ub b.p a.p) λc=>if b.kind=1 then(if a.kind=1 then(Cq.ret c)else(if a.kind=2 then(Cq.ret c)else(Cq.ret false)))else(if b.kind=2 then(if a.kind=3 then(Cq.ret true)else(if(d.ε.length:Int)=0 then(if a.kind=2 then(Cq.bind (ZX 1) λe=>Cq.bind (EE e) λf=>Cq.bind (ub a.p f) λg=>Cq.ret g)else(Cq.ret false))else(Cq.ret false)))else(if b.kind=3 then(if a.kind=4 then(Cq.bind (FZ b.o a.o) λh=>Cq.ret h)else(Cq.ret false))else(if b.kind=4 then(Cq.ret (decide (a.kind=5)))else(if b.kind=5 then(Cq.ret (decide (a.kind=6)))else(if b.kind=6 then(Cq.ret (decide (a.kind=7)))else(if b.kind=7 then(if a.kind=8 then(Cq.ret c)else(Cq.ret false))else(if b.kind=8 then(if a.kind=9 then(Cq.ret true)else(if a.kind=6 then(Cq.ret true)else(if a.kind=13 then(Cq.ret (decide (1<=a.n)))else(Cq.ret false))))else(if b.kind=9 then(if a.kind=10 then(Cq.ret c)else(Cq.ret false))else(if b.kind=10 then(Cq.ret (decide (a.kind=11)))else(Cq.ret false))))))))))
def Ew(b:Int×Int)(a:Zd):Cq Zd:=
 if 0<=b.2 then(if a.high<0 then(Cq.ret (Zd.mk a.id a.k a.q a.ο (if a.low<b.1 then b.1 else a.low) b.2 a.done))else(if b.2<a.high then(Cq.ret (Zd.mk a.id a.k a.q a.ο (if a.low<b.1 then b.1 else a.low) b.2 a.done))else(Cq.ret (Zd.mk a.id a.k a.q a.ο (if a.low<b.1 then b.1 else a.low) a.high a.done))))else(Cq.ret (Zd.mk a.id a.k a.q a.ο (if a.low<b.1 then b.1 else a.low) a.high a.done))
def Kx(a:Zd)(c:Zh):Cq Zd:=
 Cq.bind (Kw a.q c) λb=>if a.done=true then(Ew b (Zd.mk a.id a.k a.q a.ο a.low a.high true))else(Cq.bind (Kf a.k a.q c) λd=>Ew b (Zd.mk a.id a.k a.q a.ο a.low a.high d))
def Zrj(b:(Ŀ Zd))(a:Int):Cq (Zb×Int):=
 Cq.ret ((Zb.mk b a),0)
def EK(c:Int)(b:(Ŀ Zd))(a:Int)(d:Zd):Cq ((Int×(Ŀ Zd)×Int)⊕(((Ŀ Zd)×Int))):=
 Cq.ê ((b++[d]).length<=small) (Cq.ret (.inl (i64.wrap (c+1),(b++[d]),a)))
def JN(f:Int)(d:Int)(c:Int)(e:(Ŀ Zd))(b:Int)(a:Zd):Cq ((Int×(Ŀ Zd)×Int)⊕(((Ŀ Zd)×Int))):=
 if a.id=f then(EK c e b (Zd.mk a.id a.k a.q (if a.ο<(i64.wrap (d+1))then(i64.wrap (d+1))else a.ο) a.low a.high a.done))else(EK c e b a)
def Qu(c:(Ŀ Zh))(d:Zd×Bool):(Int×Zd)->Cq Zd:=
 Cq.loop λg=>match g with|(a,b)=>if a<(c.length:Int)then(Cq.bind (yP b.k d.1.k) λe=>if e=true then(Cq.Θ c a λh=>Cq.bind (Kx b h) λf=>Cq.ret (.inl (i64.wrap (a+1),f)))else(Cq.ret (.inr b)))else(Cq.ret (.inr b))
def Zrh(c:Zb)(e:Int)(f:(Ŀ Zh))(g:Int)(h:Zd×Bool):(Int×(Ŀ Zd)×Int)->Cq (((Ŀ Zd)×Int)):=
 Cq.loop λj=>match j with|(b,d,a)=>if b<(c.t.length:Int)then(Cq.Θ c.t b λk=>Cq.next (Qu f h (0,k)) λl=>match l with|i=>JN e g b d a i)else(Cq.ret (.inr (d,a)))
def Zrk(b:Zb)(c:Int)(d:(Ŀ Zh))(e:Int)(g:Zd×Bool):Cq (Zb×Int):=
 Cq.next (Zrh b c d e g (0,[],b.next)) λh=>match h with|(f,a)=>Zrj f a
def Zri(b:(Ŀ Zh))(d:Zd×Bool):(Int×Zb)->Cq ((Zb×Int)⊕Zb):=
 Cq.loop λf=>match f with|(a,c)=>if a<(b.length:Int)then(Cq.Θ b a λg=>Cq.bind (FP d.1.k g) λe=>if(!e)=true then(Cq.ret (.inr (.inl ((Zb.mk [] 0),1))))else(Cq.ret (.inl (i64.wrap (a+1),c))))else(Cq.ret (.inr (.inr c)))
def Qv(c:Zb)(d:Int)(a:(Ŀ Zh))(e:Int)(b:Zd×Bool)(f:Zb):Cq (Zb×Int):=
 Cq.next (Zri a b (0,f)) λh=>match h with|.inl g=>Cq.ret g|.inr i=>Zrk c d a e b
def K3(b:Zb)(c:Int)(e:(Ŀ Zh))(a:Int):Cq (Zb×Int):=
 Cq.bind (FW b c) λd=>if(!d.2)=true then(Cq.ret ((Zb.mk [] 0),380))else(if a<0 then(Cq.ret ((Zb.mk [] 0),1))else(if 12<a then(Cq.ret ((Zb.mk [] 0),1))else(Qv b c e a d (Zb.mk [] 0))))
def FV(f:Zb)(c:Zq):Cq (Zb×Int×Int):=
 if(Int.tmod c.fW 2)=0 then(Cq.bind (Bg c) λg=>Cq.bind (Bf c g) λh=>Cq.bind (A9 5 f g h) λa=>if ¬a.e=0 then(Cq.ret (f,0,a.e))else(Cq.ret (a.b,a.id,0)))else(Cq.bind (yX c) λi=>Cq.bind (K3 f c.id i c.tried) λd=>if ¬d.2=0 then(Cq.ret (f,0,d.2))else(Cq.ret (d.1,0,0)))
def Zrm(a:(Ŀ Ze)):Cq (Ŀ Ze):=
 Cq.ret a
def Zrl(e:Zd)(b:(Ŀ Ze)):((Ŀ Ze)×Int)->Cq (Ŀ Ze):=
 Cq.loop λf=>match f with|(a,d)=>if d<(b.length:Int)then(Cq.Θ b d λg=>Cq.bind (Ba e.k g) λc=>Cq.ê ((a++[c.q]).length<=small) (Cq.ret (.inl ((a++[c.q]),i64.wrap (d+1)))))else(Cq.ret (.inr a))
def SG(b:Zd):Cq (Ŀ Ze):=
 Cq.bind (Ft b.q) λc=>Cq.next (Zrl b c ([],0)) λd=>match d with|a=>Zrm a
def ZtE:Cq Bool:=
 Cq.ret true
def ZtD(d:Zb)(e:Zd)(a:(Ŀ Ze)):Int->Cq (Bool⊕Unit):=
 Cq.loop λf=>match f with|c=>if c<(a.length:Int)then(Cq.Θ a c λg=>Cq.bind (GG d e.k g) λb=>if b<0 then(Cq.ret (.inr (.inl false)))else(Cq.Θ d.t b λh=>if(!h.done)=true then(Cq.ret (.inr (.inl false)))else(Cq.ret (.inl (i64.wrap (c+1))))))else(Cq.ret (.inr (.inr ())))
def ZtF(d:Zb)(a:Zd):Cq Bool:=
 Cq.bind (SG a) λb=>Cq.next (ZtD d a b 0) λe=>match e with|.inl c=>Cq.ret c|.inr ()=>ZtE
def Zyh(b:Zb)(a:Zd):Cq Bool:=
 if a.done=true then(Cq.ret false)else(if 12<a.ο then(Cq.ret false)else(ZtF b a))
def Zrp(a:(Ŀ Int)):Cq (Ŀ Int):=
 Cq.ret a
def Zrq(b:Int)(a:(Ŀ Int)):Cq (((Ŀ Int)×Int)⊕(Ŀ Int)):=
 Cq.ret (.inl (a,i64.wrap (b+1)))
def Qw(e:Zb)(a:(Ŀ Int))(c:Int)(b:Bool):Cq (((Ŀ Int)×Int)⊕(Ŀ Int)):=
 if b=true then(Cq.Θ e.t c λd=>Cq.ê ((a++[d.id]).length<=small) (Cq.ret (.inl ((a++[d.id]),i64.wrap (c+1)))))else(Cq.ret (.inl (a,i64.wrap (c+1))))
def Zro(b:Zb)(e:Int):((Ŀ Int)×Int)->Cq (Ŀ Int):=
 Cq.loop λf=>match f with|(a,c)=>if c<(b.t.length:Int)then(Cq.Θ b.t c λg=>if g.ο=e then(Cq.Θ b.t c λh=>Cq.bind (Zyh b h) λd=>Qw b a c d)else(Qw b a c false))else(Cq.ret (.inr a))
def Zrn(d:Zb):((Ŀ Int)×Int)->Cq (Ŀ Int):=
 Cq.loop λe=>match e with|(a,b)=>if b<=12 then(Cq.next (Zro d b (a,0)) λf=>match f with|c=>Zrq b c)else(Cq.ret (.inr a))
def Zwo(b:Zb):Cq (Ŀ Int):=
 Cq.next (Zrn b ([],0)) λc=>match c with|a=>Zrp a
def Zoq:Cq Bool:=
 Cq.ret true
def Zop(b:(Ŀ Int))(c:(Ŀ Int)):Int->Cq (Bool⊕Unit):=
 Cq.loop λd=>match d with|a=>if a<(b.length:Int)then(Cq.Θ b a λe=>Cq.Θ c a λf=>if ¬e=f then(Cq.ret (.inr (.inl false)))else(Cq.ret (.inl (i64.wrap (a+1)))))else(Cq.ret (.inr (.inr ())))
def ZtU(a:(Ŀ Int))(b:(Ŀ Int)):Cq Bool:=
 if ¬(a.length:Int)=(b.length:Int)then(Cq.ret false)else(Cq.next (Zop a b 0) λd=>match d with|.inl c=>Cq.ret c|.inr ()=>Zoq)
def Zec(a:Int)(d:Bool)(e:Zb)(f:Zb):Cq Bool:=
 Cq.bind (xz e a) λb=>Cq.bind (FW f a) λc=>if b.2=c.2 then(Cq.bind (EN b.1 c.1) λg=>match g with|false=>(Cq.ret false)|true=>(Cq.ret d))else(Cq.ret false)
def Zed(d:(Ŀ Zq))(c:Int)(j:Zb)(k:Zb):Cq ((Int×Zb×Zb)⊕(Bool⊕(Zb×Zb))):=
 Cq.Θ d c λl=>Cq.bind (KR j l) λb=>Cq.Θ d c λm=>Cq.bind (FV k m) λa=>if ¬b.2.1=a.2.1 then(Cq.ret (.inr (.inl false)))else(if ¬b.2.2=a.2.2 then(Cq.ret (.inr (.inl false)))else(Cq.bind (xB b.1 a.1) λe=>match e with|false=>(Cq.ret (.inr (.inl false)))|true=>(Cq.bind (AO b.1) λf=>match f with|false=>(Cq.ret (.inr (.inl false)))|true=>(Cq.bind (Ff b.1) λg=>Cq.bind (Zwo a.1) λh=>Cq.bind (ZtU g h) λi=>if(!i)=true then(Cq.ret (.inr (.inl false)))else(Cq.ret (.inl (i64.wrap (c+1),b.1,a.1)))))))
def Zeb(b:(Ŀ Zq)):(Int×Zb×Zb)->Cq (Bool⊕(Zb×Zb)):=
 Cq.loop λe=>match e with|(a,c,d)=>if a<(b.length:Int)then(if a<6 then(Zed b a c d)else(Cq.ret (.inr (.inr (c,d)))))else(Cq.ret (.inr (.inr (c,d))))
def ZpW(b:(Ŀ Zq))(c:Int):Cq Bool:=
 Cq.bind (Ej) λa=>if(!a)=true then(Cq.ret false)else(Cq.bind (Bo) λd=>Cq.bind (Mb) λe=>Cq.next (Zeb b (0,d,e)) λi=>match i with|.inl f=>Cq.ret f|.inr (g,h)=>Zec c a g h)
def ZtC(a:Zb):Cq Zb:=
 Cq.ret a
def Rt(c:(Ŀ Zq)):(Int×Zb)->Cq Zb:=
 Cq.loop λe=>match e with|(b,a)=>if b<(c.length:Int)then(if b<6 then(Cq.Θ c b λf=>Cq.bind (FV a f) λd=>Cq.ret (.inl (i64.wrap (b+1),d.1)))else(Cq.ret (.inr a)))else(Cq.ret (.inr a))
def LI(c:(Ŀ Zq)):Cq Zb:=
 Cq.bind (Mb) λa=>Cq.next (Rt c (0,a)) λd=>match d with|b=>ZtC b
def Zjd(a:Bool):Cq Bool:=
 Cq.ret a
def Zje(a:Int):Cq (Int⊕(Bool⊕Unit)):=
 Cq.ret (.inl (i64.wrap (a+1)))
def Pj(d:(Ŀ Zh))(e:Zb×Int)(f:Zd×Bool)(b:Int):Int->Cq (Bool⊕Unit):=
 Cq.loop λi=>match i with|a=>if a<(d.length:Int)then(Cq.Θ e.1.t b λc=>Cq.bind (yP c.k f.1.k) λg=>match g with|false=>(Cq.ret (.inl (i64.wrap (a+1))))|true=>(Cq.Θ d a λj=>Cq.bind (Et c.k c.q j) λh=>match h with|false=>(Cq.ret (.inl (i64.wrap (a+1))))|true=>(if(!c.done)=true then(Cq.ret (.inr (.inl false)))else(Cq.ret (.inl (i64.wrap (a+1)))))))else(Cq.ret (.inr (.inr ())))
def Ph(c:(Ŀ Zh))(b:Zb×Int)(d:Zd×Bool):Int->Cq (Bool⊕Unit):=
 Cq.loop λf=>match f with|a=>if a<(b.1.t.length:Int)then(Cq.next (Pj c b d a 0) λg=>match g with|.inl e=>Cq.ret (.inr (.inl e))|.inr ()=>Zje a)else(Cq.ret (.inr (.inr ())))
def Ji(a:Zq)(b:Bool)(c:Zb)(d:(Ŀ Zh))(e:Zb×Int):Cq Bool:=
 Cq.bind (xz c a.id) λf=>Cq.next (Ph d e f 0) λh=>match h with|.inl g=>Cq.ret g|.inr ()=>Zjd b
def D3(c:Zq)(e:Bool)(f:Zb)(g:(Ŀ Zh))(a:Zb×Int)(b:Zb×Int)(h:Zb):Cq Bool:=
 if ¬b.2=0 then(Cq.ret false)else(Cq.bind (xB a.1 h) λi=>match i with|false=>(Cq.ret false)|true=>(Cq.bind (xB a.1 b.1) λd=>if(!d)=true then(Cq.ret false)else(Ji c e f g a)))
def Zjf(a:Zq)(d:Bool)(b:Zb)(c:(Ŀ Zh))(e:Zb×Int)(h:Zb)(i:Zb):Cq Bool:=
 Cq.bind (rp i a.id [] a.tried) λf=>if(c.length:Int)=0 then(Cq.bind (rp b a.id [] a.tried) λg=>D3 a d b c e f g.1)else(D3 a d b c e f h)
def Pk(c:Zq)(b:(Ŀ Zh)):(Int×Zb×Zb)->Cq (Bool⊕(Zb×Zb)):=
 Cq.loop λh=>match h with|(a,f,g)=>if a<(b.length:Int)then(Cq.ê (0<=a/\a<=(i64.wrap (a+1))/\(i64.wrap (a+1))<=(b.length:Int)) (Cq.bind (rp f c.id ((b.take (i64.wrap (a+1)).toNat).drop a.toNat) c.tried) λd=>Cq.ê (0<=i64.wrap ((i64.wrap ((b.length:Int)-1))-a)/\(i64.wrap ((i64.wrap ((b.length:Int)-1))-a))<=(i64.wrap ((b.length:Int)-a))/\(i64.wrap ((b.length:Int)-a))<=(b.length:Int)) (Cq.bind (rp g c.id ((b.take (i64.wrap ((b.length:Int)-a)).toNat).drop (i64.wrap ((i64.wrap ((b.length:Int)-1))-a)).toNat) 0) λe=>if ¬d.2=0 then(Cq.ret (.inr (.inl false)))else(if ¬e.2=0 then(Cq.ret (.inr (.inl false)))else(Cq.ret (.inl (i64.wrap (a+1),d.1,e.1)))))))else(Cq.ret (.inr (.inr (f,g))))
def JA(f:(Ŀ Zq))(a:Zq):Cq Bool:=
 Cq.bind (Ej) λc=>if(!c)=true then(Cq.ret false)else(Cq.bind (LI f) λb=>Cq.bind (yX a) λd=>Cq.bind (rp b a.id d a.tried) λe=>if ¬e.2=0 then(Cq.ret c)else(Cq.next (Pk a d (0,b,b)) λj=>match j with|.inl g=>Cq.ret g|.inr (h,i)=>Zjf a c b d e h i))
end Go.EL

namespace Go.EL
open Go.IntKind (i8 i16 i32 i64 u8 u16 u32 u64)
open Go
namespace Cq
variable {α β σ ρ:Type}
theorem wp_ret{a:α}{p:α->Prop}:(Cq.ret a).wp p↔p a:=Iff.rfl
theorem Zm{q:Prop}[Decidable q]{c d:Cq α}{p:α->Prop}:(if q then c else d).wp p↔if q then c.wp p else d.wp p:=by split<;>rfl
theorem ZzH{A:σ->Prop}{Φ:ρ->Prop}{s:σ}:Out A Φ (.inl s)↔A s:=Iff.rfl
theorem Α.then{c:Cq α}{a:α}(h:c.Α a){p:α->Prop}(hp:p a):c.wp p:=c.mono (λb e=>by rw[e];exact hp) h
end Cq
theorem wrap64{x:Int}(h:-9223372036854775808<=x/\x<=9223372036854775807):i64.wrap x=x:=IntWalk.i64_in _ h
theorem nc{a:Fin 8->Int}{i:Int}(h:0<=i/\i<8):Ζ a i=a ⟨i.toNat,ŉ⟩:=zv a ŉ
theorem JB(a b:M):(yQ a b).Α (Ú a b):=by
 unfold yQ;by_cases h:a=b
 .rw[ă h];subst h;exact(Bc a).symm
 rw[ā h];have n:∀k:Nat,k<=8->(∀j:Fin 8,j.val<k->a j=b j)->k<8:=λk l g=>by
  rcases ŝ k 8 with q|q
  .exact q
  exact absurd (funext λj=>g j ŉ) h
 refine Cq.LU (I:=λi:Int=>0<=i/\i<8/\∀j:Fin 8,(j.val:Int)<i->a j=b j) (m:=λi=>(8-i).toNat) (λi hi=>?_) 0 ⟨ŉ,ŉ,λj g=>by omega⟩;obtain⟨c,d,g⟩:=hi;refine⟨⟨c,d⟩,⟨c,d⟩,?_⟩;rw[Cq.Zm,nc ⟨c,d⟩,nc ⟨c,d⟩];split
 .rename_i e;have km:∀j:Fin 8,(j.val:Int)<i+1->a j=b j:=λj f=>by
   by_cases h2:(j.val:Int)<i
   .exact g j h2
   have:j=⟨i.toNat,ŉ⟩:=abl ab0;rw[this];exact e
  have:=n (i+1).toNat ŉ (λj f=>km j ŉ);rw[Cq.wp_ret,Cq.ZzH,wrap64 ŉ];exact⟨⟨ŉ,ŉ,km⟩,ŉ⟩
 rename_i e;refine⟨⟨c,d⟩,⟨c,d⟩,?_⟩;rw[Cq.Zm,nc ⟨c,d⟩,nc ⟨c,d⟩];have l:i.toNat<8:=ŉ;split
 .rename_i p;exact(Vd a b l (λj f=>g j ŉ) p).symm
 rename_i p;exact(Vc a b l (λj f=>g j ŉ) ŉ).symm
end Go.EL

namespace Go.EL
open Go.IntKind (i8 i16 i32 i64 u8 u16 u32 u64)
open Go
instance MY:DecidableEq Zg:=λ⟨a1,a2⟩ ⟨a,c⟩=>decidable_of_iff (a1=a/\a2=c) ß
instance MZ:DecidableEq Zf:=λ⟨a1,a2⟩ ⟨a,c⟩=>decidable_of_iff (a1=a/\a2=c) ß
def ü(n:Int):Zf:=⟨⟨decide (n<0),if n=0 then[]else[(n.natAbs:Int)]⟩,⟨false,[1]⟩⟩
def á(l h:Int)(p:Int->Bool):Bool:=(List.range (h-l+1).toNat).all λk=>p (l+(k:Int))
theorem Zr{l h:Int}{p:Int->Bool}(a:á l h p=true){x:Int}(c:l<=x)(h2:x<=h):p x=true:=by have:=Ć.1 a (x-l).toNat (ĺ.2 ŉ);rwa [show l+((x-l).toNat:Int)=x by omega]at this
def runs{α:Type}[DecidableEq α](n:Nat)(c:Cq α)(a:α):Bool:=decide (c.ev n=some a)
theorem Zs{α:Type}[DecidableEq α]{n:Nat}{c:Cq α}{a:α}(h:runs n c a=true):c.Α a:=Cq.Α.mn n (ĥ h)
theorem Zx5:(á (-8) 8 λn=>runs 20 (ZX n) (ü n))=true:=by decide +kernel
theorem ZzK:(á (-12) 12 λa=>á (-3) 3 λb=>runs 30 (vE (ü a) (ü b)) (ü (a+b)))=true:=by decide +kernel
theorem ZAt:(á (-3) 3 λa=>runs 30 (rl (ü a) (ü 1)) (ü a))=true:=by decide +kernel
theorem F6:(á (-15) 15 λa=>runs 30 (oI (ü a)) (if a<0 then -1 else if a=0 then 0 else 1))=true:=by decide +kernel
theorem Zx1:(á (-15) 15 λa=>a == 0 || runs 30 (uk (ü a)) true)=true:=by decide +kernel
theorem Tb:(á (-12) 12 λa=>a == 0 || runs 30 (ZH (ü a)) (if a<0 then -1 else if a=0 then 0 else 1))=true:=by decide +kernel
theorem Zv9:(á (-12) 12 λa=>a == 0 || runs 30 (ZZ (ü a)) true)=true:=by decide +kernel
theorem Zy6:(á (-12) 12 λa=>a == 0 || á (-12) 12 λb=>b == 0 || runs 30 (vj (ü a) (ü b)) (if a<b then -1 else if a=b then 0 else 1))=true:=by decide +kernel
end Go.EL

namespace Go.EL
open Go.IntKind (i8 i16 i32 i64 u8 u16 u32 u64)
open Go Go.RowKit
def lV(k:Nat)(f a:M):M:=λi=>if i.val<k then f i else a i
theorem Ue{k:Nat}(f a:M)(h:k<8):ζ (lV k f a) k (f ⟨k,h⟩)=lV (k+1) f a:=by
 funext i;unfold ζ lV;by_cases e:i.val=k
 .have:i=⟨k,h⟩:=abl e;subst this;simp
 have c:(i.val<k+1)=(i.val<k):=by apply propext;omega
 simp[e,c]
theorem V0{k:Nat}(f a:M)(h:k<8):lV k f a ⟨k,h⟩=a ⟨k,h⟩:=by unfold lV;simp
theorem Uf(f a:M):lV 0 f a=a:=by funext i;simp[lV]
theorem UK{k:Nat}(f a:M)(h:¬k<8):lV k f a=f:=by funext i;have:i.val<k:=ŉ;simp[lV,this]
theorem Zyo{p:Fin 8->Prop}{k:Nat}(a:∀i:Fin 8,i.val<k->p i)(h:k<8)(c:p ⟨k,h⟩):∀i:Fin 8,i.val<k+1->p i:=λi hi=>by
 by_cases e:i.val=k
 .have:i=⟨k,h⟩:=abl e;rw[this];exact c
 exact a i ŉ
def Ok(a:M):Prop:=∀i,0<=a i/\a i<=65535
def p2:Nat->Int
 |0=>1
 |k+1=>2*p2 k
theorem ZBH:∀{k:Nat},k<=8->1<=p2 k/\p2 k<=256
 |0,_=>by decide
 |1,_=>by decide
 |2,_=>by decide
 |3,_=>by decide
 |4,_=>by decide
 |5,_=>by decide
 |6,_=>by decide
 |7,_=>by decide
 |8,_=>by decide
 |k+9,h=>by omega
theorem MA{k:Nat}(h:k<8):1<=p2 k/\p2 k<=128:=by have:=ZBH (k:=k+1) ŉ;simp only[p2]at this;omega
theorem ZyQ{k:Nat}(h:k<8):u8.wrap (1*2 ^ (min (k:Int).toNat u8.bits))=p2 k:=by
 match k,h with
 |0,_=>decide|1,_=>decide|2,_=>decide|3,_=>decide|4,_=>decide|5,_=>decide|6,_=>decide|7,_=>decide
theorem ZAz{k:Nat}(h:k<8):u8.wrap (p2 k)=p2 k:=by
 match k,h with
 |0,_=>decide|1,_=>decide|2,_=>decide|3,_=>decide|4,_=>decide|5,_=>decide|6,_=>decide|7,_=>decide
def Ù(a:M):Nat->Int
 |0=>0
 |k+1=>Ù a k+(if h:k<8 then(if 0<a ⟨k,h⟩then p2 k else 0)else 0)
def jJ(a:M):Int:=Ù a 8
theorem A4(a:M):∀k:Nat,0<=Ù a k/\Ù a k<p2 k
 |0=>by simp[Ù,p2]
 |k+1=>by
  have c:=A4 a k;simp only[Ù,p2];split
  .split<;>omega
  omega
theorem R5(a:M){k:Nat}(h:k<8)(c:0<a ⟨k,h⟩):Ù a k+p2 k=Ù a (k+1):=by simp[Ù,h,c]
theorem Tf(a:M){k:Nat}(h:k<8)(c:¬0<a ⟨k,h⟩):Ù a k=Ù a (k+1):=by simp[Ù,h,c]
theorem Zxz:∀k:Fin 8,∀s:Fin 128,s.val<2 ^ k.val->u8.wrap (BitVec.ofInt u8.bits (s.val:Int) ||| BitVec.ofInt u8.bits (p2 k.val)).toNat=s.val+p2 k.val:=by decide +kernel
theorem zy:∀k:Nat,p2 k=((2 ^ k:Nat):Int)
 |0=>rfl
 |k+1=>by rw[p2,zy k,Nat.pow_succ];omega
theorem ZBG{k:Nat}(h:k<8){s:Int}(a:0<=s)(c:s<p2 k):u8.wrap (BitVec.ofInt u8.bits s ||| BitVec.ofInt u8.bits (p2 k)).toNat=s+p2 k:=by obtain⟨n,rfl⟩:=aaw a;have h2:=MA h;rw[zy]at c;exact Zxz ⟨k,h⟩ ⟨n,by rw[zy]at h2;omega⟩ ab0
theorem ZAX{k:Nat}(h:k<8){s:Int}(a:0<=s)(c:s<p2 k):u8.wrap (s+p2 k)=s+p2 k:=by have h2:=MA h;simp only[IntKind.wrap,IntKind.bits,IntKind.signed,ŵ,ś,aaR];omega
theorem Cq.Zn{σ ρ:Type}{step:σ->Cq (σ⊕ρ)}{Φ:ρ->Prop}(n:Nat)(I:Nat->σ->Prop)(h:∀k s,k<n->I k s->(step s).wp (Out (λs'=>I (k+1) s') Φ))(a:∀s,I n s->(step s).wp (Out (λ_=>False) Φ)):
  ∀{s:σ},I 0 s->(Cq.loop step s).wp Φ:=by
 have key:∀d k s,k+d=n->I k s->(Cq.loop step s).wp Φ:=by
  intro d;induction d with
  |zero=>intro k s e c;rw[ew]at e;subst e;exact Cq.Zt ((step s).mono (Out.mono (λ_ h=>h.elim) (λ_ x=>x)) (a s c))
  |succ d f=>intro k s e c;exact Cq.Zt ((step s).mono (Out.mono (λs' h'=>f (k+1) s' ŉ h') (λ_ x=>x)) (h k s ŉ c))
 exact λ{s} c=>key n 0 s ŉ c
theorem ψ{k:Nat}(h:k<1000000000000):i64.wrap ((k:Int)+1)=((k+1:Nat):Int):=by rw[wrap64 ŉ];simp
theorem Λ{α:Type}{l:Ŀ α}{k:Nat}(h:k<l.length):(0:Int)<=(k:Int)/\l[(k:Int).toNat]?=some l[k]:=⟨ŉ,by simp[h]⟩
theorem Ó{a:M}{k:Nat}(h:k<8):Ζ a (k:Int)=a ⟨k,h⟩:=by rw[nc ŉ];rfl
theorem ZtM(m:M):(JC m).Α (jJ m):=by
 show(Cq.loop _ _).wp _;refine Cq.Zn 8 (λk s=>s=(Ù m k,(k:Int))) (λk s a c=>?_) (λs c=>?_) rfl
 .subst c;refine Cq.wp.yes (p:=(k:Int)<8) ŉ ?_;refine⟨ŉ,?_⟩;rw[Cq.Zm,Ó a];have d:=A4 m k;split
  .rename_i h;refine⟨ŉ,?_⟩;show _=_;rw[ψ ŉ,ZyQ a,ZBG a d.1 d.2,R5 m a h]
  rename_i h;show _=_;rw[ψ ŉ,Tf m a h]
 subst c;refine Cq.wp.no (p:=((8:Nat):Int)<8) ŉ ?_;rfl
theorem AE(a b:M):(xK a b).Α (Ú a b):=by
 refine Cq.Zn 8 (λk s=>s=(k:Int)/\∀i:Fin 8,i.val<k->a i=b i) (λk s c d=>?_) (λs d=>?_) ⟨rfl,λi hi=>by omega⟩
 .obtain⟨rfl,hi⟩:=d;rw[Cq.Zm,ă ŉ];refine⟨ŉ,ŉ,?_⟩;rw[Cq.Zm,Ó c,Ó c];split
  .rename_i h;show _=_;exact(Vd a b c hi h).symm
  rename_i h;refine⟨ŉ,ŉ,?_⟩;rw[Cq.Zm];split
  .rename_i h2;show _=_;exact(Vc a b c hi h2).symm
  exact⟨ψ ŉ,Zyo hi c ŉ⟩
 obtain⟨rfl,hi⟩:=d;rw[Cq.Zm,ā ŉ];show _=_;exact(Vb a b (λi=>hi i i.isLt)).symm
theorem Zs5{i:Nat}(hi:i<8):(Mg (i:Int)).Α (p2 i):=by
 refine Cq.Zn i (λk s=>s=(p2 k,(k:Int))) (λk s c a=>?_) (λs a=>?_) rfl
 .subst a;show(if(k:Int)<(i:Int)then _ else _:Cq _).wp _;have:=MA (k:=k) ŉ;rw[Cq.Zm,ă ŉ];show _=_;rw[ψ ŉ,wrap64 ŉ];rfl
 subst a;refine Cq.wp.no (p:=(i:Int)<(i:Int)) ŉ ?_;exact ZAz hi
theorem ZmL(m:M):(Kc m).Α (jJ m):=by
 refine Cq.Zn 8 (λk s=>s=(Ù m k,(k:Int))) (λk s a c=>?_) (λs c=>?_) rfl
 .subst c;have d:=A4 m k;refine Cq.wp.yes (p:=(k:Int)<8) ŉ ?_;refine⟨ŉ,?_⟩;rw[Cq.Zm,Ó a];split
  .rename_i hp;refine⟨_,Zs5 a,?_⟩;show _=_;rw[ψ ŉ,ZAX a d.1 d.2,R5 m a hp]
  rename_i hp;show _=_;rw[ψ ŉ,Tf m a hp]
 subst c;refine Cq.wp.no (p:=((8:Nat):Int)<8) ŉ ?_;rfl
theorem Qa{m:M}(h:Ok m):(FM m).Α true:=by
 refine Cq.Zn 8 (λk s=>s=(k:Int)) (λk s c a=>?_) (λs a=>?_) rfl
 .subst a;have:=h ⟨k,c⟩;rw[Cq.Zm,ă ŉ];refine⟨ŉ,?_⟩;rw[Cq.Zm,Ó c,ā ŉ];refine⟨ŉ,?_⟩;rw[Cq.Zm,ā ŉ];exact ψ ŉ
 subst a;rw[Cq.Zm,ā ŉ];rfl
theorem SN{m:M}(h:Ok m):(Ek m).Α true:=by
 refine Cq.Zn 8 (λk s=>s=(k:Int)) (λk s c a=>?_) (λs a=>?_) rfl
 .subst a;have:=h ⟨k,c⟩;refine Cq.wp.yes (p:=(k:Int)<8) ŉ ?_;refine⟨ŉ,?_⟩;rw[Cq.Zm,Ó c,ā ŉ,Cq.Zm,ā ŉ];exact ψ ŉ
 subst a;refine Cq.wp.no (p:=((8:Nat):Int)<8) ŉ ?_;rfl
def fG(m:M):Nat->Int
 |0=>0
 |k+1=>fG m k+(if h:k<8 then m ⟨k,h⟩else 0)
def fK(m:M):Int:=fG m 8
theorem Ga{m:M}(h:Ok m):∀k:Nat,0<=fG m k/\fG m k<=65535*k
 |0=>by simp[fG]
 |k+1=>by
  have c:=Ga h k;simp only[fG];split
  .rename_i a;have:=h ⟨k,a⟩;omega
  omega
theorem ZnR{m:M}(h:Ok m):(Kt m).Α (fK m):=by
 refine Cq.Zn 8 (λk s=>s=(fG m k,(k:Int))) (λk s a c=>?_) (λs c=>?_) rfl
 .subst c;have d:=Ga h k;have h2:=h ⟨k,a⟩;refine Cq.wp.yes (p:=(k:Int)<8) ŉ ?_;refine⟨ŉ,?_⟩;show _=_;rw[ψ ŉ,Ó a,wrap64 ŉ,fG,Ŷ a]
 subst c;refine Cq.wp.no (p:=((8:Nat):Int)<8) ŉ ?_;rfl
theorem Zu7{m:M}(h:Ok m):(Jx m).Α (fK m):=by
 refine Cq.Zn 8 (λk s=>s=(fG m k,(k:Int))) (λk s a c=>?_) (λs c=>?_) rfl
 .subst c;have d:=Ga h k;have h2:=h ⟨k,a⟩;refine Cq.wp.yes (p:=(k:Int)<8) ŉ ?_;refine⟨ŉ,?_⟩;show _=_;rw[ψ ŉ,Ó a,wrap64 ŉ,fG,Ŷ a]
 subst c;refine Cq.wp.no (p:=((8:Nat):Int)<8) ŉ ?_;rfl
def mulM(a b:M):M:=λi=>a i+b i
theorem Ri{a b:M}(f:Ok a)(g:Ok b)(d:Ok (mulM a b)):(Mh a b).Α (mulM a b,0):=by
 show(Cq.next _ _).wp _;refine Cq.Zn 8 (λk s=>s=((k:Int),lV k (mulM a b) a)) (λk s c e=>?_) (λs e=>?_) (by rw[Uf];rfl)
 .subst e;have h:=f ⟨k,c⟩;have h2:=g ⟨k,c⟩;rw[Cq.Zm,ă ŉ];refine⟨ŉ,ŉ,ŉ,?_⟩;show _=_;rw[ψ ŉ,Ó c,Ó c,V0,wrap64 ŉ];exact đ (Prod.mk _) (Ue (mulM a b) a c)
 subst e;rw[Cq.Zm,ā ŉ,UK _ _ ŉ];exact⟨true,Qa d,rfl⟩
end Go.EL

namespace Go.EL
open Go.IntKind (i8 i16 i32 i64 u8 u16 u32 u64)
open Go Go.RowKit
theorem ug{c:Zf}(h:fu c=true):∃n:Int,c=ü n/\n≠0/\-12<=n/\n<=12:=by
 obtain⟨⟨e,i⟩,⟨f,dm⟩⟩:=c;unfold fu at h;dsimp only at h;split at h
 .rename_i w d;simp only[Ċ,ő,ę]at h;obtain⟨⟨⟨a,h2⟩,h3⟩,g⟩:=h;subst a h2;cases e with
  |true=>
   refine⟨-w,?_,ŉ,ŉ,ŉ⟩;unfold ü;rw[ā ŉ,Ą ŉ,show((-w).natAbs:Int)=w by omega]
  |false=>
   refine⟨w,?_,ŉ,ŉ,ŉ⟩;unfold ü;rw[ā ŉ,Č ŉ,show((w).natAbs:Int)=w by omega]
 cases h
theorem pH(n:Int):Í (ü n)=n:=by
 unfold Í ü;by_cases h:n<0
 .rw[Ą h,ă rfl,ā ŉ];simp;omega
 rw[Č h];by_cases a:n=0
 .subst a;rfl
 simp[a];omega
theorem ZvH{n:Int}(a:n≠0)(c:-12<=n)(h2:n<=12):fu (ü n)=true:=by unfold fu ü;rw[ā a];simp;omega
def hM(a b:Zf):Int:=if Í a<Í b then -1 else if Í a=Í b then 0 else 1
theorem TR{a b:Zf}(e:fu a=true)(f:fu b=true):(vj a b).Α (hM a b):=by
 obtain⟨m,rfl,g,i,j⟩:=ug e;obtain⟨n,rfl,k,l,p⟩:=ug f;have h:=Zr Zy6 i j;have c:(m == 0)=false:=by simpa using g
 rw[c,Ľ]at h;have h':=Zr h l p;have d:(n == 0)=false:=by simpa using k
 rw[d,Ľ]at h';have:=Zs h';unfold hM;rw[pH,pH];exact this
theorem ZwA{a b:Zf}(c:fu a=true)(d:fu b=true)(h:hM a b=0):a=b:=by
 obtain⟨m,rfl,_⟩:=ug c;obtain⟨n,rfl,_⟩:=ug d;unfold hM at h;rw[pH,pH]at h;split at h
 .omega
 split at h
 .rename_i e;rw[e]
 omega
theorem Zyt(a b:Zf):hM b a = - hM a b:=by unfold hM;split<;>split<;>(try split)<;>omega
theorem ZzN{a b:Zf}:hM a b<=0↔Í a<=Í b:=by unfold hM;split<;>(try split)<;>constructor<;>intro h<;>omega
theorem ZzO{a b:Zf}:hM a b<0↔Í a<Í b:=by unfold hM;split<;>(try split)<;>constructor<;>intro h<;>omega
theorem Zvz{a b c:Zf}(d:hM a b<=0)(h2:hM b c<=0):hM a c<=0/\((hM a b<0\/hM b c<0)->hM a c<0):=by rw[ZzN]at *;simp only[ZzO];omega
theorem F9(s t:Za):fF t s = - fF s t:=by
 unfold fF;by_cases h:s.m=t.m
 .rw[ă h,ă h.symm];exact Zyt s.c t.c
 rw[ā h,ā (λe=>h e.symm)];exact ue _ _
theorem E9(a b c:Za)(g:fF a b<=0)(h2:fF b c<=0):fF a c<=0/\((fF a b<0\/fF b c<0)->fF a c<0):=by
 have j:∀{x y:Za},x.m≠y.m->Ú x.m y.m<=0->Ú x.m y.m<0:=λh h'=>by
  rcases Int.lt_or_eq_of_le h' with h'|h'
  .exact h'
  exact absurd (um h') h
 unfold fF at *;by_cases d:a.m=b.m
 .by_cases f:b.m=c.m
  .rw[ă d]at g⊢;rw[ă f]at h2⊢;rw[ă (d.trans f)];exact Zvz g h2
  rw[ă d]at g⊢;rw[ā f]at h2⊢;rw[ā (λe=>f (d.symm.trans e))];have:=j f h2;rw[d];exact⟨h2,λ_=>this⟩
 by_cases f:b.m=c.m
 .rw[ā d]at g⊢;rw[ă f]at h2⊢;rw[ā (λe=>d (e.trans f.symm))];have:=j d g;rw[<-f];exact⟨g,λ_=>this⟩
 rw[ā d]at g⊢;rw[ā f]at h2⊢;have i:=j d g;have h3:=J0 g h2 (.inl i);have:a.m≠c.m:=λe=>by rw[e,Bc]at h3;omega
 rw[ā this];exact⟨Int.le_of_lt h3,λ_=>h3⟩
theorem ZwC{s t:Za}(a:fu s.c=true)(c:fu t.c=true)(h:fF s t=0):s=t:=by
 unfold fF at h;have key:s.m=t.m/\s.c=t.c:=by
  by_cases e:s.m=t.m
  .rw[ă e]at h;exact⟨e,ZwA a c h⟩
  rw[ā e]at h;exact absurd (um h) e
 cases s;cases t;simp only at key;rw[key.1,key.2]
theorem qN:∀p q:Ŀ Za,ë q p = - ë p q
 |[],[]=>rfl
 |[],_::_=>rfl
 |_::_,[]=>rfl
 |s::p,t::q=>by
  unfold ë;rw[F9 s t,qN p q];by_cases h:fF s t=0
  .rw[ă h,ă ŉ]
  rw[ā h,ā ŉ]
theorem yZ:∀a b c:Ŀ Za,ë a b<=0->ë b c<=0->ë a c<=0/\((ë a b<0\/ë b c<0)->ë a c<0)
 |[],[],[],d,h2=>⟨ĳ,λh=>by rcases h with h|h<;>exact absurd h ĳ⟩
 |[],[],_::_,d,h2=>⟨by simp[ë],λ_=>by simp[ë]⟩
 |[],_::_,[],d,h2=>by simp[ë]at h2
 |[],_::_,_::_,d,h2=>⟨by simp[ë],λ_=>by simp[ë]⟩
 |_::_,[],_,d,h2=>by simp[ë]at d
 |_::_,_::_,[],d,h2=>by simp[ë]at h2
 |s::a,t::b,u::c,d,h2=>by
  have l:=F9 s t;have i:=yZ a b c;have tr:=E9 s t u;have j:=E9 t s u;have k:=E9 s u t;have m:=F9 t u;have n3:=F9 s u;simp only[ë]at *;by_cases g:fF s t=0
  .rw[ă g]at d⊢;by_cases e:fF t u=0
   .rw[ă e]at h2⊢;have h3:fF s u=0:=by
     have f:=(tr ŉ ŉ).1;have n:=(E9 u t s ŉ ŉ).1;omega
    rw[ă h3];exact i d h2
   rw[ā e]at h2⊢;have f:=(tr ŉ h2).2 (.inr ŉ);rw[ā ŉ];exact⟨ŉ,λ_=>f⟩
  rw[ā g]at d⊢;have e:fF t u<=0:=by
   by_cases e:fF t u=0
   .omega
   rw[ā e]at h2;exact h2
  have f:=(tr d e).2 (.inl ŉ);rw[ā ŉ];exact⟨ŉ,λ_=>f⟩
theorem xx(p:Ŀ Za):ë p p=0:=by have:=qN p p;omega
theorem RL{t:Za}{p:Ŀ Za}(h:Ð (t::p)=true):fu t.c=true/\Ð p=true:=by unfold Ð at *;simp only[Ċ,ę,ě,aaP]at h⊢;exact⟨h.2.1,ŉ,h.2.2⟩
theorem Bd:∀{p q:Ŀ Za},Ð p=true->Ð q=true->ë p q=0->p=q
 |[],[],_,_,_=>rfl
 |[],_::_,_,_,h=>by simp[ë]at h
 |_::_,[],_,_,h=>by simp[ë]at h
 |s::p,t::q,hp,a,h=>by
  obtain⟨p1,p2⟩:=RL hp;obtain⟨c,d⟩:=RL a;simp only[ë]at h;by_cases e:fF s t=0
  .rw[ă e]at h;rw[ZwC p1 c e,Bd p2 d h]
  rw[ā e]at h;exact absurd h e
abbrev mP:={ p:Ŀ Za // Ð p=true }
theorem Ov:Go.Sort.SWO (Go.Proofs.ltOf λa b:mP=>ë a.1 b.1) where
 irrefl x:=by show decide (ë x.1 x.1<0)=false;rw[xx];rfl
 trans x y z c h2:=by simp only[Go.Proofs.ltOf,ę]at *;exact(yZ x.1 y.1 z.1 ŉ ŉ).2 (.inl c)
 ntrans x y z c h2:=by simp only[Go.Proofs.ltOf,aav,aaN]at *;have d:=qN x.1 y.1;have e:=qN y.1 z.1;have n3:=qN x.1 z.1;have:=(yZ z.1 y.1 x.1 ŉ ŉ).1;omega
theorem LR(x:Ŀ Za):∀l,(zT x l).Perm (x::l)
 |[]=>x9 _
 |y::l=>by
  unfold zT;split
  .exact ((LR x l).cons y).trans (List.Perm.swap x y l)
  exact x9 _
theorem vt:∀l,(jE l).Perm l
 |[]=>x9 _
 |x::l=>(LR x (jE l)).trans ((vt l).cons x)
theorem RN(x:Ŀ Za):∀l,l.Pairwise (λa b=>ë a b<=0)->(zT x l).Pairwise (λa b=>ë a b<=0)
 |[],_=>Ū _ _
 |y::l,h=>by
  unfold zT;obtain⟨d,h2⟩:=Į.1 h;have n:=qN x y;split
  .refine Į.2 ⟨λz c=>?_,RN x l h2⟩;rcases Ď.1 ((LR x l).mem_iff.1 c)with rfl|c
   .omega
   exact d z c
  refine Į.2 ⟨λz c=>?_,h⟩;rcases Ď.1 c with rfl|c
  .omega
  exact(yZ x y z ŉ (d z c)).1
theorem KB:∀l,(jE l).Pairwise (λa b=>ë a b<=0)
 |[]=>List.Pairwise.nil
 |x::l=>RN x _ (KB l)
theorem Q6:∀{l m:Ŀ (Ŀ Za)},l.Perm m->(∀p∈l,Ð p=true)->l.Pairwise (λa b=>ë a b<=0)->m.Pairwise (λa b=>ë a b<=0)->l=m
 |[],m,h,_,_,_=>(List.Perm.nil_eq h)
 |x::l,[],h,_,_,_=>by have:=h.length_eq;simp at this
 |x::l,y::m,h,d,j,h2=>by
  obtain⟨a1,a2⟩:=Į.1 j;obtain⟨g,i⟩:=Į.1 h2;have e:x=y:=by
   have f:x∈y::m:=h.mem_iff.1 ß;have c:y∈x::l:=h.mem_iff.2 ß;have k:ë x y<=0:=by
    rcases Ď.1 c with rfl|c
    .rw[xx];exact ŋ 0
    exact a1 y c
   have q:ë y x<=0:=by
    rcases Ď.1 f with rfl|f
    .rw[xx];exact ŋ 0
    exact g x f
   have n:=qN x y;exact Bd (d x ß) (d y c) ŉ
  subst e;rw[Q6 (List.Perm.cons_inv h) (λp hp=>d p (by simp[hp])) a2 i]
theorem Zyd{s t:Za}(a:fu s.c=true)(c:fu t.c=true):(Ec s t).Α (fF s t):=by
 unfold Ec fF;by_cases h:s.m=t.m
 .rw[ă h];exact Cq.wp.no (by simpa using h) ⟨_,TR a c,rfl⟩
 rw[ā h];exact Cq.wp.yes h ⟨_,JB _ _,rfl⟩
theorem tH{p:Ŀ Za}(h:Ð p=true){k:Nat}(a:k<p.length):fu p[k].c=true:=by unfold Ð at h;simp only[Ċ]at h;exact Ć.1 h.2 _ (Ă a)
theorem vq{p:Ŀ Za}(h:Ð p=true):p.length<=1000:=by unfold Ð at h;simp only[Ċ,ę]at h;exact h.1
theorem Fy(p q:Ŀ Za){k:Nat}(hp:k<p.length)(a:k<q.length):ë (p.drop k) (q.drop k)=if fF p[k] q[k]=0 then ë (p.drop (k+1)) (q.drop (k+1))else fF p[k] q[k]:=by rw[ĭ hp,ĭ a];rfl
theorem Tm{p q:Ŀ Za}(hp:Ð p=true)(g:Ð q=true):(Em p q).Α (ë p q):=by
 have j:=vq hp;have l:=vq g;refine⟨ë p q,?_,rfl⟩;unfold ZB;refine(ZI p q 0).mono (p:=λo=>match o with|.inl v=>v=ë p q|.inr ()=>q.length ≥ p.length/\ë p q=ë [] (q.drop p.length)) (λo h=>?_) (Cq.Zn p.length (λk s=>s=(k:Int)/\k<=p.length/\k<=q.length/\ë p q=ë (p.drop k) (q.drop k)) ?_ ?_ ⟨rfl,ĝ _,ĝ _,rfl⟩)
 .match o,h with
  |.inl v,h=>exact h
  |.inr (),⟨f,h2⟩=>
   show(Zz p q).Α _;unfold Zz;by_cases i:p.length<q.length
   .refine Cq.wp.yes ŉ ?_;show(-1:Int)=_;rw[h2,ĭ i];rfl
   refine Cq.wp.no ŉ ?_;show(0:Int)=_;rw[h2,Ķ ŉ];rfl
 .rintro k s d ⟨rfl,f,h2,h3⟩;refine Cq.wp.yes ŉ ⟨_,Λ d,?_⟩;by_cases a:k<q.length
  .refine Cq.wp.no ŉ ⟨_,Λ a,_,Zyd (tH hp d) (tH g a),?_⟩;have c:=Fy p q d a;by_cases e:fF p[k] q[k]=0
   .rw[ă e]at c;refine Cq.wp.no ŉ ?_;exact⟨ψ ŉ,ŉ,ŉ,h3.trans c⟩
   rw[ā e]at c;refine Cq.wp.yes e ?_;exact(h3.trans c).symm
  refine Cq.wp.yes ŉ ?_;show(1:Int)=_;rw[h3,ĭ d,Ķ (show q.length<=k by omega)];rfl
 rintro s ⟨rfl,f,h2,h3⟩;refine Cq.wp.no ŉ ?_;refine⟨h2,?_⟩;rw[h3,Ķ (ĉ _)]
theorem Sq(y:Ŀ Za):∀(x:Ŀ Za) (l:Ŀ (Ŀ Za)),jV x (l++[y])=jV x l++(if ë y (l.getLastD x)=0 then[]else[y])
 |x,[]=>by
  show jV x [y]=_;unfold jV;by_cases h:ë y x=0
  .rw[ă h];simp[h,jV]
  rw[ā h];simp[h,jV]
 |x,z::l=>by
  have a:=Sq y z l;show jV x (z::(l++[y]))=_;have e:(z::l).getLastD x=l.getLastD z:=by cases l<;>simp[List.getLastD]
  rw[e];simp only[jV];split
  .exact a
  rw[a];rfl
theorem Sr{xs:Ŀ (Ŀ Za)}{j:Nat}(c:1<=j)(a:j<xs.length):gk (xs.take (j+1))=if ë xs[j] xs[j-1]=0 then gk (xs.take j)else gk (xs.take j)++[xs[j]]:=by
 match xs,a with
 |x::l,a=>
  obtain⟨i,rfl⟩:∃i,j=i+1:=⟨j-1,ŉ⟩;have hi:i<l.length:=by simpa using a
  rw[Ĉ a];simp only[List.take_succ_cons,ĸ,gk,Sq,aac,Nat.add_sub_cancel];have e:(l.take i).getLastD x=(x::l)[i]:=by
   cases i with
   |zero=>rfl
   |succ i=>
    rw[List.getLastD_eq_getLast?,List.getLast?_eq_getElem?,č];rw[show min (i+1) l.length-1=i by omega,ų ŉ,ą ŉ];rfl
  rw[e];split<;>simp
theorem TC:∀{xs:Ŀ (Ŀ Za)},(gk xs).length<=xs.length
 |[]=>ĉ _
 |x::l=>by
  have key:∀(x:Ŀ Za) (l:Ŀ (Ŀ Za)),(jV x l).length<=l.length:=by
   intro x l;induction l generalizing x with
   |nil=>exact ĉ _
   |cons y l a=>
    unfold jV;split
    .exact aaz (a y)
    simpa using a y
  simpa[gk]using key x l
theorem RJ{xs:Ŀ (Ŀ Za)}(h:xs.length<2):gk xs=xs:=by
 match xs,h with
 |[],_=>rfl
 |[x],_=>rfl
theorem Zwu{s t:Za}(a:fu s.c=true)(c:fu t.c=true):(Eb s t).Α (decide (fF s t=0)):=by
 unfold Eb fF;by_cases h:s.m=t.m
 .simp only[ă h];exact⟨_,TR a c,rfl⟩
 simp only[ā h];show false=_;have:¬Ú s.m t.m=0:=λe=>h (um e);simp[this]
theorem Lw:∀{p q:Ŀ Za},ë p q=0->p.length=q.length
 |[],[],_=>rfl
 |[],_::_,h=>by simp[ë]at h
 |_::_,[],h=>by simp[ë]at h
 |s::p,t::q,h=>by
  simp only[ë]at h;split at h
  .simp[Lw h]
  rename_i h';exact absurd h h'
theorem E4{p q:Ŀ Za}(hp:Ð p=true)(f:Ð q=true):(ZU p q).Α (decide (ë p q=0)):=by
 have j:=vq hp;have l:=vq f;refine⟨decide (ë p q=0),?_,rfl⟩;unfold ZC;by_cases i:p.length=q.length
 .refine Cq.wp.no ŉ ?_;refine(ZJ p q 0).mono (p:=λo=>match o with|.inl v=>v=decide (ë p q=0)|.inr ()=>ë p q=0) (λo h=>?_) (Cq.Zn p.length (λk s=>s=(k:Int)/\k<=p.length/\ë p q=ë (p.drop k) (q.drop k)) ?_ ?_ ⟨rfl,ĝ _,rfl⟩)
  .match o,h with
   |.inl v,h=>exact h
   |.inr (),h=>show true=_;rw[Ą h]
  .rintro k s d ⟨rfl,g,h3⟩;have a:k<q.length:=ŉ;refine Cq.wp.yes ŉ ⟨_,Λ d,_,Λ a,_,Zwu (tH hp d) (tH f a),?_⟩;have c:=Fy p q d a;by_cases e:fF p[k] q[k]=0
   .rw[ă e]at c;rw[Ą e];exact⟨ψ ŉ,ŉ,h3.trans c⟩
   rw[ā e]at c;rw[Č e];show false=_;rw[h3,c,Č e]
  rintro s ⟨rfl,g,h3⟩;refine Cq.wp.no ŉ ?_;show ë p q=0;rw[h3,Ķ (ĉ _),Ķ ŉ];rfl
 refine Cq.wp.yes ŉ ?_;show false=_;rw[Č (λh=>i (Lw h))]
theorem Zyr:(á 0 100 λn=>match(ua (u64.wrap n)).ev 30 with|some v=>decide (0<=v/\v<1000000)|none=>false)=true:=by decide +kernel
theorem Ty{n:Nat}(h:n<=100):∃v,(ua (u64.wrap (n:Int))).Α v/\0<=v/\v<1000000:=by
 have:=Zr Zyr (show(0:Int)<=(n:Int) by omega) (show(n:Int)<=100 by omega);cases a:(ua (u64.wrap (n:Int))).ev 30 with
 |none=>rw[a]at this;cases this
 |some v=>rw[a]at this;exact⟨v,Cq.Α.mn 30 a,ĥ this⟩
end Go.EL

namespace Go.EL
open Go.IntKind (i8 i16 i32 i64 u8 u16 u32 u64)
open Go Go.RowKit
structure iz (t:Za):Prop where
 c:∃c:Int,t.c=ü c/\c≠0/\-12<=c/\c<=12
 m:Ok t.m
structure ω (p:Ŀ Za):Prop where
 ord:p.Pairwise λx y=>0<Ú x.m y.m
 tu:∀t∈p,iz t
 len:p.length<=100
theorem iz.rv{t:Za}(h:iz t):(uk t.c).Α true:=by obtain⟨⟨c,e,a,d,h2⟩,_⟩:=h;have:=Zr Zx1 (x:=c) ŉ ŉ;rw[e];exact Zs (by simpa[a]using this)
theorem iz.rs{t:Za}(h:iz t):∃s,(oI t.c).Α s/\s≠0:=by obtain⟨⟨c,e,a,d,h2⟩,_⟩:=h;have:=Zr F6 (x:=c) ŉ ŉ;rw[e];exact⟨_,Zs this,by split<;>omega⟩
theorem iz.pv{t:Za}(h:iz t):(ZZ t.c).Α true:=by obtain⟨⟨c,e,a,d,h2⟩,_⟩:=h;have:=Zr Zv9 (x:=c) ŉ ŉ;rw[e];exact Zs (by simpa[a]using this)
theorem iz.ps{t:Za}(h:iz t):∃s,(ZH t.c).Α s/\s≠0:=by
 obtain⟨⟨c,e,a,d,h2⟩,_⟩:=h;have:=Zr Tb (x:=c) ŉ ŉ;rw[e];refine⟨_,Zs (by simpa[a]using this),?_⟩;split<;>first|omega|(split<;>omega)
theorem ω.at{p:Ŀ Za}(h:ω p){k:Nat}(a:k<p.length):iz p[k]:=h.tu _ (Ă a)
theorem ω.step{p:Ŀ Za}(h:ω p){k:Nat}(a:k+1<p.length):0<Ú p[k].m p[k+1].m:=ħ.1 h.ord k (k+1) ŉ a ŉ
theorem Av{p:Ŀ Za}(h:ω p):(A6 p).Α true:=by
 have i:=h.len;refine Cq.Zn p.length (λk s=>s=(k:Int)) (λk s a c=>?_) (λs c=>?_) rfl
 .subst c;have d:=h.at a;obtain⟨s,e,h2⟩:=d.rs;rw[Cq.Zm,ă ŉ];refine⟨p[k],Λ a,true,d.rv,p[k],Λ a,s,e,?_⟩;rw[Cq.Zm,ā h2];refine⟨p[k],Λ a,true,Qa d.m,?_⟩;rw[Cq.Zm,ā ĳ];show(JR p (k:Int)).wp _;unfold JR;rw[Cq.Zm];split
  .rename_i g;obtain⟨j,rfl⟩:∃j,k=j+1:=⟨k-1,ŉ⟩;have f:i64.wrap (((j+1:Nat):Int)-1)=(j:Int):=by rw[wrap64 ŉ];omega
   rw[f];refine⟨p[j],Λ ŉ,p[j+1],Λ a,_,AE _ _,?_⟩;have:=h.step a;rw[Cq.Zm,ā ŉ];exact ψ ŉ
  exact ψ ŉ
 subst c;rw[Cq.Zm,ā ŉ];rfl
theorem D5{p:Ŀ Za}(h:ω p):(As p).Α true:=by
 have i:=h.len;refine Cq.Zn p.length (λk s=>s=(k:Int)) (λk s a c=>?_) (λs c=>?_) rfl
 .subst c;have d:=h.at a;obtain⟨s,e,h2⟩:=d.ps;refine Cq.wp.yes (p:=(k:Int)<(p.length:Int)) ŉ ?_;refine⟨p[k],Λ a,true,d.pv,s,e,?_⟩;rw[Cq.Zm,ā h2];refine⟨true,SN d.m,?_⟩;rw[Cq.Zm,ā ĳ];show(Jj p (k:Int) p[k]).wp _;unfold Jj;rw[Cq.Zm];split
  .rename_i g;obtain⟨j,rfl⟩:∃j,k=j+1:=⟨k-1,ŉ⟩;have f:i64.wrap (((j+1:Nat):Int)-1)=(j:Int):=by rw[wrap64 ŉ];omega
   rw[f];refine⟨p[j],Λ ŉ,_,JB _ _,?_⟩;have:=h.step a;rw[Cq.Zm,ā ŉ];exact ψ ŉ
  exact ψ ŉ
 subst c;refine Cq.wp.no (p:=((p.length:Nat):Int)<(p.length:Int)) ŉ ?_;rfl
def ib(p:Ŀ Za):Nat->Int
 |0=>0
 |k+1=>u8.wrap (BitVec.ofInt u8.bits (ib p k) ||| BitVec.ofInt u8.bits (match p[k]? with|some t=>jJ t.m|none=>0)).toNat
def ï(p:Ŀ Za):Int:=ib p p.length
def fL(p:Ŀ Za):Nat->Int
 |0=>-1
 |k+1=>match p[k]? with|some t=>if fL p k<fK t.m then fK t.m else fL p k|none=>fL p k
def gl(p:Ŀ Za):Int:=fL p p.length
theorem Au{p:Ŀ Za}(d:p.length<=100):(Bl p).Α (ï p):=by
 refine Cq.Zn p.length (λk s=>s=(ib p k,(k:Int))) (λk s c a=>?_) (λs a=>?_) rfl
 .subst a;refine Cq.wp.yes (p:=(k:Int)<(p.length:Int)) ŉ ?_;refine⟨p[k],Λ c,_,ZmL _,?_⟩;show _=_;rw[ψ ŉ];simp only[ib,ą c]
 subst a;refine Cq.wp.no (p:=((p.length:Nat):Int)<(p.length:Int)) ŉ ?_;rfl
theorem FX{p:Ŀ Za}(d:p.length<=100):(Az p).Α (ï p):=by
 refine Cq.Zn p.length (λk s=>s=(ib p k,(k:Int))) (λk s c a=>?_) (λs a=>?_) rfl
 .subst a;refine Cq.wp.yes (p:=(k:Int)<(p.length:Int)) ŉ ?_;refine⟨p[k],Λ c,_,ZtM _,?_⟩;show _=_;rw[ψ ŉ];simp only[ib,ą c]
 subst a;refine Cq.wp.no (p:=((p.length:Nat):Int)<(p.length:Int)) ŉ ?_;rfl
theorem xa{p:Ŀ Za}(h:ω p):(xg p).Α (gl p):=by
 have d:=h.len;refine Cq.Zn p.length (λk s=>s=(fL p k,(k:Int))) (λk s a c=>?_) (λs c=>?_) rfl
 .subst c;refine Cq.wp.yes (p:=(k:Int)<(p.length:Int)) ŉ ?_;refine⟨p[k],Λ a,_,ZnR (h.at a).m,?_⟩;show _=_;rw[ψ ŉ];simp only[fL,ą a]
 subst c;refine Cq.wp.no (p:=((p.length:Nat):Int)<(p.length:Int)) ŉ ?_;rfl
theorem yM{p:Ŀ Za}(h:ω p):(wZ p).Α (gl p):=by
 have d:=h.len;refine Cq.Zn p.length (λk s=>s=(fL p k,(k:Int))) (λk s a c=>?_) (λs c=>?_) rfl
 .subst c;refine Cq.wp.yes (p:=(k:Int)<(p.length:Int)) ŉ ?_;refine⟨p[k],Λ a,_,Zu7 (h.at a).m,?_⟩;show _=_;rw[ψ ŉ];simp only[fL,ą a]
 subst c;refine Cq.wp.no (p:=((p.length:Nat):Int)<(p.length:Int)) ŉ ?_;rfl
end Go.EL

namespace Go.EL
open Go.IntKind (i8 i16 i32 i64 u8 u16 u32 u64)
open Go Go.RowKit
def Ï(p:Ŀ Za)(n:Int):Bool:=if(Int.fdiv (i64.wrap (ï p)) (2 ^ (min (n).toNat i64.bits)))=0 then decide (gl p<=12)else false
theorem ZnD{p:Ŀ Za}(h:ω p){n:Int}(a:0<=n):(KD p n).Α (Ï p n):=by
 refine⟨true,D5 h,_,FX h.len,a,?_⟩;unfold Ï;rw[Cq.Zm];split
 .exact⟨_,yM h,rfl⟩
 rfl
theorem R4(a:M):∀k:Nat,k<=8->∀i:Fin 8,(Ù a k).toNat.testBit i.val=(decide (i.val<k)&&decide (0<a i))
 |0,_,i=>by simp[Ù]
 |k+1,g,i=>by
  have f:=R4 a k ŉ i;have c:=A4 a k;have iv:k<8:=ŉ;rw[zy]at c;simp only[Ù,Ŷ iv];by_cases hi:i.val=k
  .have e:i=⟨k,iv⟩:=abl hi;subst e;by_cases hp:0<a ⟨k,iv⟩
   .rw[ă hp,zy,show(Ù a k+((2 ^ k:Nat):Int)).toNat=2 ^ k+(Ù a k).toNat by omega,Nat.testBit_two_pow_add_eq,dV ŉ];simp[hp]
   rw[ā hp,aaF];show(Ù a k).toNat.testBit k=_;rw[dV ŉ];simp[hp]
  have d:(decide (i.val<k+1))=decide (i.val<k):=by
   by_cases h:i.val<k
   .simp[h,show i.val<k+1 by omega]
   simp[h,show ¬i.val<k+1 by omega]
  rw[d,<-f];by_cases hp:0<a ⟨k,iv⟩
  .rw[ă hp,zy,show(Ù a k+((2 ^ k:Nat):Int)).toNat=2 ^ k+(Ù a k).toNat by omega];by_cases h:i.val<k
   .rw[Nat.testBit_two_pow_add_gt h]
   rw[dV (x:=(Ù a k).toNat) (aar (by omega:(Ù a k).toNat<2 ^ k) (aaV ŉ ŉ))];refine dV (aar (by have:=c.2;omega:2 ^ k+(Ù a k).toNat<2 ^ (k+1)) (aaV ŉ ŉ))
  rw[ā hp,aaF]
theorem ZxX(a:M)(i:Fin 8):(jJ a).toNat.testBit i.val=decide (0<a i):=by unfold jJ;rw[R4 a 8 ŉ];simp[i.isLt]
theorem T3(a:M):0<=jJ a/\jJ a<256:=A4 a 8
theorem V4{a b:Nat}(c:a<256)(d:b<256):u8.wrap (BitVec.ofInt u8.bits (a:Int) ||| BitVec.ofInt u8.bits (b:Int)).toNat=((a ||| b:Nat):Int):=by
 have h:(BitVec.ofInt u8.bits (a:Int) ||| BitVec.ofInt u8.bits (b:Int)).toNat=a ||| b:=by rw[BitVec.toNat_or];simp only[IntKind.bits,BitVec.toNat_ofInt];rw[show(((a:Int) % ((2 ^ 8:Nat):Int)).toNat)=a by omega,show(((b:Int) % ((2 ^ 8:Nat):Int)).toNat)=b by omega]
 have h2:a ||| b<256:=Nat.or_lt_two_pow (n:=8) c d
 rw[h];simp only[IntKind.wrap,IntKind.bits,IntKind.signed,ŵ,ś,aaR];omega
def jL(p:Ŀ Za):Nat->Nat
 |0=>0
 |k+1=>jL p k ||| (match p[k]? with|some t=>(jJ t.m).toNat|none=>0)
theorem LM(p:Ŀ Za):∀k,jL p k<256
 |0=>by simp[jL]
 |k+1=>by
  refine Nat.or_lt_two_pow (n:=8) (LM p k) ?_;split
  .rename_i t _;have h:(jJ t.m).toNat<256:=by have:=T3 t.m;omega
   exact h
  decide
theorem R6(p:Ŀ Za):∀k,ib p k=(jL p k:Int)
 |0=>rfl
 |k+1=>by
  have a:=LM p k;unfold ib jL;rw[R6 p k];cases p[k]? with
  |none=>exact V4 (b:=0) a ŉ
  |some t=>
   have h:=T3 t.m;obtain⟨n,c⟩:=aaw h.1;show u8.wrap (BitVec.ofInt u8.bits (jL p k:Int) ||| BitVec.ofInt u8.bits (jJ t.m)).toNat=((jL p k ||| (jJ t.m).toNat:Nat):Int);rw[c];exact V4 a ŉ
theorem Th(p:Ŀ Za)(i:Fin 8):∀k,(jL p k).testBit i.val=(p.take k).any λt=>decide (0<t.m i)
 |0=>by simp[jL]
 |k+1=>by
  simp only[jL,Nat.testBit_or,Th p i k];cases h:p[k]? with
  |none=>
   have:p.length<=k:=aak.1 h;simp[Ę this,Ę (show p.length<=k+1 by omega)]
  |some t=>
   rw[List.take_add_one,h];simp[ZxX]
theorem Tj(p:Ŀ Za):ï p=(jL p p.length:Int):=R6 p _
theorem Ti(p:Ŀ Za)(i:Fin 8):(ï p).toNat.testBit i.val=p.any λt=>decide (0<t.m i):=by rw[Tj,Ē,Th,Ĥ]
theorem uj(p:Ŀ Za):0<=ï p/\ï p<256:=by have:=LM p p.length;rw[Tj];omega
theorem ZyA(u n:Nat):Int.fdiv (u:Int) ((2:Int) ^ n)=((u >>> n:Nat):Int):=by rw[Ů,show((2:Int) ^ n)=((2 ^ n:Nat):Int) by simp,aai _ (Int.natCast_nonneg _)];simp
theorem Zwb(p:Ŀ Za){n:Int}(c:0<=n)(d:n<=8):Int.fdiv (i64.wrap (ï p)) (2 ^ (min (n).toNat i64.bits))=(((ï p).toNat >>> n.toNat:Nat):Int):=by have:=uj p;rw[wrap64 ŉ,show min n.toNat i64.bits=n.toNat by simp only[IntKind.bits];omega];obtain⟨u,a⟩:=aaw this.1;rw[a];exact ZyA u _
theorem Ss(p:Ŀ Za)(d:Int)(c:-1<=d):∀k,k<=p.length->(fL p k<=d↔∀i (h:i<p.length),i<k->fK p[i].m<=d)
 |0,_=>by simp[fL,c]
 |k+1,j=>by
  have f:=Ss p d c k ŉ;have iv:k<p.length:=ŉ;simp only[fL,ą iv];constructor
  .intro h i hi a;by_cases e:i=k
   .subst e;split at h<;>omega
   refine f.1 ?_ i hi ŉ;split at h<;>omega
  intro h;have g:=h k iv ŉ;have h2:=f.2 λi hi a=>h i hi ŉ;split<;>omega
theorem tF{p:Ŀ Za}{d:Int}(a:-1<=d):gl p<=d↔∀t∈p,fK t.m<=d:=by
 unfold gl;rw[Ss p d a p.length ŉ];constructor
 .intro h t c;obtain⟨i,hi,rfl⟩:=ķ.1 c;exact h i hi hi
 intro h i hi _;exact h _ (Ă hi)
def lG(n:Nat)(p:Ŀ Za):Prop:=∀t∈p,∀i:Fin 8,n<=i.val->¬0<t.m i
theorem yU{p:Ŀ Za}{n:Nat}:((ï p).toNat >>> n=0)↔lG n p:=by
 have e:=uj p;constructor
 .intro h t a i hi hp;have c:=Ti p i;rw[show(p.any λt=>decide (0<t.m i))=true from ej.2 ⟨t,a,Ą hp⟩]at c;have h2:((ï p).toNat >>> n).testBit (i.val-n)=true:=by rw[Nat.testBit_shiftRight,show n+(i.val-n)=i.val by omega];exact c
  rw[h]at h2;simp at h2
 intro h;refine Nat.eq_of_testBit_eq λj=>?_;rw[Nat.testBit_shiftRight,Nat.zero_testBit];by_cases d:n+j<8
 .rw[Ti p ⟨n+j,d⟩];refine List.any_eq_false.2 λt a=>?_;simp only[ę];exact h t a _ ß
 exact dV (aar (show(ï p).toNat<2 ^ 8 by omega) (aaV ŉ ŉ))
theorem pI{p:Ŀ Za}{n:Nat}(a:n<=8):Ï p (n:Int)=true↔lG n p/\∀t∈p,fK t.m<=12:=by
 unfold Ï;rw[Zwb p ŉ ŉ,Ē];by_cases h:(ï p).toNat >>> n=0
 .rw[ă (by rw[h];rfl),ę,tF ŉ];exact⟨λk=>⟨yU.1 h,k⟩,λk=>k.2⟩
 rw[ā ŉ];exact⟨λk=>absurd k ĳ,λk=>absurd (yU.2 k.1) h⟩
end Go.EL

namespace Go.EL
open Go.IntKind (i8 i16 i32 i64 u8 u16 u32 u64)
open Go Go.RowKit
def js(r:Zf):Int:=if r.num.neg=true then -(r.num.χ.headD 0)else r.num.χ.headD 0
theorem Lh(c:Int):js (ü c)=c:=by
 unfold js ü;by_cases h:c<0
 .simp[h,show ¬c=0 by omega];omega
 by_cases a:c=0
 .simp[a]
 simp[h,a];omega
def gj:Ŀ Za->Za->Ŀ Za
 |[],t=>[t]
 |x::xs,t=>if 0<Ú x.m t.m then x::gj xs t else if Ú x.m t.m<0 then t::x::xs else if js x.c+js t.c=0 then xs else⟨ü (js x.c+js t.c),x.m⟩::xs
theorem RA:∀(p:Ŀ Za) (t:Za),(gj p t).length<=p.length+1
 |[],_=>by simp[gj]
 |x::xs,t=>by
  have a:=RA xs t;simp only[gj];split
  .simp;omega
  split
  .simp
  split<;>simp;omega
theorem K5:∀(k:Nat) (p:Ŀ Za) (t:Za),k<=p.length->(∀x∈p.take k,0<Ú x.m t.m)->gj p t=p.take k++gj (p.drop k) t
 |0,p,t,_,_=>by simp
 |k+1,[],t,h,_=>by simp at h
 |k+1,x::xs,t,h,a=>by have c:0<Ú x.m t.m:=a x ß;rw[gj,ă c,K5 k xs t (by simpa using h) (λy d=>a y (by simp[d]))];simp
def wT(p:Ŀ Za)(t:Za):Prop:=∀x∈p,x.m=t.m->∃a b,x.c=ü a/\t.c=ü b/\-12<=a/\a<=12/\-3<=b/\b<=3
theorem ZyM{p:Ŀ Za}{t x:Za}(h:wT p t)(i:x∈p)(g:x.m=t.m):(vE x.c t.c).Α (ü (js x.c+js t.c))/\∃s,(oI (ü (js x.c+js t.c))).Α s/\(s=0↔js x.c+js t.c=0):=by
 obtain⟨a,b,c,d,e,h2,h3,f⟩:=h x i g;rw[c,d,Lh,Lh];have j:=Zr (Zr ZzK e h2) h3 f;have k2:=Zr F6 (x:=a+b) ŉ ŉ;refine⟨Zs j,_,Zs k2,?_⟩;split
 .omega
 split<;>omega
theorem Ztg{p:Ŀ Za}(d:p.length<=100):(Bu p []).Α p:=by
 show(Cq.next _ _).wp _;refine Cq.Zn p.length (λk s=>s=(p.take k,(k:Int),0)) (λk s c a=>?_) (λs a=>?_) ß
 .subst a;refine Cq.wp.yes (p:=(k:Int)<(p.length:Int)) ŉ ?_;unfold xf;rw[Cq.Zm,ă ß];unfold vu;rw[Cq.Zm,ă rfl];refine⟨p[k],Λ c,by simp[small];omega,?_⟩;show _=_;rw[ψ ŉ,ţ c]
 subst a;show(if((p.length:Nat):Int)<(p.length:Int)then _ else _:Cq _).wp _;rw[Cq.Zm,ā ŉ,Cq.Zm,ā ß];exact Ĥ
theorem Rm{p:Ŀ Za}{t:Za}(y:p.length<=100)(u:wT p t):(Bu p [t]).Α (gj p t):=by
 show(Cq.next _ _).wp _;refine Cq.LU (λs=>(∃i:Nat,i<=p.length/\s=(p.take i,(i:Int),0)/\∀x∈p.take i,0<Ú x.m t.m)\/(∃i:Nat,∃f:Ŀ Za,i<=p.length/\s=(f,(i:Int),1)/\f++p.drop i=gj p t/\f.length<=i+1))
  (λs=>(p.length-s.2.1.toNat)+(1-s.2.2.toNat)) (λs v=>?_) _ (.inl ⟨0,ŉ,ß,ß⟩)
 have m:i64.wrap 1=1:=ĳ;rcases v with ⟨i,hi,rfl,k⟩|⟨i,f,hi,rfl,l,q⟩
 .by_cases a:i<p.length
  .refine Cq.wp.yes (p:=(i:Int)<(p.length:Int)) ŉ ?_;unfold xf;rw[Cq.Zm,ā ß,Cq.Zm,ă ŉ];refine⟨p[i],Λ a,t,⟨ŉ,rfl⟩,_,AE _ _,?_⟩;unfold vu;rw[Cq.Zm];have d:gj p t=p.take i++gj (p.drop i) t:=K5 i p t hi k;have c:p.drop i=p[i]::p.drop (i+1):=ĭ a;by_cases g:0<Ú p[i].m t.m
   .rw[ă (Ą g)];refine⟨p[i],Λ a,by simp[small];omega,?_⟩;rw[ψ ŉ,ţ a];refine⟨.inl ⟨i+1,ŉ,rfl,λx qf=>?_⟩,ab0⟩;rw[<-ţ a]at qf;rcases Ĩ.1 qf with h|h
    .exact k x h
    rw[Ĕ]at h;subst h;exact g
   rw[ā (by simpa using g)];show(AR p [t] 0 (p.take i) (i:Int)).wp _;unfold AR;rw[Cq.Zm,ā ŉ];refine⟨p[i],Λ a,t,⟨ŉ,rfl⟩,_,AE _ _,?_⟩;unfold AQ;rw[Cq.Zm];by_cases e:Ú p[i].m t.m<0
   .rw[ă (Ą e)];refine⟨t,⟨ŉ,rfl⟩,by simp[small];omega,?_⟩;refine⟨.inr ⟨i,_,hi,rfl,?_,ab0⟩,by simp[m]⟩;rw[d,c,gj,ā g,ă e];simp
   rw[ā (by simpa using e)];have r:p[i].m=t.m:=um ŉ;obtain⟨n,s,h2,h3⟩:=ZyM u (Ă a) r;unfold Ku;refine⟨p[i],Λ a,t,⟨ŉ,rfl⟩,_,n,s,h2,?_⟩;rw[Cq.Zm];by_cases j:js p[i].c+js t.c=0
   .rw[ā (by simpa using h3.2 j)];rw[ψ ŉ];refine⟨.inr ⟨i+1,_,ŉ,rfl,?_,ab0⟩,ab0⟩;rw[d,c,gj,ā g,ā e,ă j]
   rw[ă (λh=>j (h3.1 h))];refine⟨p[i],Λ a,by simp[small];omega,?_⟩;rw[ψ ŉ];refine⟨.inr ⟨i+1,_,ŉ,rfl,?_,ab0⟩,ab0⟩;rw[d,c,gj,ā g,ā e,ā j];simp
  obtain rfl:i=p.length:=ŉ;show(if((p.length:Nat):Int)<(p.length:Int)then _ else _:Cq _).wp _;rw[Cq.Zm,ā ŉ,Cq.Zm,ă ß];unfold xf;rw[Cq.Zm,ā ß,Cq.Zm,ā ŉ];unfold vu;rw[Cq.Zm,ā ĳ];unfold AR;rw[Cq.Zm,ă rfl];unfold AQ;rw[Cq.Zm,ă rfl];refine⟨t,⟨ŉ,rfl⟩,by simp[small];omega,?_⟩;refine⟨.inr ⟨p.length,_,ŉ,rfl,?_,ß⟩,by simp[m]⟩;rw[K5 p.length p t ŉ k,aaj];simp[gj]
 by_cases a:i<p.length
 .refine Cq.wp.yes (p:=(i:Int)<(p.length:Int)) ŉ ?_;unfold xf;rw[Cq.Zm,ă ß];unfold vu;rw[Cq.Zm,ă rfl];refine⟨p[i],Λ a,by simp[small];omega,?_⟩;rw[ψ ŉ];refine⟨.inr ⟨i+1,_,ŉ,rfl,?_,ab0⟩,ab0⟩;rw[<-l,ĭ a];simp
 obtain rfl:i=p.length:=ŉ;show(if((p.length:Nat):Int)<(p.length:Int)then _ else _:Cq _).wp _;rw[Cq.Zm,ā ŉ,Cq.Zm,ā ß];show _=_;rw[<-l,aaj,Ě]
end Go.EL

namespace Go.EL
open Go.IntKind (i8 i16 i32 i64 u8 u16 u32 u64)
open Go Go.RowKit
structure Ë (π:M):Prop where
 oC:∀i,0<=π i/\π i<8
 inj:∀i j,π i=π j->i=j
def ep(π m:M):Nat->M
 |0=>λ_=>0
 |k+1=>if h:k<8 then ζ (ep π m k) (π ⟨k,h⟩).toNat (m ⟨k,h⟩)else ep π m k
def fB(π m:M):M:=ep π m 8
theorem S3{π:M}(h:Ë π)(m:M):∀k,k<=8->∀i:Fin 8,i.val<k->∀j:Fin 8,(j.val:Int)=π i->ep π m k j=m i
 |0,_,i,hi,_,_=>by omega
 |k+1,f,i,hi,j,c=>by
  have iv:k<8:=ŉ;simp only[ep,Ŷ iv,ζ];have r:=h.oC ⟨k,iv⟩;by_cases e:i.val=k
  .have:i=⟨k,iv⟩:=abl e;subst this;rw[ă ŉ]
  have d:π i≠π ⟨k,iv⟩:=λa=>e (đ Fin.val (h.inj _ _ a));rw[ā ŉ];exact S3 h m k ŉ i ŉ j c
theorem Q2{π:M}(h:Ë π)(m:M):∀k,k<=8->∀j:Fin 8,(∀i:Fin 8,i.val<k->π i≠(j.val:Int))->ep π m k j=0
 |0,_,_,_=>rfl
 |k+1,c,j,a=>by have iv:k<8:=ŉ;have r:=h.oC ⟨k,iv⟩;have:=a ⟨k,iv⟩ ß;simp only[ep,Ŷ iv,ζ];rw[ā ŉ];exact Q2 h m k ŉ j λi hi=>a i ŉ
theorem Lr{π m:M}(a:Ok m):∀k,Ok (ep π m k)
 |0=>λ_=>by simp[ep]
 |k+1=>λj=>by
  simp only[ep];split
  .rename_i c;simp only[ζ];split
   .exact a _
   exact Lr a k j
  exact Lr a k j
theorem Ur{π m:M}(a:Ok m):Ok (fB π m):=Lr a 8
theorem ui{π:M}(h:Ë π)(m:M)(i j:Fin 8)(a:(j.val:Int)=π i):fB π m j=m i:=S3 h m 8 ŉ i i.isLt j a
theorem Lq{π:M}(h:Ë π){a b:M}(e:fB π a=fB π b):a=b:=by funext i;have r:=h.oC i;have c:=ui h a i ⟨(π i).toNat,ŉ⟩ ab0;have h2:=ui h b i ⟨(π i).toNat,ŉ⟩ ab0;rw[<-c,<-h2,e]
theorem La(f:M)(x:Int)(q:Nat):∀k,k<=8->fG (ζ f q x) k=fG f k+(if h:q<8 then(if q<k then x-f ⟨q,h⟩else 0)else 0)
 |0,_=>by simp[fG]
 |k+1,d=>by
  have iv:k<8:=ŉ;simp only[fG,Ŷ iv,La f x q k ŉ,ζ];by_cases e:k=q
  .subst e;simp[iv];omega
  rw[ā e];by_cases a:q<8
  .simp only[Ŷ a];by_cases c:q<k
   .rw[ă c,ă ŉ];omega
   rw[ā c,ā ŉ];omega
  simp only[dif_neg a];omega
theorem K9{π:M}(h:Ë π)(m:M):fK (fB π m)=fK m:=by
 have key:∀k,k<=8->fK (ep π m k)=fG m k:=by
  intro k;induction k with
  |zero=>intro _;simp[ep,fK,fG]
  |succ k c=>
   intro e;have iv:k<8:=ŉ;have r:=h.oC ⟨k,iv⟩;have a:(π ⟨k,iv⟩).toNat<8:=ŉ;simp only[ep,Ŷ iv,fG];unfold fK at c⊢;rw[La _ _ _ 8 ŉ,Ŷ a,ă a,c ŉ];have:ep π m k ⟨(π ⟨k,iv⟩).toNat,a⟩=0:=Q2 h m k ŉ _ λi hi d=>by
    have:π i=π ⟨k,iv⟩:=by simp at d;omega
    have:=đ Fin.val (h.inj _ _ this);simp at this;omega
   rw[this];omega
 exact key 8 ŉ
theorem ZxC{π:M}(h:Ë π)(x:Za):(Pd π x (0,λ_=>0)).Α (fB π x.m):=by
 refine Cq.Zn 8 (λk s=>s=((k:Int),ep π x.m k)) (λk s a c=>?_) (λs c=>?_) rfl
 .subst c;have r:=h.oC ⟨k,a⟩;refine Cq.wp.yes (p:=(k:Int)<8) ŉ ?_;refine⟨ŉ,ŉ,by rw[Ó a];exact r,?_⟩;show _=_;rw[ψ ŉ,Ó a,Ó a];simp only[ep,Ŷ a]
 subst c;refine Cq.wp.no (p:=((8:Nat):Int)<8) ŉ ?_;rfl
theorem Zv1{π:M}(h:Ë π){p:Ŀ Za}{k:Nat}(d:k<p.length):(PM p π (k:Int) (0,λ_=>0)).Α (fB π p[k].m):=by
 refine Cq.Zn 8 (λj s=>s=((j:Int),ep π p[k].m j)) (λj s a c=>?_) (λs c=>?_) rfl
 .subst c;have r:=h.oC ⟨j,a⟩;refine Cq.wp.yes (p:=(j:Int)<8) ŉ ?_;refine⟨ŉ,p[k],Λ d,ŉ,by rw[Ó a];exact r,?_⟩;show _=_;rw[ψ ŉ,Ó a,Ó a];simp only[ep,Ŷ a]
 subst c;refine Cq.wp.no (p:=((8:Nat):Int)<8) ŉ ?_;rfl
theorem Gy{π:M}(h:Ë π){k:Nat}(a:k<8){c:Fin 8->Bool}(d:∀j,c j=true->∃i:Fin 8,i.val<k/\(j.val:Int)=π i):¬Ζ c (π ⟨k,a⟩)=true:=by
 have r:=h.oC ⟨k,a⟩;rw[zv c (show(π ⟨k,a⟩).toNat<8 by omega)];intro e;obtain⟨i,f,h2⟩:=d _ e;have:π i=π ⟨k,a⟩:=by simp at h2;omega
 have:=đ Fin.val (h.inj _ _ this);simp at this;omega
theorem FH{π:M}(h:Ë π){k:Nat}(c:k<8){d:Fin 8->Bool}(e:∀j,d j=true->∃i:Fin 8,i.val<k/\(j.val:Int)=π i):∀j,ζ d (π ⟨k,c⟩).toNat true j=true->∃i:Fin 8,i.val<k+1/\(j.val:Int)=π i:=by
 intro j a;have r:=h.oC ⟨k,c⟩;simp only[ζ]at a;split at a
 .exact⟨⟨k,c⟩,ß,ŉ⟩
 obtain⟨i,f,h2⟩:=e j a;exact⟨i,ŉ,h2⟩
theorem Zk1{π:M}(h:Ë π):(Jn π).Α true:=by
 show(Cq.next _ _).wp _;refine Cq.Zn 8 (λk s=>∃a:Fin 8->Bool,s=((k:Int),a)/\∀j,a j=true->∃i:Fin 8,i.val<k/\(j.val:Int)=π i) (λk s c e=>?_) (λs e=>?_) ⟨_,rfl,λj f=>by cases f⟩
 .obtain⟨a,rfl,d⟩:=e;have r:=h.oC ⟨k,c⟩;refine Cq.wp.yes (p:=(k:Int)<8) ŉ ?_;refine⟨ŉ,?_⟩;rw[Ó c,Cq.Zm,ā ŉ];refine⟨ŉ,?_⟩;rw[Cq.Zm,ā ŉ];refine⟨ŉ,r,?_⟩;rw[Cq.Zm,ā (Gy h c d)];refine⟨ŉ,r,?_⟩;rw[ψ ŉ];exact⟨_,rfl,FH h c d⟩
 obtain⟨a,rfl,d⟩:=e;refine Cq.wp.no (p:=((8:Nat):Int)<8) ŉ ?_;rfl
end Go.EL

namespace Go.EL
open Go.IntKind (i8 i16 i32 i64 u8 u16 u32 u64)
open Go Go.RowKit
def jn(π:M)(t:Za):Za:=⟨t.c,fB π t.m⟩
def gE(π:M)(l:Ŀ Za):Ŀ Za:=l.foldl (λa t=>gj a (jn π t)) []
def à(π:M)(p:Ŀ Za):Ŀ Za:=gE π p
theorem Zym{p:Ŀ Za}{t:Za}:(∀x∈p,x.m≠t.m)->(gj p t).Perm (t::p):=by
 induction p with
 |nil=>intro _;exact x9 _
 |cons x xs d=>
  intro h;have a:=h x ß;simp only[gj];split
  .exact ((d λy c=>h y (by simp[c])).cons x).trans (List.Perm.swap _ _ _)
  split
  .exact x9 _
  exact absurd (um ŉ) a
theorem ZpU{a b c:M}(d:0<Ú a b)(h2:0<Ú b c):0<Ú a c:=by have e:=ue a b;have k2:=ue b c;have k3:=ue a c;have:=J0 (a:=c) (b:=b) (c:=a) ŉ ŉ (.inl ŉ);omega
abbrev jw(p:Ŀ Za):Prop:=p.Pairwise λx y=>0<Ú x.m y.m
theorem SP{p:Ŀ Za}{t:Za}:jw p->jw (gj p t)/\∀z,(∀x∈p,0<Ú z x.m)->0<Ú z t.m->∀y∈gj p t,0<Ú z y.m:=by
 induction p with
 |nil=>intro _;exact⟨by simp[gj],λz _ h y a=>by simp[gj]at a;subst a;exact h⟩
 |cons x xs l=>
  intro g;obtain⟨e,h2⟩:=Į.1 g;obtain⟨k,i⟩:=l h2;simp only[gj];split
  .rename_i f;refine⟨Į.2 ⟨i _ e f,k⟩,λz c d y a=>?_⟩;rcases Ď.1 a with rfl|a
   .exact c _ ß
   exact i z (λw j=>c w (by simp[j])) d y a
  split
  .rename_i f;have mh:0<Ú t.m x.m:=by have:=ue x.m t.m;omega
   refine⟨Į.2 ⟨λy a=>?_,g⟩,λz c d y a=>?_⟩
   .rcases Ď.1 a with rfl|a
    .exact mh
    exact ZpU mh (e y a)
   rcases Ď.1 a with rfl|a
   .exact d
   exact c y a
  split
  .exact⟨h2,λz c _ y a=>c y (by simp[a])⟩
  refine⟨Į.2 ⟨e,h2⟩,λz c _ y a=>?_⟩;rcases Ď.1 a with rfl|a
  .exact c x ß
  exact c y (by simp[a])
theorem QM(π:M)(l:Ŀ Za)(t:Za):gE π (l++[t])=gj (gE π l) (jn π t):=by simp[gE,aaG]
theorem Fa{p:Ŀ Za}(h:jw p):p.Pairwise λx y=>x.m≠y.m:=h.imp λhp e=>by rw[e,Bc]at hp;omega
theorem KW{π:M}(h:Ë π){p:Ŀ Za}(d:jw p):∀k,k<=p.length->(gE π (p.take k)).Perm ((p.take k).map (jn π))/\jw (gE π (p.take k))
 |0,_=>by simp[gE]
 |k+1,l=>by
  obtain⟨c,h2⟩:=KW h d k ŉ;have iv:k<p.length:=ŉ;rw[<-ţ iv,QM];refine⟨?_,(SP h2).1⟩;have a:∀x∈gE π (p.take k),x.m≠(jn π p[k]).m:=by intro x g e;obtain⟨y,j,rfl⟩:=ğ.1 (c.mem_iff.1 g);have f:=Lq h e;obtain⟨i,hi,rfl⟩:=ķ.1 j;simp only[č]at hi;rw[aah]at f;exact ħ.1 (Fa d) i k ŉ iv ŉ f
  refine(Zym a).trans ?_;rw[Ī];exact(c.cons _).trans (List.perm_append_comm (l₁:=[jn π p[k]]))
theorem rn{π:M}(h:Ë π){p:Ŀ Za}(a:jw p):(à π p).Perm (p.map (jn π))/\jw (à π p):=by have:=KW h a p.length ŉ;rwa [Ĥ]at this
theorem oJ{π:M}(h:Ë π){p:Ŀ Za}(hp:ω p):ω (à π p):=by obtain⟨a,h2⟩:=rn h hp.ord;refine⟨h2,λt d=>?_,by rw[a.length_eq,ć];exact hp.len⟩;obtain⟨y,c,rfl⟩:=ğ.1 (a.mem_iff.1 d);exact⟨(hp.tu y c).c,Ur (hp.tu y c).m⟩
theorem Jv{π:M}(h:Ë π){p:Ŀ Za}(hp:ω p):(AF p π).Α (à π p,0):=by
 have l:=hp.len;refine⟨true,Zk1 h,?_⟩;show(Cq.next _ _).wp _;refine Cq.Zn p.length (λk s=>s=(gE π (p.take k),(k:Int))) (λk s a c=>?_) (λs c=>?_) (by simp[gE])
 .subst c;obtain⟨d,h2⟩:=KW h hp.ord k ŉ;refine Cq.wp.yes (p:=(k:Int)<(p.length:Int)) ŉ ?_;refine(Zv1 h a).then ?_;refine⟨p[k],Λ a,_,Rm (by rw[d.length_eq,ć,č];omega) (λx g e=>?_),?_⟩
  .obtain⟨y,j,rfl⟩:=ğ.1 (d.mem_iff.1 g);have f:=Lq h e;obtain⟨i,hi,rfl⟩:=ķ.1 j;simp only[č]at hi;rw[aah]at f;exact absurd f (ħ.1 (Fa hp.ord) i k ŉ a ŉ)
  show _=_;rw[ψ ŉ,<-ţ a,QM];rfl
 subst c;refine Cq.wp.no (p:=((p.length:Nat):Int)<(p.length:Int)) ŉ ?_;show _=_;rw[Ĥ];rfl
end Go.EL

namespace Go.EL
open Go.IntKind (i8 i16 i32 i64 u8 u16 u32 u64)
open Go Go.RowKit
theorem ZAm:(á 0 100 λn=>match(ua (u64.wrap n)).ev 30 with|some v=>decide (0<=v/\v<1000000)|none=>false)=true:=by decide +kernel
theorem ZAn{n:Nat}(h:n<=100):∃v,(ua (u64.wrap (n:Int))).Α v/\0<=v/\v<1000000:=by
 have:=Zr ZAm (x:=(n:Int)) ŉ ŉ;split at this
 .rename_i v a;have:=ĥ this;exact⟨v,Cq.Α.mn 30 a,this.1,this.2⟩
 cases this
theorem ZzS{p:Ŀ Za}(h:jw p){x y:Za}(d:x∈p)(f:y∈p)(e:x.m=y.m):x=y:=by
 obtain⟨i,hi,rfl⟩:=ķ.1 d;obtain⟨j,c,rfl⟩:=ķ.1 f;have key:=ħ.1 (Fa h);rcases aay i j with a|a|a
 .exact absurd e (key i j hi c a)
 .subst a;rfl
 exact absurd e.symm (key j i c hi a)
theorem Su{p:Ŀ Za}(h:jw p):p.Pairwise λx y=>¬Ú x.m y.m<0:=h.imp λhp=>by omega
theorem Sp{p ys:Ŀ Za}(c:jw p)(hp:ys.Perm p)(f:ys.Pairwise λx y=>¬Ú x.m y.m<0):ys=p:=
 abr (le:=λx y:Za=>¬Ú x.m y.m<0) (λa b d e g h2=>by
  have:=ue a.m b.m;exact ZzS c (hp.mem_iff.1 d) e (um ŉ)) f (Su c) hp
theorem Zrz{p l:Ŀ Za}(c:jw p)(f:p.length<=100)(hp:l.Perm p):(ZK l).Α p:=by have e:=hp.length_eq;obtain⟨v,a,h2,h3⟩:=ZAn (n:=l.length) ŉ;refine⟨v,a,p,?_,rfl⟩;refine⟨⟨rfl,rfl,⟨h2,h3⟩,ŉ⟩,λys ⟨d,k2⟩=>?_⟩;exact Sp c (d.trans hp) k2
def kX(q:M×Zf):Za:=⟨q.2,q.1⟩
theorem Zwd{p:Ŀ Za}(hp:ω p){D:Ŀ (M×Zf)}(j:(D.map kX).Perm p):(Jp D).Α p:=by
 have l:=hp.len;have e:=j.length_eq;rw[ć]at e;refine⟨⟨ŉ,ŉ⟩,?_⟩;show(Cq.next _ _).wp _;refine Cq.LU (λs=>(s.1++s.2.map kX).Perm p) (λs=>s.2.length) (λs d=>?_) _ (by simpa using j);obtain⟨rv,R⟩:=s;simp only at d;have c:=d.length_eq;simp only[Ā,ć]at c;refine⟨λi=>?_,λg q h i=>?_⟩
 .subst i;rw[Œ,Ě]at d;exact⟨_,Zrz hp.ord l d,rfl⟩
 subst i;have f:kX q∈p:=d.mem_iff.1 ß;obtain⟨s,k,h2⟩:=(hp.tu _ f).ps;refine⟨s,k,?_⟩;rw[Cq.Zm,ă h2];simp only[Ā,ě]at c;refine⟨by simp[small];omega,?_,?_⟩
 .refine List.Perm.trans ?_ d;simp only[Ī,ġ,Đ,List.singleton_append];refine List.Perm.append_left rv ?_;exact(List.perm_middle (a:=kX q) (l₁:=g.map kX) (l₂:=h.map kX)).symm
 show(g++h).length<(g++q::h).length;simp
theorem ZBM{m:M}(h:Ok m):∀i,(Lit.int i64 (m i)).wf=true:=λi=>by have:=h i;simp only[Lit.wf,Ċ,ę];exact⟨ec ĳ this.1,ec this.2 ĳ⟩
def sR(π:M)(t:Za):M×Zf:=(fB π t.m,t.c)
theorem Rf{π:M}(h:Ë π){p:Ŀ Za}(hp:ω p):(Ea p π).Α (à π p,0):=by
 have u:=hp.len;show(Cq.next _ _).wp _;refine Cq.Zn 8 (λk s=>∃f:Fin 8->Bool,s=((k:Int),f)/\∀j,f j=true->∃i:Fin 8,i.val<k/\(j.val:Int)=π i) (λk s a d=>?_) (λs d=>?_) ⟨_,rfl,λj m=>by cases m⟩
 .obtain⟨f,rfl,g⟩:=d;have r:=h.oC ⟨k,a⟩;refine Cq.wp.yes (p:=(k:Int)<8) ŉ ?_;refine⟨ŉ,?_⟩;rw[Ó a,Cq.Zm,ā ŉ,Cq.Zm,ā ŉ];refine⟨r,?_⟩;rw[Cq.Zm,ā (Gy h a g)];refine⟨r,?_⟩;rw[ψ ŉ];exact⟨_,rfl,FH h a g⟩
 obtain⟨f,rfl,g⟩:=d;refine Cq.wp.no (p:=((8:Nat):Int)<8) ŉ ?_;show(Pe p π).wp _;show(Cq.next _ _).wp _;refine Cq.Zn p.length (λk s=>s=((k:Int),(p.take k).map (sR π))) (λk s a d=>?_) (λs d=>?_) ß
 .subst d;refine Cq.wp.yes (p:=(k:Int)<(p.length:Int)) ŉ ?_;refine⟨p[k],Λ a,?_⟩;refine(ZxC h p[k]).then ?_;have c:eX ((p.take k).map (sR π)) (fB π p[k].m) p[k].c=(p.take (k+1)).map (sR π):=by
   rw[Gf,<-ţ a,Ī]
   .rfl
   intro q n e;obtain⟨y,t,rfl⟩:=ğ.1 n;have l:=Lq h e;obtain⟨i,hi,rfl⟩:=ķ.1 t;simp only[č]at hi;rw[aah]at l;exact ħ.1 (Fa hp.ord) i k ŉ a ŉ l
  refine⟨⟨ZBM (Ur (hp.at a).m),?_⟩,?_⟩
  .rw[c,ć,č];simp only[small];omega
  show _=_;rw[c,ψ ŉ]
 subst d;refine Cq.wp.no (p:=((p.length:Nat):Int)<(p.length:Int)) ŉ ?_;refine⟨à π p,Zwd (oJ h hp) ?_,rfl⟩;rw[Ĥ,eF];exact(rn h hp.ord).1.symm
end Go.EL

namespace Go.EL
open Go.IntKind (i8 i16 i32 i64 u8 u16 u32 u64)
open Go Go.RowKit
theorem Tk{n:Int}(a:-8<=n)(h2:n<=8):(ZX n).Α (ü n):=Zs (Zr Zx5 a h2)
theorem mul_zero(m:M):mulM (λ_=>0) m=m:=by funext i;simp[mulM]
theorem Zww{c:Int}(g:-3<=c)(h2:c<=3){m:M}(f:Ok m):(Lf (ü c) [⟨ü 1,m⟩]).Α (if c=0 then[]else[⟨ü c,m⟩]):=by
 have d:=Zs (Zr F6 (x:=c) ŉ ŉ);by_cases e:c=0
 .subst e;rw[ă rfl];refine⟨([],0),⟨_,d,?_⟩,rfl⟩;rw[Cq.Zm,ă ĳ];rfl
 rw[ā e];refine⟨([⟨ü c,m⟩],0),⟨_,d,?_⟩,rfl⟩;rw[Cq.Zm,ā (by split<;>first|omega|(split<;>omega))];show(Cq.next _ _).wp _;refine Cq.Zn 1 (λk s=>s=((if k=0 then[]else[⟨ü c,m⟩]),(k:Int))) (λk s i d=>?_) (λs d=>?_) rfl
 .obtain rfl:k=0:=ŉ;subst d;refine⟨⟨ü 1,m⟩,⟨ŉ,rfl⟩,(m,0),?_,?_⟩
  .have:=Ri (a:=λ_=>0) (b:=m) (λ_=>⟨ŋ 0,show(0:Int)<=65535 by decide⟩) f (by rw[mul_zero];exact f);rwa [mul_zero]at this
  rw[Cq.Zm,ā (λh=>h rfl)];exact⟨⟨ü 1,m⟩,⟨ŉ,rfl⟩,_,Zs (Zr ZAt g h2),by simp[small],rfl⟩
 subst d;rfl
def jh(x:Zu):Prop:=∀v∈x.t,∀j:Fin 5,-128<=v j/\v j<=127
structure gQ (K:Int) (n:Nat) (d:Int) (k:Nat) (p:Ŀ Za):Prop where
 ord:jw p
 BR:∀t∈p,∃c:Int,t.c=ü c/\c≠0/\-K<=c/\c<=K
 yi:∀t∈p,(∀i,0<=t.m i)/\(∀i:Fin 8,n<=i.val->t.m i=0)/\fK t.m<=d
 len:p.length<=k
theorem Lx{m:M}(h:∀i,0<=m i):∀k,k<=8->0<=fG m k/\∀i:Fin 8,i.val<k->m i<=fG m k
 |0,_=>by simp[fG]
 |k+1,c=>by
  obtain⟨a,h2⟩:=Lx h k ŉ;have iv:k<8:=ŉ;have:=h ⟨k,iv⟩;simp only[fG,Ŷ iv];refine⟨ŉ,λi hi=>?_⟩;by_cases e:i.val=k
  .have:i=⟨k,iv⟩:=abl e;subst this;omega
  have:=h2 i ŉ;omega
theorem Sy{m:M}(h:∀i,0<=m i){d:Int}(a:fK m<=d)(h2:d<=65535):Ok m:=λi=>by have:=(Lx h 8 ŉ).2 i i.isLt;unfold fK at a;exact⟨h i,ŉ⟩
theorem gQ.ie{K:Int}{n:Nat}{d:Int}{k:Nat}{p:Ŀ Za}(h:gQ K n d k p)(i:K<=12)(j:d<=100)(l:k<=100):ω p:=
 ⟨h.ord,λt a=>⟨by obtain⟨c,e,f,g,h2⟩:=h.BR t a;exact⟨c,e,f,ŉ,ŉ⟩,Sy (h.yi t a).1 (h.yi t a).2.2 ŉ⟩,by have:=h.len;omega⟩
theorem Tw{p:Ŀ Za}{t y:Za}:y∈gj p t->y∈p\/y=t\/∃x∈p,x.m=t.m/\js x.c+js t.c≠0/\y=⟨ü (js x.c+js t.c),x.m⟩:=by
 induction p with
 |nil=>intro h;simp[gj]at h;exact .inr (.inl h)
 |cons x xs e=>
  intro h;simp only[gj]at h;split at h
  .rcases Ď.1 h with rfl|h
   .exact .inl ß
   rcases e h with h|h|⟨z,c,h2⟩
   .exact .inl (by simp[h])
   .exact .inr (.inl h)
   exact .inr (.inr ⟨z,by simp[c],h2⟩)
  split at h
  .rcases Ď.1 h with rfl|h
   .exact .inr (.inl rfl)
   exact .inl h
  have d:x.m=t.m:=um ŉ;split at h
  .exact .inl (by simp[h])
  rename_i a;rcases Ď.1 h with rfl|h
  .exact .inr (.inr ⟨x,ß,d,a,rfl⟩)
  exact .inl (by simp[h])
theorem gQ.add{K:Int}{n:Nat}{d:Int}{k:Nat}{p:Ŀ Za}(h:gQ K n d k p){c:Int}{m:M}(y:0<=K)(r:c≠0)(v:-3<=c)(h2:c<=3)(s:(∀i,0<=m i)/\(∀i:Fin 8,n<=i.val->m i=0)/\fK m<=d):
  gQ (K+3) n d (k+1) (gj p ⟨ü c,m⟩):=by
 refine⟨(SP h.ord).1,λt g=>?_,λt g=>?_,by have:=RA p ⟨ü c,m⟩;have:=h.len;omega⟩
 .rcases Tw g with g|rfl|⟨x,j,l,f,rfl⟩
  .obtain⟨a,e,q,u,k2⟩:=h.BR t g
   exact⟨a,e,q,ŉ,ŉ⟩
  .exact⟨c,rfl,r,ŉ,ŉ⟩
  obtain⟨a,e,q,u,k2⟩:=h.BR x j
  simp only[Lh,e]at f⊢
  exact⟨a+c,rfl,f,ŉ,ŉ⟩
 rcases Tw g with g|rfl|⟨x,j,l,f,rfl⟩
 .exact h.yi t g
 .exact s
 exact h.yi x j
theorem gQ.grow{K K':Int}{n:Nat}{d:Int}{k k':Nat}{p:Ŀ Za}(h:gQ K n d k p)(g:K<=K')(h2:k<=k'):gQ K' n d k' p:=
 ⟨h.ord,λt c=>by obtain⟨a,e,f,i,k2⟩:=h.BR t c;exact⟨a,e,f,ŉ,ŉ⟩,h.yi,by have:=h.len;omega⟩
theorem gQ.Oe{K:Int}{n:Nat}{d:Int}{k:Nat}{p:Ŀ Za}(h:gQ K n d k p)(i:K<=12){c:Int}{m:M}(f:-3<=c)(h2:c<=3):wT p ⟨ü c,m⟩:=λx g _=>by obtain⟨a,e,j,l,k2⟩:=h.BR x g;exact⟨a,c,e,rfl,ŉ,ŉ,f,h2⟩
def nX(n:Int):Int:=if n<0 then -n else n
theorem ZzJ{n:Int}(a:-128<=n)(h2:n<=127):(Gp n).Α (nX n):=by
 unfold Gp nX;by_cases h:n<0
 .rw[ă h,ă h];show _=_;simp(disch:=omega) only[wrap64];omega
 rw[ā h,ā h];exact wrap64 ŉ
theorem Br{a b:Int}(c:0<=a)(d:0<b):0<=Int.tmod a b/\Int.tmod a b<b:=by rw[Ŗ c];exact⟨Int.emod_nonneg _ ŉ,Int.emod_lt_of_pos _ d⟩
theorem DJ{a:Int}(c:-128<=a)(h2:a<=127):-3<=Int.tmod a 4/\Int.tmod a 4<=3:=by
 by_cases h:0<=a
 .have:=Br (b:=4) h ŉ;omega
 have:=Br (a:=-a) (b:=4) ŉ ŉ;rw[Int.neg_tmod]at this;omega
def gq(v:Fin 5->Int)(d:Int):Nat->Int×M
 |0=>(d,λ_=>0)
 |j+1=>((gq v d j).1-Int.tmod (nX (Ζ v ((j+1:Nat):Int))) ((gq v d j).1+1),ζ (gq v d j).2 j (Int.tmod (nX (Ζ v ((j+1:Nat):Int))) ((gq v d j).1+1)))
theorem L7{v:Fin 5->Int}{d:Int}(a:0<=d):∀j,j<=4->0<=(gq v d j).1/\(∀i,0<=(gq v d j).2 i)/\(∀i:Fin 8,j<=i.val->(gq v d j).2 i=0)/\fK (gq v d j).2+(gq v d j).1=d
 |0,_=>⟨a,λ_=>ŋ 0,λ_ _=>rfl,by simp[gq,fK,fG]⟩
 |j+1,h=>by
  obtain⟨g,c,h2,h3⟩:=L7 (v:=v) a j ŉ;have e:0<=nX (Ζ v ((j+1:Nat):Int)):=by unfold nX;split<;>omega
  have f:=Br e (show 0<(gq v d j).1+1 by omega);simp only[gq];refine⟨ŉ,λi=>?_,λi hi=>?_,?_⟩
  .simp only[ζ];split
   .exact f.1
   exact c i
  .simp only[ζ];rw[ā ŉ];exact h2 i ŉ
  unfold fK at h3⊢;rw[La _ _ _ 8 ŉ,Ŷ ŉ,ă ŉ,h2 _ ß];omega
def q6(v:Fin 5->Int)(d:Int)(n:Nat):M:=(gq v d n).2
theorem UU{v:Fin 5->Int}{d:Int}(c:0<=d){n:Nat}(e:n<=4):(∀i,0<=q6 v d n i)/\(∀i:Fin 8,n<=i.val->q6 v d n i=0)/\fK (q6 v d n)<=d:=by obtain⟨f,a,h2,h3⟩:=L7 (v:=v) c n e;exact⟨a,h2,by unfold q6;omega⟩
theorem Zwj{x:Zu}(t:jh x){n:Nat}(D:n<=4){d:Int}(c:0<=d)(A:d<=100){k:Nat}(m:k<x.t.length):
  (Ro x (n:Int) (k:Int) (d,0,λ_=>0)).Α (q6 x.t[k] d n):=by
 refine Cq.Zn n (λj s=>s=((gq x.t[k] d j).1,(j:Int),(gq x.t[k] d j).2)) (λj s B g=>?_) (λs g=>?_) rfl
 .subst g
  obtain⟨u,q,h2,h3⟩:=L7 (v:=x.t[k]) c j ŉ
  have y:=(Lx q 8 ŉ).1
  have f:j<8:=ŉ
  have hr:=t _ (Ă m)
  show(if(j:Int)<(n:Int)then _ else _:Cq _).wp _
  rw[Cq.Zm,ă ŉ,Cq.Zm,ă ŉ]
  have r:i64.wrap (1+(j:Int))=((j+1:Nat):Int):=by rw[wrap64 ŉ];omega
  have i:i64.wrap ((gq x.t[k] d j).1+1)=(gq x.t[k] d j).1+1:=wrap64 (by unfold fK at h3;omega)
  rw[r,i]
  have l:Ζ x.t[k] ((j+1:Nat):Int)=x.t[k] ⟨j+1,ŉ⟩:=zv _ ab0
  have C:=Br (a:=nX (Ζ x.t[k] ((j+1:Nat):Int))) (b:=(gq x.t[k] d j).1+1) (by unfold nX;split<;>omega) ŉ
  refine⟨x.t[k],Λ m,ŉ,_,ZzJ (by rw[l];exact(hr _).1) (by rw[l];exact(hr _).2),ŉ,ŉ,ŉ,?_⟩
  show _=_
  have h:∀e:Int,Ζ (ζ (gq x.t[k] d j).2 (j:Int).toNat e) (j:Int)=e:=λe=>by rw[Ó f];simp[ζ]
  rw[h,ψ ŉ,wrap64 (by unfold fK at h3;omega)]
  rfl
 subst g
 refine Cq.wp.no (p:=(n:Int)<(n:Int)) ŉ ?_
 rfl
def gU(x:Zu)(n:Nat)(d:Int):Nat->Ŀ Za
 |0=>[]
 |k+1=>match x.t[k]? with
  |some v=>if Int.tmod (Ζ v 0) 4=0 then gU x n d k else gj (gU x n d k) ⟨ü (Int.tmod (Ζ v 0) 4),q6 v d n⟩
  |none=>gU x n d k
theorem Db{x:Zu}(c:jh x){v:Fin 5->Int}(a:v∈x.t):-3<=Int.tmod (Ζ v 0) 4/\Int.tmod (Ζ v 0) 4<=3:=by have:=c v a 0;rw[zv v ĳ];exact DJ this.1 this.2
theorem Ll{x:Zu}(g:jh x){n:Nat}(f:n<=4){d:Int}(e:0<=d):∀k:Nat,gQ (3*k) n d k (gU x n d k)
 |0=>⟨List.Pairwise.nil,λt a=>by simp[gU]at a,λt a=>by simp[gU]at a,by simp[gU]⟩
 |k+1=>by
  have c:=Ll g f e k;simp only[gU];split
  .rename_i v i;have hr:=Db g (ń i);split
   .exact c.grow ŉ ŉ
   rename_i h;exact(c.add ŉ h hr.1 hr.2 (UU e f)).grow ŉ ŉ
  exact c.grow ŉ ŉ
def iK(x:Zu)(n:Nat)(d:Int)(k:Nat):Ŀ Za:=gU x n d (min k x.t.length)
theorem ZyK{x:Zu}(e:jh x){n:Nat}(c:n<=4){d:Int}(a:0<=d)(k:Nat):gQ (3*k) n d k (iK x n d k):=(Ll e c a _).grow ŉ ŉ
theorem LB{x:Zu}(g:jh x){n:Nat}(e:n<=4){d:Int}(a:0<=d)(p:d<=100){k:Nat}(t:k<=4):(Bk x (n:Int) d (k:Int)).Α (iK x n d k):=by
 refine Cq.Zn (min k x.t.length) (λj s=>s=(gU x n d j,(j:Int))) (λj s r f=>?_) (λs f=>?_) rfl
 .subst f;have km:j<x.t.length:=ŉ;have m:=Ll g e a j;have hr:=Db g (Ă km);show(if(j:Int)<(x.t.length:Int)then _ else _:Cq _).wp _;rw[Cq.Zm,ă ŉ,Cq.Zm,ă ŉ];show(Cq.next _ _).wp _;refine(Zwj g e a p km).then ?_;have q:i64.wrap (Int.tmod (Ζ x.t[j] 0) 4)=Int.tmod (Ζ x.t[j] 0) 4:=wrap64 ŉ;have l:=UU (v:=x.t[j]) a e;refine⟨x.t[j],Λ km,_,(by rw[q];exact Tk ŉ ŉ),_,Tk ŉ ŉ,_,Zww hr.1 hr.2 (Sy l.1 l.2.2 ŉ),?_⟩;have i:=m.len;by_cases c:Int.tmod (Ζ x.t[j] 0) 4=0
  .rw[ă c];refine⟨_,Ztg ŉ,?_⟩;show _=_;rw[ψ ŉ];simp only[gU,ą km,ă c]
  rw[ā c];refine⟨_,Rm ŉ (m.Oe ŉ hr.1 hr.2),?_⟩;show _=_;rw[ψ ŉ];simp only[gU,ą km,ā c]
 subst f;show(if((min k x.t.length:Nat):Int)<(x.t.length:Int)then _ else _:Cq _).wp _;by_cases h:min k x.t.length<x.t.length
 .rw[Cq.Zm,ă ŉ,Cq.Zm,ā ŉ];rfl
 rw[Cq.Zm,ā ŉ];rfl
end Go.EL

namespace Go.EL
open Go.IntKind (i8 i16 i32 i64 u8 u16 u32 u64)
open Go Go.RowKit
theorem qO{x:Int}(h:0<=x/\x<18446744073709551616):u64.wrap x=x:=by simp only[IntKind.wrap,IntKind.bits,IntKind.signed,ŵ,ś,aaR];omega
def uQ(x:Int):Ŀ Int:=if x=0 then[]else[x]
def ã(n:Int):Zg:=⟨decide (n<0),uQ (n.natAbs:Int)⟩
theorem Zy2(n:Int):ü n=⟨ã n,⟨false,[1]⟩⟩:=by
 unfold ü ã uQ;by_cases h:n=0
 .subst h;rfl
 rw[ā h,ā ŉ]
end Go.EL

namespace Go.EL
open Go.IntKind (i8 i16 i32 i64 u8 u16 u32 u64)
open Go Go.RowKit
theorem Zyf{a b:M}(f:Ok a)(g:Ok b)(d:Ok (mulM a b)):(Kk a b).Α (mulM a b,0):=by
 show(Cq.next _ _).wp _;refine Cq.Zn 8 (λk s=>s=((k:Int),lV k (mulM a b) a)) (λk s c e=>?_) (λs e=>?_) (by rw[Uf];rfl)
 .subst e;have h:=f ⟨k,c⟩;have h2:=g ⟨k,c⟩;rw[Cq.Zm,ă ŉ];refine⟨ŉ,ŉ,ŉ,?_⟩;show _=_;rw[ψ ŉ,Ó c,Ó c,V0,wrap64 ŉ];exact đ (Prod.mk _) (Ue (mulM a b) a c)
 subst e;rw[Cq.Zm,ā ŉ,UK _ _ ŉ];exact⟨true,SN d,rfl⟩
end Go.EL

namespace Go.EL
open Go.IntKind (i8 i16 i32 i64 u8 u16 u32 u64)
open Go Go.RowKit
def ò:Ŀ Za->Nat
 |[]=>0
 |t::p=>Nat.gcd (Í t.c).natAbs (ò p)
def jI(p:Ŀ Za):Int:=match p with
 |[]=>1
 |t::_=>if Í t.c<0 then -1 else 1
def fN(s:Int)(g:Nat)(c:Zf):Zf:=ü (s*(Í c / (g:Int)))
def Υ(p:Ŀ Za):Ŀ Za:=p.map λt=>⟨fN (jI p) (ò p) t.c,t.m⟩
theorem ZyH:(á 0 12 λa=>á (-12) 12 λb=>runs 60 (xl (ã a) (ã b)) (ã (Nat.gcd a.natAbs b.natAbs:Nat)))=true:=by decide +kernel
theorem Zy8:(á 0 12 λa=>á (-12) 12 λb=>runs 60 (xJ (ã a) (ã b)) (ã (Nat.gcd a.natAbs b.natAbs:Nat)))=true:=by decide +kernel
theorem ZyI:(á 1 12 λg=>runs 60 (EA (ã 1) (ã g)) (⟨ã 1,ã g⟩,0)&&runs 60 (EA (ã (-1)) (ã g)) (⟨ã (-1),ã g⟩,0))=true:=by decide +kernel
theorem Zy9:(á 1 12 λg=>runs 60 (Gl (ã 1) (ã g)) (⟨ã 1,ã g⟩,0)&&runs 60 (Gk ⟨ã 1,ã g⟩) ⟨ã (-1),ã g⟩)=true:=by decide +kernel
theorem Zxk:(á 1 12 λg=>á (-12) 12 λn=>n == 0 || n % g != 0 || (runs 60 (Z7 ⟨ã 1,ã g⟩ (ü n)) (ü (1*(n / g)))&&runs 60 (Z7 ⟨ã (-1),ã g⟩ (ü n)) (ü (-1*(n / g)))))=true:=by decide +kernel
theorem ZxN:(á 1 12 λg=>á (-12) 12 λn=>n == 0 || n % g != 0 || (runs 60 (rl ⟨ã 1,ã g⟩ (ü n)) (ü (1*(n / g)))&&runs 60 (rl ⟨ã (-1),ã g⟩ (ü n)) (ü (-1*(n / g)))))=true:=by decide +kernel
theorem Ge:(xl (ã 1) ⟨false,[1]⟩).Α (ã 1)/\(AD ⟨false,[1]⟩ (ã 1)).Α (ã 1,ã 0,0)/\(EZ (ã 1) (ã 1)).Α (ã 1)/\(yJ (ã 1)).Α (ã (-1)):=⟨Cq.Α.mn 60 (by decide +kernel),Cq.Α.mn 60 (by decide +kernel),Cq.Α.mn 60 (by decide +kernel),Cq.Α.mn 60 (by decide +kernel)⟩
theorem F4:(xJ (ã 1) ⟨false,[1]⟩).Α (ã 1)/\(yV ⟨false,[1]⟩ (ã 1)).Α (ã 1,ã 0,0)/\(rk (ã 1) (ã 1)).Α (ã 1)/\(yV (ã 1) ⟨false,[1]⟩).Α (ã 1,ã 0,0):=⟨Cq.Α.mn 60 (by decide +kernel),Cq.Α.mn 60 (by decide +kernel),Cq.Α.mn 60 (by decide +kernel),Cq.Α.mn 60 (by decide +kernel)⟩
theorem ZxM:(á (-12) 12 λn=>runs 60 (rk (ã n) (ã 1)) (ã n))=true:=by decide +kernel
theorem T1:(á 1 12 λg=>runs 60 (ZH ⟨ã 1,ã g⟩) 1&&runs 60 (ZH ⟨ã (-1),ã g⟩) (-1)&&runs 60 (oI ⟨ã 1,ã g⟩) 1&&runs 60 (oI ⟨ã (-1),ã g⟩) (-1))=true:=by decide +kernel
theorem ω.num{p:Ŀ Za}(h:ω p){t:Za}(d:t∈p):t.c=ü (Í t.c)/\Í t.c≠0/\-12<=Í t.c/\Í t.c<=12:=by
 obtain⟨⟨n,e,a,c,h2⟩,_⟩:=h.tu t d;have:Í t.c=n:=by rw[e,pH]
 rw[this];exact⟨e,a,c,h2⟩
theorem ω.parts{p:Ŀ Za}(h:ω p){t:Za}(a:t∈p):t.c.num=ã (Í t.c)/\t.c.den=⟨false,[1]⟩:=by
 obtain⟨⟨n,e,_⟩,_⟩:=h.tu t a;have:Í t.c=n:=by rw[e,pH]
 rw[this,e,Zy2];exact⟨rfl,rfl⟩
theorem ω.gv{p:Ŀ Za}(h:ω p):Ð p=true:=by have f:=h.len;unfold Ð;rw[Ċ];refine⟨Ą ŉ,Ć.2 λt d=>?_⟩;obtain⟨e,a,c,h2⟩:=h.num d;rw[e];exact ZvH a c h2
theorem FD:∀{p:Ŀ Za}{t:Za},t∈p->ò p ∣ (Í t.c).natAbs
 |x::p,t,h=>by
  rcases Ď.1 h with rfl|h
  .exact Nat.gcd_dvd_left _ _
  exact Nat.dvd_trans (Nat.gcd_dvd_right _ _) (FD h)
theorem xy{p:Ŀ Za}(h:ω p)(a:p≠[]):1<=ò p/\ò p<=12:=by
 match p,a with
 |t::p,_=>
  have c:=FD (p:=t::p) (t:=t) ß;obtain⟨e,d,f,h2⟩:=h.num (t:=t) ß;have:=Nat.le_of_dvd ŉ c;have:=Nat.pos_of_dvd_of_pos c ŉ;omega
theorem xN{p:Ŀ Za}{t:Za}(a:t∈p):Í t.c % (ò p:Int)=0:=Int.emod_eq_zero_of_dvd (Int.ofNat_dvd_left.2 (FD a))
theorem Mr(p:Ŀ Za):jI p=1\/jI p = -1:=by
 unfold jI;split
 .exact .inl rfl
 split
 .exact .inr rfl
 exact .inl rfl
theorem TN(p:Ŀ Za)(k:Nat)(h:k<p.length):ò (p.take (k+1))=Nat.gcd (ò (p.take k)) (Í p[k].c).natAbs:=by
 rw[Ĉ h];generalize p.take k=l;generalize p[k]=t;induction l with
 |nil=>simp[ò]
 |cons x l a=>simp only[ĸ,ò,a];rw[Nat.gcd_assoc]
theorem TM{p:Ŀ Za}(h:ω p)(k:Nat):ò (p.take k)<=12:=by
 by_cases a:p.take k=[]
 .rw[a];exact ĝ _
 have e:∃t,t∈p.take k:=abi _ a;obtain⟨t,c⟩:=e;have d:=FD c;obtain⟨_,f,g,h2⟩:=h.num (Ŝ c);have:=Nat.le_of_dvd ŉ d;omega
theorem UM{m:M}(h:Ok m):Ok (mulM (λ_=>0) m):=by rw[mul_zero];exact h
theorem Oj:Ok λ_=>0:=λ_=>⟨ŋ 0,(by decide:(0:Int)<=65535)⟩
theorem RO{c:Zf}{f:Zf->Zf}{p:Ŀ Za}(j:p.length<=100)(e:∀t∈p,Ok t.m){s:Int}(d:(ZH c).Α s)(g:s≠0)(i:∀t∈p,(Z7 c t.c).Α (f t.c)):
  (JD c (λ_=>0) p).Α (p.map λt=>⟨f t.c,t.m⟩,0):=by
 refine⟨s,d,Cq.wp.no g ⟨⟨ŉ,ŉ⟩,?_⟩⟩
 refine Cq.Zn p.length (λk s=>s=((p.take k).map λt=>⟨f t.c,t.m⟩,(k:Int))) (λk s a d=>?_) (λs d=>?_) rfl
 .subst d
  refine Cq.wp.yes ŉ ⟨p[k],Λ a,_,Zyf Oj (e _ (Ă a)) (UM (e _ (Ă a))),Cq.wp.no (λh=>h rfl) ⟨_,i _ (Ă a),?_,?_⟩⟩
  .simp only[Ā,ć,č,ė,small];omega
  show _=_
  rw[ψ ŉ,mul_zero,Ĉ a,Ī]
  rfl
 subst d
 refine Cq.wp.no ŉ ?_
 show _=_
 rw[Ę (ĉ _)]
theorem RZ{c:Zf}{f:Zf->Zf}{p:Ŀ Za}(j:p.length<=100)(e:∀t∈p,Ok t.m){s:Int}(d:(oI c).Α s)(g:s≠0)(i:∀t∈p,(rl c t.c).Α (f t.c)):
  (FN c (λ_=>0) p).Α (p.map λt=>⟨f t.c,t.m⟩,0):=by
 refine⟨s,d,Cq.wp.no g ?_⟩
 refine Cq.Zn p.length (λk s=>s=((p.take k).map λt=>⟨f t.c,t.m⟩,(k:Int))) (λk s a d=>?_) (λs d=>?_) rfl
 .subst d
  refine Cq.wp.yes ŉ ⟨p[k],Λ a,_,Ri Oj (e _ (Ă a)) (UM (e _ (Ă a))),Cq.wp.no (λh=>h rfl) ⟨p[k],Λ a,_,i _ (Ă a),?_,?_⟩⟩
  .simp only[Ā,ć,č,ė,small];omega
  show _=_
  rw[ψ ŉ,mul_zero,Ĉ a,Ī]
  rfl
 subst d
 refine Cq.wp.no ŉ ?_
 show _=_
 rw[Ę (ĉ _)]
theorem ω.mono{p:Ŀ Za}(h:ω p):∀t∈p,Ok t.m:=λt a=>(h.tu t a).m
theorem Tn{p:Ŀ Za}(a:0<p.length):(p[0]'a)∈p:=Ă a
theorem Tc{p:Ŀ Za}(a:0<p.length):jI p=if Í (p[0]'a).c<0 then -1 else 1:=by
 match p,a with
 |t::p,_=>rfl
theorem Kr{p:Ŀ Za}(h:ω p)(f:p≠[]):(AH p).Α (Υ p):=by
 have u:=h.len;have m:0<p.length:=Š.2 f;obtain⟨A,B⟩:=xy h f;refine Cq.wp.no ŉ ⟨ã 0,Cq.Α.mn 20 (by decide +kernel),ã 1,Cq.Α.mn 20 (by decide +kernel),?_⟩;show(PS p (0,ã 0,ã 1)).wp _;refine Cq.Zn p.length (λk s=>s=((k:Int),ã (ò (p.take k):Int),ã 1)) (λk s l c=>?_) (λs c=>?_) rfl
 .subst c;obtain⟨e,g,i,j⟩:=h.num (Ă l);obtain⟨y,r⟩:=h.parts (Ă l);have C:=TM h k;have hr:=Zr (Zr ZyH (x:=(ò (p.take k):Int)) ŉ ŉ) i j;refine Cq.wp.yes ŉ ⟨p[k],Λ l,ã (Nat.gcd (ò (p.take k):Int).natAbs (Í p[k].c).natAbs:Nat),(by rw[y];exact Zs hr),ã 1,(by rw[r];exact Ge.1),(ã 1,ã 0,0),(by rw[r];exact Ge.2.1),ã 1,Ge.2.2.1,?_⟩;show _=_;rw[ψ ŉ,TN p k l];simp only[abe]
 subst c;refine Cq.wp.no ŉ ?_;rw[Ę (ĉ _)];show(JK p (ã (ò p:Int)) (ã 1)).Α _;unfold JK;obtain⟨e,g,i,j⟩:=h.num (Tn m);have c:=Zr Tb i j;rw[show(Í p[0].c == 0)=false by simpa using g,Ľ]at c;have n:=Zr ZyI (x:=(ò p:Int)) ŉ ŉ;have q:=Zr T1 (x:=(ò p:Int)) ŉ ŉ;simp only[Ċ]at n q;have v:∀t∈p,(Z7 ⟨ã 1,ã (ò p:Int)⟩ t.c).Α (fN 1 (ò p) t.c)/\(Z7 ⟨ã (-1),ã (ò p:Int)⟩ t.c).Α (fN (-1) (ò p) t.c):=λt d=>by obtain⟨e,g,i,j⟩:=h.num d;have:=Zr (Zr Zxk (x:=(ò p:Int)) ŉ ŉ) i j;rw[show(Í t.c == 0)=false by simpa using g,show(Í t.c % (ò p:Int) != 0)=false by simpa using xN d,Ľ,Ľ,Ċ]at this;unfold fN;rw[e,pH];exact⟨Zs this.1,Zs this.2⟩
 refine⟨p[0],⟨ŉ,by simp[m]⟩,_,(by rw[e];exact Zs c),?_⟩;unfold Υ;rw[Tc m];by_cases a:Í p[0].c<0
 .rw[ă a,ă a];refine Cq.wp.yes ĳ ⟨_,Ge.2.2.2,?_⟩;exact⟨_,Zs n.2,_,RO u h.mono (Zs q.1.1.2) ĳ (λt d=>(v t d).2),rfl⟩
 rw[ā a,ā a,ā g];refine Cq.wp.no ĳ ?_;exact⟨_,Zs n.1,_,RO u h.mono (Zs q.1.1.1) ĳ (λt d=>(v t d).1),rfl⟩
theorem PN{p:Ŀ Za}(h:ω p):(Fk p).Α (Υ p):=by
 have v:=h.len;by_cases f:p=[]
 .subst f;exact Cq.wp.yes rfl rfl
 have n:0<p.length:=Š.2 f;obtain⟨A,B⟩:=xy h f;refine Cq.wp.no ŉ ⟨ã 1,Cq.Α.mn 20 (by decide +kernel),ã 0,Cq.Α.mn 20 (by decide +kernel),?_⟩;refine Cq.Zn p.length (λk s=>s=((k:Int),ã 1)) (λk s c d=>?_) (λs d=>?_) rfl
 .subst d;obtain⟨e,l,i,j⟩:=h.num (Ă c);obtain⟨u,m⟩:=h.parts (Ă c);refine Cq.wp.yes ŉ ⟨p[k],Λ c,p[k],Λ c,ã 1,(by rw[m];exact F4.1),(ã 1,ã 0,0),(by rw[m];exact F4.2.1),ã 1,F4.2.2.1,?_⟩;show _=_;rw[ψ ŉ]
 subst d;refine Cq.wp.no ŉ ?_;show(Qb p (ã 0) (ã 1)).Α _;refine Cq.Zn p.length (λk s=>s=((k:Int),ã (ò (p.take k):Int))) (λk s c d=>?_) (λs d=>?_) rfl
 .subst d;obtain⟨e,l,i,j⟩:=h.num (Ă c);have C:=TM h k;have hr:=Zr (Zr Zy8 (x:=(ò (p.take k):Int)) ŉ ŉ) i j;obtain⟨u,m⟩:=h.parts (Ă c);refine Cq.wp.yes ŉ ⟨p[k],Λ c,(ã 1,ã 0,0),(by rw[m];exact F4.2.2.2),p[k],Λ c,ã (Í p[k].c),(by rw[u];exact Zs (Zr ZxM i j)),ã (Nat.gcd (ò (p.take k):Int).natAbs (Í p[k].c).natAbs:Nat),Zs hr,?_⟩;show _=_;rw[ψ ŉ,TN p k c];simp only[abe]
 subst d;refine Cq.wp.no ŉ ?_;rw[Ę (ĉ _)];show(JU p (ã 1) (ã (ò p:Int))).Α _;unfold JU;obtain⟨e,l,i,j⟩:=h.num (Tn n);have d:=Zr F6 (x:=Í p[0].c) ŉ ŉ;have q:=Zr Zy9 (x:=(ò p:Int)) ŉ ŉ;have r:=Zr T1 (x:=(ò p:Int)) ŉ ŉ;simp only[Ċ]at q r;have y:∀t∈p,(rl ⟨ã 1,ã (ò p:Int)⟩ t.c).Α (fN 1 (ò p) t.c)/\(rl ⟨ã (-1),ã (ò p:Int)⟩ t.c).Α (fN (-1) (ò p) t.c):=λt g=>by obtain⟨e,l,i,j⟩:=h.num g;have:=Zr (Zr ZxN (x:=(ò p:Int)) ŉ ŉ) i j;rw[show(Í t.c == 0)=false by simpa using l,show(Í t.c % (ò p:Int) != 0)=false by simpa using xN g,Ľ,Ľ,Ċ]at this;unfold fN;rw[e,pH];exact⟨Zs this.1,Zs this.2⟩
 refine⟨_,Zs q.1,p[0],⟨ŉ,by simp[n]⟩,_,(by rw[e];exact Zs d),?_⟩;unfold Υ;rw[Tc n];by_cases a:Í p[0].c<0
 .rw[ă a,ă a];refine Cq.wp.yes ĳ ⟨_,Zs q.2,?_⟩;exact⟨_,RZ v h.mono (Zs r.2) ĳ (λt g=>(y t g).2),rfl⟩
 rw[ā a,ā a,ā l];refine Cq.wp.no ĳ ?_;exact⟨_,RZ v h.mono (Zs r.1.2) ĳ (λt g=>(y t g).1),rfl⟩
end Go.EL

namespace Go.EL
open Go.IntKind (i8 i16 i32 i64 u8 u16 u32 u64)
open Go Go.RowKit
theorem LZ(s:Int)(g:Nat)(c:Zf):Í (fN s g c)=s*(Í c / (g:Int)):=pH _
theorem Mz{n:Int}{g:Nat}(d:1<=g)(c:n % (g:Int)=0)(a:n≠0):n / (g:Int)≠0:=λh=>by have:=et n g;rw[h,c]at this;simp at this;exact a this.symm
theorem ZBj{n:Int}{g:Nat}(c:1<=g)(a:-12<=n)(h2:n<=12):-12<=n / (g:Int)/\n / (g:Int)<=12:=by refine⟨(Int.le_ediv_iff_mul_le ŉ).2 ?_,ec (Int.ediv_le_ediv ŉ h2) (Int.ediv_le_self _ ĳ)⟩;have:(g:Int)*12 ≥ 12:=ŉ;omega
theorem L5(p:Ŀ Za):(Υ p).length=p.length:=ć _
theorem Bn{p:Ŀ Za}:Υ p=[]↔p=[]:=by unfold Υ;simp
theorem ZyY{p:Ŀ Za}{t:Za}(h:t∈Υ p):∃x∈p,t=⟨fN (jI p) (ò p) x.c,x.m⟩:=by obtain⟨x,a,h2⟩:=ğ.1 h;exact⟨x,a,h2.symm⟩
theorem vD{p:Ŀ Za}(h:ω p):ω (Υ p) where
 ord:=by unfold Υ;rw[Ÿ];exact h.ord
 tu:=λt f=>by
  obtain⟨x,a,rfl⟩:=ZyY f;have c:p≠[]:=λe=>by rw[e]at a;cases a
  obtain⟨d,l⟩:=xy h c;obtain⟨e,i,j,k⟩:=h.num a;have m:=Mz d (xN a) i;obtain⟨n,q⟩:=ZBj (g:=ò p) d j k;refine⟨⟨_,rfl,?_,?_,?_⟩,h.mono x a⟩;all_goals rcases Mr p with s|s<;>rw[s]<;>omega
 len:=by rw[L5];exact h.len
theorem Sk(p:Ŀ Za):∀k,fL (Υ p) k=fL p k
 |0=>rfl
 |k+1=>by unfold fL;rw[Sk p k];unfold Υ;rw[aaE];cases p[k]?<;>rfl
theorem xE(p:Ŀ Za):gl (Υ p)=gl p:=by unfold gl;rw[L5,Sk]
theorem Q3(p:Ŀ Za):∀k,ib (Υ p) k=ib p k
 |0=>rfl
 |k+1=>by unfold ib;rw[Q3 p k];unfold Υ;rw[aaE];cases p[k]?<;>rfl
theorem ZxG(p:Ŀ Za):ï (Υ p)=ï p:=by unfold ï;rw[L5,Q3]
theorem Us(p:Ŀ Za)(n:Int):Ï (Υ p) n=Ï p n:=by unfold Ï;rw[ZxG,xE]
theorem KY{s:Int}(c:s=1\/s = -1){g:Nat}(e:1<=g):∀{p:Ŀ Za},(∀t∈p,Í t.c % (g:Int)=0)->ò (p.map λt=>⟨fN s g t.c,t.m⟩)*g=ò p
 |[],_=>dO _
 |t::p,h=>by
  have j:=KY c e (p:=p) (λx i=>h x (by simp[i]));have f:=h t ß;simp only[ġ,ò];rw[<-j,<-Nat.gcd_mul_right,LZ];congr 1;have d:(s*(Í t.c / (g:Int))).natAbs=(Í t.c / (g:Int)).natAbs:=by rcases c with rfl|rfl<;>simp
  rw[d];have a:=et (Í t.c) g;rw[f,aaF]at a;rw[<-a,Int.natAbs_mul,a,abe,abC]
theorem ZyX{p:Ŀ Za}(h:ω p)(a:p≠[]):ò (Υ p)=1:=by obtain⟨c,e⟩:=xy h a;have:=KY (Mr p) c (p:=p) (λt d=>xN d);exact Nat.eq_of_mul_eq_mul_right c (by rw[Nat.one_mul];exact this)
theorem ZyZ{p:Ŀ Za}(h:ω p):jI (Υ p)=1:=by
 match p,h with
 |[],_=>rfl
 |t::q,h=>
  obtain⟨e,j,l,m⟩:=h.num (t:=t) ß;obtain⟨i,k⟩:=xy h ß;have c:=xN (p:=t::q) (t:=t) ß;show(if Í (fN _ _ t.c)<0 then(-1:Int)else 1)=1;rw[LZ,ā];have n:=Mz i c j;have f:=et (Í t.c) (ò (t::q));rw[c,aaF]at f;unfold jI;dsimp only;generalize ò (t::q)=g at *;generalize Í t.c / (g:Int)=z at *;by_cases d:Í t.c<0
  .rw[ă d];have:¬0<z:=λa=>by
    have:=Int.mul_pos (show(0:Int)<(g:Int) by omega) a;omega
   omega
  rw[ā d];have:¬z<0:=λa=>by have:=abj (show(0:Int)<(g:Int) by omega) a;omega
  omega
theorem YP{p:Ŀ Za}(h:ω p){t:Za}(a:t∈p):fN 1 1 t.c=t.c:=by obtain⟨e,_⟩:=h.num a;unfold fN;rw[aax,Int.natCast_one,Int.ediv_one];exact e.symm
theorem S7{p:Ŀ Za}(h:ω p):Υ (Υ p)=Υ p:=by
 by_cases a:p=[]
 .subst a;rfl
 have c:=vD h;show(Υ p).map (λt=>(⟨fN (jI (Υ p)) (ò (Υ p)) t.c,t.m⟩:Za))=Υ p;rw[ZyX h a,ZyZ h];refine(ŭ λt d=>?_).trans (List.map_id _);rw[YP c d];rfl
def hV(l:Ŀ (Ŀ Za)):Prop:=l.Pairwise λa b=>ë a b<0
theorem Q7:∀{l m:Ŀ (Ŀ Za)},hV l->hV m->(∀x,x∈l↔x∈m)->l=m
 |[],[],_,_,_=>rfl
 |[],y::m,_,_,h=>by have:=(h y).2 ß;cases this
 |x::l,[],_,_,h=>by have:=(h x).1 ß;cases this
 |x::l,y::m,i,h2,h=>by
  obtain⟨a1,a2⟩:=Į.1 i;obtain⟨d,g⟩:=Į.1 h2;have e:x=y:=by
   rcases Ď.1 ((h x).1 ß)with e|n
   .exact e
   rcases Ď.1 ((h y).2 ß)with e|p
   .exact e.symm
   have q:=d x n;have r:=a1 y p;have:=qN x y;omega
  subst e;have f:∀{z:Ŀ Za}{k:Ŀ (Ŀ Za)},(∀a∈k,ë z a<0)->z ∉ k:=λj c=>by have:=j _ c;rw[xx]at this;omega
  rw[Q7 a2 g λz=>⟨λc=>?_,λc=>?_⟩]
  .rcases Ď.1 ((h z).1 (by simp[c]))with e|tU
   .subst e;exact absurd c (f a1)
   exact tU
  rcases Ď.1 ((h z).2 (by simp[c]))with e|tU
  .subst e;exact absurd c (f d)
  exact tU
theorem TD:∀{l:Ŀ (Ŀ Za)}{x:Ŀ Za},(x::l).Pairwise (λa b=>ë a b<=0)->(∀p∈x::l,Ð p=true)->hV (x::jV x l)/\∀z,z∈x::jV x l↔z∈x::l
 |[],x,_,_=>⟨Ū _ _,λ_=>Iff.rfl⟩
 |y::l,x,h,d=>by
  obtain⟨a1,a2⟩:=Į.1 h;obtain⟨f,g⟩:=TD a2 (λp hp=>d p (by simp at hp⊢;exact .inr hp));unfold jV;by_cases e:ë y x=0
  .rw[ă e];have:y=x:=Bd (d y ß) (d x ß) e;subst this;refine⟨f,λz=>?_⟩;rw[g z];simp
  rw[ā e];have c:ë x y<0:=by have:=a1 y ß;have:=qN x y;omega
  refine⟨Į.2 ⟨λz i=>?_,f⟩,λz=>?_⟩
  .rcases Ď.1 i with rfl|tU
   .exact c
   exact(yZ x y z ŉ (by have:=(Į.1 f).1 z tU;omega)).2 (.inl c)
  have:=g z;simp only[Ď]at this⊢;rw[this]
def er(l:Ŀ (Ŀ Za)):Ŀ (Ŀ Za):=gk (jE l)
theorem F7{l:Ŀ (Ŀ Za)}(d:∀p∈l,Ð p=true):hV (er l)/\∀z,z∈er l↔z∈l:=by
 have a:∀z,z∈jE l↔z∈l:=λz=>(vt l).mem_iff;have c:=KB l;unfold er;generalize jE l=m at *;match m,a,c with
 |[],a,_=>exact⟨List.Pairwise.nil,a⟩
 |x::m,a,c=>
  obtain⟨e,f⟩:=TD c (λp hp=>d p ((a p).1 hp));exact⟨e,λz=>(f z).trans (a z)⟩
theorem VU{l m:Ŀ (Ŀ Za)}(a:∀p∈l,Ð p=true)(c:hV m)(h:∀z,z∈m↔z∈l):m=er l:=by obtain⟨d,e⟩:=F7 a;exact Q7 c d λz=>(h z).trans (e z).symm
theorem GA(l:Ŀ (Ŀ Za)):(er l).length<=l.length:=ň TC (aa0 (vt l).length_eq)
end Go.EL

namespace Go.EL
open Go.IntKind (i8 i16 i32 i64 u8 u16 u32 u64)
open Go Go.RowKit
theorem ZxK:(á (-12) 12 λa=>a == 0 || á (-12) 12 λb=>b == 0 || runs 40 (vF (ü a) (ü b)) (if a<b then -1 else if a=b then 0 else 1))=true:=by decide +kernel
theorem Zv6:(á (-12) 12 λa=>a == 0 || á (-12) 12 λb=>b == 0 || runs 40 (Bj (ü a) (ü b)) (decide (a=b)))=true:=by decide +kernel
theorem SH{a b:Zf}(c:fu a=true)(d:fu b=true):(vF a b).Α (hM a b):=by obtain⟨m,rfl,e,f,g⟩:=ug c;obtain⟨n,rfl,i,j,k⟩:=ug d;have h:=Zr ZxK f g;rw[show(m == 0)=false by simpa using e,Ľ]at h;have h':=Zr h j k;rw[show(n == 0)=false by simpa using i,Ľ]at h';unfold hM;rw[pH,pH];exact Zs h'
theorem Zvq{a b:Zf}(c:fu a=true)(d:fu b=true):(Bj a b).Α (decide (hM a b=0)):=by
 obtain⟨m,rfl,f,g,i⟩:=ug c;obtain⟨n,rfl,j,k,l⟩:=ug d;have h:=Zr Zv6 g i;rw[show(m == 0)=false by simpa using f,Ľ]at h;have h':=Zr h k l;rw[show(n == 0)=false by simpa using j,Ľ]at h';have e:decide (hM (ü m) (ü n)=0)=decide (m=n):=by
  unfold hM;rw[pH,pH];by_cases e:m=n
  .subst e;simp
  rw[Č e,Č];split
  .decide
  decide
 rw[e];exact Zs h'
theorem SJ{p q:Ŀ Za}(hp:Ð p=true)(l:Ð q=true):(Gn p q).Α (ë p q):=by
 have t:=vq hp;have u:=vq l;refine(RS p q 0).mono (p:=λo=>match o with|.inl v=>v=ë p q|.inr ()=>∃k,(k=p.length\/k=q.length)/\k<=p.length/\k<=q.length/\ë p q=ë (p.drop k) (q.drop k)) (λo h=>?_) (Cq.Zn p.length (λk s=>s=(k:Int)/\k<=p.length/\k<=q.length/\ë p q=ë (p.drop k) (q.drop k)) ?_ ?_ ⟨rfl,ĝ _,ĝ _,rfl⟩)
 .match o,h with
  |.inl v,h=>exact h
  |.inr (),⟨k,r,i,h2,h3⟩=>
   show(Kv p q).Α _;unfold Kv;rw[h3];by_cases m:p.length<q.length
   .refine Cq.wp.yes ŉ ?_;have:k=p.length:=ŉ;subst this;show(-1:Int)=_;rw[Ķ (ĉ _),ĭ m];rfl
   refine Cq.wp.no ŉ ?_;have:k=q.length:=ŉ;subst this;by_cases n:q.length<p.length
   .refine Cq.wp.yes ŉ ?_;show(1:Int)=_;rw[Ķ (ĉ q.length),ĭ n];rfl
   refine Cq.wp.no ŉ ?_;show(0:Int)=_;rw[Ķ (ĉ q.length),Ķ ŉ];rfl
 .rintro k s d ⟨rfl,i,h2,h3⟩;refine Cq.wp.yes ŉ ?_;by_cases a:k<q.length
  .refine Cq.wp.yes ŉ ?_;have c:=Fy p q d a;show(RT p q (k:Int)).wp _;refine⟨_,Λ d,_,Λ a,_,AE _ _,?_⟩;by_cases g:p[k].m=q[k].m
   .refine Cq.wp.no (by rw[g,Bc];simp) ⟨_,Λ d,_,Λ a,_,SH (tH hp d) (tH l a),?_⟩;have j:fF p[k] q[k]=hM p[k].c q[k].c:=ă g;rw[j]at c;by_cases e:hM p[k].c q[k].c=0
    .rw[ă e]at c;refine Cq.wp.no ŉ ?_;exact⟨ψ ŉ,ŉ,ŉ,h3.trans c⟩
    rw[ā e]at c;refine Cq.wp.yes e ⟨_,Λ d,_,Λ a,_,SH (tH hp d) (tH l a),?_⟩;exact(h3.trans c).symm
   have f:¬Ú p[k].m q[k].m=0:=λe=>g (um e);have j:fF p[k] q[k]=Ú p[k].m q[k].m:=ā g;rw[j,ā f]at c;refine Cq.wp.yes f ⟨_,Λ d,_,Λ a,_,AE _ _,?_⟩;exact(h3.trans c).symm
  refine Cq.wp.no ŉ ?_;exact⟨k,.inr ŉ,i,h2,h3⟩
 rintro s ⟨rfl,i,h2,h3⟩;refine Cq.wp.no ŉ ?_;exact⟨p.length,.inl rfl,i,h2,h3⟩
theorem Zvp{s t:Za}(a:fu s.c=true)(c:fu t.c=true):(EF s t).Α (decide (fF s t=0)):=by
 unfold EF fF;by_cases h:s.m=t.m
 .refine Cq.wp.yes h ?_;simp only[ă h];exact⟨_,Zvq a c,rfl⟩
 refine Cq.wp.no h ?_;simp only[ā h];show false=_;have:¬Ú s.m t.m=0:=λe=>h (um e);simp[this]
theorem Ko{p q:Ŀ Za}(hp:Ð p=true)(f:Ð q=true):(ub p q).Α (decide (ë p q=0)):=by
 have j:=vq hp;have l:=vq f;by_cases i:p.length=q.length
 .refine Cq.wp.no ŉ ?_;refine(Rr p q 0).mono (p:=λo=>match o with|.inl v=>v=decide (ë p q=0)|.inr ()=>ë p q=0) (λo h=>?_) (Cq.Zn p.length (λk s=>s=(k:Int)/\k<=p.length/\ë p q=ë (p.drop k) (q.drop k)) ?_ ?_ ⟨rfl,ĝ _,rfl⟩)
  .match o,h with
   |.inl v,h=>exact h
   |.inr (),h=>show true=_;rw[Ą h]
  .rintro k s d ⟨rfl,g,h3⟩;have a:k<q.length:=ŉ;refine Cq.wp.yes ŉ ⟨_,Λ d,_,Λ a,_,Zvp (tH hp d) (tH f a),?_⟩;have c:=Fy p q d a;by_cases e:fF p[k] q[k]=0
   .rw[ă e]at c;rw[Ą e];refine Cq.wp.no ĳ ?_;exact⟨ψ ŉ,ŉ,h3.trans c⟩
   rw[ā e]at c;rw[Č e];refine Cq.wp.yes ĳ ?_;show false=_;rw[h3,c,Č e]
  rintro s ⟨rfl,g,h3⟩;refine Cq.wp.no ŉ ?_;show ë p q=0;rw[h3,Ķ (ĉ _),Ķ ŉ];rfl
 refine Cq.wp.yes ŉ ?_;show false=_;rw[Č (λh=>i (Lw h))]
def hJ(plain:Bool)(q:Ŀ Za):Bool:=!q.isEmpty&&!(plain&&decide (gl q=0))
theorem ZyV{v:Ŀ (Ŀ Za)}{y:Ŀ Za}(g:∀p∈v,Ð p=true)(j:Ð y=true)(l:v.length<=1000):
  (JX v y 0).wp (λo=>∃k:Nat,o=(k:Int)/\k<=v.length/\(∀i (h:i<v.length),i<k->ë v[i] y<0)/\(∀h:k<v.length,¬ë v[k] y<0)):=by
 refine Cq.Zn v.length (λk s=>s=(k:Int)/\k<=v.length/\∀i (h:i<v.length),i<k->ë v[i] y<0) ?_ ?_ ⟨rfl,ĝ _,λi _ h=>absurd h (ı _)⟩
 .rintro k s d ⟨rfl,c,h2⟩
  refine Cq.wp.yes ŉ ⟨_,Λ d,_,SJ (g _ (Ă d)) j,?_⟩
  by_cases a:ë v[k] y<0
  .refine Cq.wp.yes a ⟨ψ ŉ,ŉ,λi hi f=>?_⟩
   by_cases e:i=k
   .subst e;exact a
   exact h2 i hi ŉ
  exact Cq.wp.no a ⟨k,rfl,c,h2,λ_=>a⟩
 rintro s ⟨rfl,c,h2⟩
 exact Cq.wp.no ŉ ⟨v.length,rfl,c,h2,λh=>absurd h (Nat.lt_irrefl _)⟩
theorem Zwe{v:Ŀ (Ŀ Za)}{y:Ŀ Za}(l:hV v){k:Nat}(t:k<=v.length)(m:∀i (h:i<v.length),i<k->ë v[i] y<0)(h2:∀h:k<v.length,0<ë v[k] y):
  hV (v.take k++([y]++v.drop k))/\∀z,z∈v.take k++([y]++v.drop k)↔z∈v\/z=y:=by
 have n:∀z∈v.drop k,0<ë z y:=λz f=>by
  obtain⟨j,d,rfl⟩:=ž f;rw[ľ]at d;have iv:k<v.length:=ŉ;rw[List.getElem_drop];have q:=h2 iv;by_cases e:j=0
  .subst e;exact q
  have:=ħ.1 l k (k+j) iv ŉ ŉ;have u:=qN v[k] y;have x:=qN v[k+j] y;have:=(yZ y v[k] v[k+j] ŉ ŉ).2 (.inl ŉ);omega
 refine⟨?_,λz=>?_⟩
 .unfold hV
  rw[eG]
  have oz:((v.take k)++v.drop k).Pairwise λa b=>ë a b<0:=by rw[Ń];exact l
  obtain⟨p,r,s⟩:=eG.1 oz
  refine⟨p,?_,λa g b c=>?_⟩
  .refine Į.2 ⟨λz f=>?_,r⟩
   have:=n z f
   have:=qN z y
   omega
  rcases Ď.1 c with rfl|c
  .obtain⟨j,d,rfl⟩:=ž g
   rw[č]at d
   rw[aah]
   exact m j ŉ ŉ
  exact s a g b c
 have:z∈v↔z∈v.take k\/z∈v.drop k:=by rw[<-Ĩ,Ń]
 rw[this]
 simp only[Ĩ,Ď,Ĝ,Ť,List.singleton_append]
 constructor
 .rintro (h|h|h)
  .exact .inl (.inl h)
  .exact .inr h
  exact .inl (.inr h)
 rintro ((h|h)|h)
 .exact .inl h
 .exact .inr (.inr h)
 exact .inr (.inl h)
def kept(l:Ŀ (Ŀ Za))(plain:Bool):Ŀ (Ŀ Za):=(l.map Υ).filter (hJ plain)
theorem FE{l:Ŀ (Ŀ Za)}(h:∀p∈l,ω p){plain:Bool}:∀q∈kept l plain,ω q:=λq a=>by obtain⟨p,hp,rfl⟩:=ğ.1 (ō.1 a).1;exact vD (h p hp)
theorem A0(l:Ŀ (Ŀ Za))(plain:Bool){k:Nat}(a:k<l.length):kept (l.take (k+1)) plain=kept (l.take k) plain++(if hJ plain (Υ l[k])=true then[Υ l[k]]else[]):=by unfold kept;rw[Ĉ a,Ī,abf];congr 1;simp only[ġ,Œ,ŏ,List.filter_nil]
structure kK (l:Ŀ (Ŀ Za)) (plain:Bool) (k:Nat) (v:Ŀ (Ŀ Za)):Prop where
 st:hV v
 mem:∀z,z∈v↔z∈kept (l.take k) plain
 len:v.length<=k
theorem kK.skip{l:Ŀ (Ŀ Za)}{plain:Bool}{k:Nat}{v:Ŀ (Ŀ Za)}(h:kK l plain k v)(a:k<l.length)(c:hJ plain (Υ l[k])=false):kK l plain (k+1) v:=
 ⟨h.st,λz=>by rw[h.mem z,A0 l plain a,c];simp,aaz h.len⟩
theorem kK.same{l:Ŀ (Ŀ Za)}{plain:Bool}{k:Nat}{v:Ŀ (Ŀ Za)}(h:kK l plain k v)(c:k<l.length)(d:Υ l[k]∈v):kK l plain (k+1) v:=
 ⟨h.st,(λz=>by
  rw[h.mem z,A0 l plain c,Ĩ];refine⟨.inl,λa=>?_⟩;rcases a with a|a
  .exact a
  split at a
  .rw[Ĕ]at a;subst a;exact(h.mem _).1 d
  cases a),aaz h.len⟩
theorem kK.put{l:Ŀ (Ŀ Za)}{plain:Bool}{k:Nat}{v:Ŀ (Ŀ Za)}(h:kK l plain k v)(d:k<l.length)(e:hJ plain (Υ l[k])=true){j:Nat}(c:j<=v.length)(a:∀i (h:i<v.length),i<j->ë v[i] (Υ l[k])<0)(h2:∀h:j<v.length,0<ë v[j] (Υ l[k])):
  kK l plain (k+1) (v.take j++([Υ l[k]]++v.drop j)):=by
 obtain⟨f,g⟩:=Zwe h.st c a h2
 refine⟨f,λz=>?_,?_⟩
 .rw[g z,h.mem z,A0 l plain d,e,ă rfl,Ĩ,Ĕ]
 have:=h.len
 simp only[Ā,č,ľ,ė]
 omega
theorem Si{l:Ŀ (Ŀ Za)}{plain:Bool}{k:Nat}{v:Ŀ (Ŀ Za)}(h:kK l plain k v)(C:l.length<=100)(g:k<l.length)(A:hJ plain (Υ l[k])=true)(hp:∀p∈l,ω p){j:Nat}(y:j<=v.length)(x:∀i (h:i<v.length),i<j->ë v[i] (Υ l[k])<0)(h2:∀h:j<v.length,¬ë v[j] (Υ l[k])<0)(q:∀p∈v,Ð p=true):
  (if(j:Int)<(v.length:Int)then(Cq.Θ v (j:Int) λB=>Cq.bind (ub B (Υ l[k])) λm=>if m=true then(Cq.ret (.inl (v,i64.wrap ((k:Int)+1))))else(tZ v (k:Int) (Υ l[k]) (j:Int)))else(tZ v (k:Int) (Υ l[k]) (j:Int))).wp (Out (λs=>∃f,s=(f,((k+1:Nat):Int))/\kK l plain (k+1) f) λr=>r=er (kept l plain)):=by
 have n:=h.len
 have c:Ð (Υ l[k])=true:=(vD (hp _ (Ă g))).gv
 have d:(∀h:j<v.length,0<ë v[j] (Υ l[k]))->(tZ v (k:Int) (Υ l[k]) (j:Int)).wp (Out (λs=>∃f,s=(f,((k+1:Nat):Int))/\kK l plain (k+1) f) λr=>r=er (kept l plain)):=λh2=>by
  unfold tZ;have t:(v.take (v.length:Int).toNat).drop (j:Int).toNat=v.drop j:=by rw[Ē,Ē,Ę (ĉ _)]
  have u:((v.take (j:Int).toNat).drop (0:Int).toNat)=v.take j:=by rw[Ē];rfl
  rw[t,u];refine⟨⟨ŉ,ŉ,ŉ⟩,?_,⟨ŉ,ŉ,ŉ⟩,?_,_,?_,h.put g A y x h2⟩
  .simp only[Ā,ľ,ė,small];omega
  .simp only[Ā,č,ľ,ė,small];omega
  rw[ψ ŉ]
 by_cases a:j<v.length
 .refine Cq.wp.yes ŉ ⟨_,Λ a,_,Ko (q _ (Ă a)) c,?_⟩
  by_cases e:ë v[j] (Υ l[k])=0
  .refine Cq.wp.yes (Ą e) ⟨_,by rw[ψ ŉ],h.same g (by rw[<-Bd (q _ (Ă a)) c e];exact Ă a)⟩
  refine Cq.wp.no (by simpa using e) (d λ_=>?_)
  have:=h2 a
  omega
 exact Cq.wp.no ŉ (d λh=>absurd h a)
theorem PO{l:Ŀ (Ŀ Za)}(t:l.length<=100)(h:∀p∈l,ω p)(plain:Bool):(Fo l plain).Α (er (kept l plain)):=by
 refine Cq.Zn l.length (λk s=>∃v,s=(v,(k:Int))/\kK l plain k v) ?_ ?_ ⟨[],rfl,List.Pairwise.nil,λz=>by simp[kept],ĝ _⟩
 .rintro k s c ⟨v,rfl,hi⟩;have u:=hi.len;have y:=vD (h _ (Ă c));have a:=y.gv;have m:∀p∈v,Ð p=true:=λp hp=>(FE (λq B=>h q (Ŝ B)) p ((hi.mem p).1 hp)).gv;refine Cq.wp.yes ŉ ⟨_,Λ c,_,PN (h _ (Ă c)),?_⟩;refine(JX v (Υ l[k]) 0).mono (λo ⟨j,i,r,n,h2⟩=>?_) (ZyV m a ŉ);subst i;show(JY plain v (k:Int) (Υ l[k]) (j:Int)).wp _;unfold JY;by_cases g:Υ l[k]=[]
  .refine Cq.wp.yes (by rw[g];rfl) ⟨v,by rw[ψ ŉ],hi.skip c (by rw[g];rfl)⟩
  have d:(Υ l[k]).isEmpty=false:=by simpa using g
  have A:(Υ l[k]).length≠0:=λe=>g (aaa.1 e);refine Cq.wp.no ŉ ?_;cases plain with
  |true=>
   refine Cq.wp.yes rfl ⟨_,xa y,?_⟩;by_cases f:gl (Υ l[k])=0
   .refine Cq.wp.yes f ⟨v,by rw[ψ ŉ],hi.skip c (by unfold hJ;rw[decide_eq_true f];simp)⟩
   refine Cq.wp.no f ?_;exact Si hi t c (by unfold hJ;rw[d,decide_eq_false f];rfl) h r n h2 m
  |false=>
   refine Cq.wp.no ĳ ?_;exact Si hi t c (by unfold hJ;rw[d];rfl) h r n h2 m
 rintro s ⟨v,rfl,hi⟩;refine Cq.wp.no ŉ ?_;have x:=hi.mem;rw[Ę (ĉ _)]at x;exact VU (λp hp=>(FE h p hp).gv) hi.st x
end Go.EL

namespace Go.EL
open Go.IntKind (i8 i16 i32 i64 u8 u16 u32 u64)
open Go Go.RowKit
def kC(b:Int):Bool:=decide (65<=b/\b<=90) || decide (97<=b/\b<=122)
def qw(b:Int):Bool:=decide (48<=b/\b<=57) || decide (b=95)
def ji(i:Nat)(b:Int):Bool:=kC b || (decide (0<i)&&qw b)
def jm(s:Ĳ):Bool:=decide (1<=s.size/\s.size<=12)&&(List.range s.size).all λi=>ji i (eR s (i:Int))
theorem UN{s:Ĳ}{i:Nat}(hi:i<s.size)(h:ji i (eR s (i:Int))=false):jm s=false:=by unfold jm;rw[aaI];right;rw[List.all_eq_false];exact⟨i,ĺ.2 hi,by rw[h];decide⟩
theorem ZyL{s:Ĳ}(a:1<=s.size/\s.size<=12)(h:∀i,i<s.size->ji i (eR s (i:Int))=true):jm s=true:=by unfold jm;rw[Ą a,ť,Ć];exact λi hi=>h i (ĺ.1 hi)
theorem Sb(b:Int):(AT b).Α (kC b):=by
 unfold AT kC;by_cases a:65<=b<;>by_cases h2:b<=90<;>by_cases h3:97<=b<;>simp[a,h2,h3]<;>first|rfl|omega
theorem Zyg(s:Ĳ):(FU s).Α (jm s):=by
 unfold FU;by_cases n:(s.size:Int)<1
 .rw[ă n];show false=jm s;unfold jm;rw[Č ŉ,ŵ]
 rw[ā n];by_cases h2:12<(s.size:Int)
 .rw[ă h2];show false=jm s;unfold jm;rw[Č ŉ,ŵ]
 rw[ā h2];refine⟨ŉ,_,Sb _,?_⟩;rw[Cq.Zm];cases h3:kC (eR s 0)with
 |false=>
  rw[ă ĳ];exact(UN (i:=0) ŉ (by unfold ji;rw[show((0:Nat):Int)=0 from rfl,h3];simp)).symm
 |true=>
  rw[ā ĳ];show(Cq.next _ _).wp _;refine Cq.Zn (s.size-1) (λk st=>st=((k+1:Nat):Int)/\∀i,i<k+1->ji i (eR s (i:Int))=true) (λk st r m=>?_) (λst m=>?_) ⟨rfl,λi hi=>?_⟩
  .obtain⟨rfl,hi⟩:=m;have f:∀{b:Int},b=eR s ((k+1:Nat):Int)->ji (k+1) b=true->∀i,i<k+1+1->ji i (eR s (i:Int))=true:=by
    intro b p q i l;by_cases e:i=k+1
    .subst e;rw[<-p];exact q
    exact hi i ŉ
   rw[Cq.Zm,ă ŉ];refine⟨ŉ,_,Sb _,?_⟩;cases j:kC (eR s ((k+1:Nat):Int))with
   |true=>exact⟨ψ ŉ,f rfl (by unfold ji;rw[j];rfl)⟩
   |false=>
    have g:qw (eR s ((k+1:Nat):Int))=false->false=jm s:=λh=>(UN (i:=k+1) ŉ (by unfold ji;rw[j,h];simp)).symm;have d:qw (eR s ((k+1:Nat):Int))=true->∀i,i<k+1+1->ji i (eR s (i:Int))=true:=λh=>f rfl (by unfold ji;rw[j,h];simp);refine⟨ŉ,?_⟩;rw[Cq.Zm];unfold qw at g d;split
    .refine⟨ŉ,?_⟩;rw[Cq.Zm];split
     .rename_i a b;exact⟨ψ ŉ,d (by rw[Ą ⟨a,b⟩];rfl)⟩
     rename_i a b;refine⟨ŉ,?_⟩;rw[Cq.Zm];split
     .rename_i c;exact g (by rw[Č (λh=>b h.2),Č c];rfl)
     rename_i c;exact⟨ψ ŉ,d (by rw[Ą (abn.1 c)];simp)⟩
    rename_i a;refine⟨ŉ,?_⟩;rw[Cq.Zm];split
    .rename_i c;exact g (by rw[Č (λh=>a h.1),Č c];rfl)
    rename_i c;exact⟨ψ ŉ,d (by rw[Ą (abn.1 c)];simp)⟩
  .obtain⟨rfl,hi⟩:=m;rw[Cq.Zm,ā ŉ];exact(ZyL ŉ λi l=>hi i ŉ).symm
  obtain rfl:i=0:=ŉ;unfold ji;rw[show((0:Nat):Int)=0 from rfl,h3];rfl
end Go.EL

namespace Go.EL
open Go.IntKind (i8 i16 i32 i64 u8 u16 u32 u64)
open Go Go.RowKit
structure im (n:Nat) (next:Int) (l:Ŀ Zo):Prop where
 len:l.length<=12
 ids:∀q∈l,1<=q.id/\q.id<next
 inc:l.Pairwise λa b=>a.id<b.id
 ie:∀q∈l,ω q.p/\Ï q.p (n:Int)=true
structure Good (s:Zx):Prop where
 vars:s.vars.length<=4
 name:∀v∈s.vars,jm v=true
 diff:s.vars.Pairwise λa b=>a≠b
 next:1<=s.next/\s.next<=1000000
 eqs:im s.vars.length s.next s.eqs
 ε:im s.vars.length s.next s.ε
 apart:∀a∈s.eqs,∀b∈s.ε,a.id≠b.id
theorem KJ{p:Ŀ Za}(h:ω p){n:Nat}(c:n<=4)(g:Ï p (n:Int)=true):(yW p (n:Int)).Α true:=by
 obtain⟨f,h2⟩:=(pI (p:=p) (n:=n) ŉ).1 g;have e:u64.wrap (n:Int)=(n:Int):=by
  match n,c with
  |0,_=>rfl
  |1,_=>rfl
  |2,_=>rfl
  |3,_=>rfl
  |4,_=>rfl
 refine⟨true,Av h,_,xa h,?_⟩;rw[Cq.Zm,ă ((tF ŉ).2 h2)];refine⟨_,Au h.len,by rw[e];omega,?_⟩;have i:=uj p;have d:=yU.2 f;rw[Ů]at d;have a:(ï p).toNat<2 ^ n:=by
  rcases x6.1 d with h|h
  .have:=aaf n;omega
  exact h
 show _=_;rw[e,wrap64 ŉ];refine Ą ?_;match n,c with
 |0,_=>exact œ (show ï p<1 by simp at a;omega) ĳ
 |1,_=>exact œ (show ï p<2 by simp at a;omega) ĳ
 |2,_=>exact œ (show ï p<4 by simp at a;omega) ĳ
 |3,_=>exact œ (show ï p<8 by simp at a;omega) ĳ
 |4,_=>exact œ (show ï p<16 by simp at a;omega) ĳ
theorem Tu{n:Nat}(e:n<=4){next:Int}{l:Ŀ Zo}(h:im n next l):(Be l (n:Int) next).Α true:=by
 have m:=h.len;unfold Be;rw[ā ŉ];show(Cq.next _ _).wp _;refine Cq.Zn l.length (λk s=>s=(k:Int)) (λk s a c=>?_) (λs c=>?_) rfl
 .subst c;have f:=h.ids _ (Ă a);obtain⟨hp,d⟩:=h.ie _ (Ă a);rw[Cq.Zm,ă ŉ];refine⟨l[k],Λ a,?_⟩;rw[Cq.Zm,ā ŉ];refine⟨l[k],Λ a,?_⟩;rw[Cq.Zm,ā ŉ,Cq.Zm];split
  .rename_i i;obtain⟨j,rfl⟩:∃j,k=j+1:=⟨k-1,ŉ⟩;have g:i64.wrap (((j+1:Nat):Int)-1)=(j:Int):=by rw[wrap64 ŉ];omega
   rw[g];have:=ħ.1 h.inc j (j+1) ŉ a ŉ;refine⟨l[j],Λ ŉ,l[j+1],Λ a,?_⟩;rw[Cq.Zm,ā ŉ];refine⟨l[j+1],Λ a,true,KJ hp e d,?_⟩;rw[Cq.Zm,ā ĳ];exact ψ ŉ
  refine⟨l[k],Λ a,true,KJ hp e d,?_⟩;rw[Cq.Zm,ā ĳ];exact ψ ŉ
 subst c;rw[Cq.Zm,ā ŉ];rfl
theorem ZpM{s:Zx}(h:Good s):(Fv s).Α true:=by
 have f:=h.vars;have l:=h.next;have i:=h.eqs.len;have g:=h.ε.len;unfold Fv;rw[ā ŉ,ā ŉ,ā ŉ];refine⟨true,Tu f h.eqs,true,Tu f h.ε,?_⟩;rw[Cq.Zm,ā ĳ];show(Cq.next _ _).wp _;refine Cq.Zn s.vars.length (λk st=>st=(k:Int)) (λk st c a=>?_) (λst a=>?_) rfl
 .subst a;rw[Cq.Zm,ă ŉ];show(Cq.next _ _).wp _;refine Cq.Zn k (λj st=>st=(j:Int)) (λj st d a=>?_) (λst a=>?_) rfl
  .subst a;have:=ħ.1 h.diff j k ŉ c d;rw[Cq.Zm,ă ŉ];refine⟨s.vars[k],Λ c,s.vars[j],Λ ŉ,?_⟩;rw[Cq.Zm,ā (λe=>this e.symm)];exact ψ ŉ
  subst a;rw[Cq.Zm,ā ŉ];show(Qq s (k:Int)).wp _;refine⟨s.vars[k],Λ c,_,Zyg _,?_⟩;rw[h.name _ (Ă c),Cq.Zm,ā ĳ];exact ψ ŉ
 subst a;rw[Cq.Zm,ā ŉ];show(Qp s).wp _;show(Cq.next _ _).wp _;refine Cq.Zn s.eqs.length (λk st=>st=(k:Int)) (λk st c a=>?_) (λst a=>?_) rfl
 .subst a;rw[Cq.Zm,ă ŉ];show(Cq.next _ _).wp _;refine Cq.Zn s.ε.length (λj st=>st=(j:Int)) (λj st d a=>?_) (λst a=>?_) rfl
  .subst a;rw[Cq.Zm,ă ŉ];refine⟨s.eqs[k],Λ c,s.ε[j],Λ d,?_⟩;rw[Cq.Zm,ā (h.apart _ (Ă c) _ (Ă d))];exact ψ ŉ
  subst a;rw[Cq.Zm,ā ŉ];exact ψ ŉ
 subst a;rw[Cq.Zm,ā ŉ];rfl
end Go.EL

namespace Go.EL
open Go.IntKind (i8 i16 i32 i64 u8 u16 u32 u64)
open Go Go.RowKit
abbrev Ö:=Ŀ Za
instance BV:DecidableEq Za:=λ⟨a1,a2⟩ ⟨a,c⟩=>decidable_of_iff (a1=a/\a2=c) ß
def jd:Ö:=[⟨ü 1,λ_=>0⟩]
def iQ:Zc:=⟨0,[],[]⟩
def gN(l:Ŀ Ö):Ŀ Ö:=(l.filter λp=>p.isEmpty).map λ_=>jd
def hZ(eqs ε:Ŀ Ö):Ŀ Ö:=kept eqs false++gN ε
def iw(n:Int)(eqs ε:Ŀ Ö):Zc×Int:=
 if 1<=n/\n<=4 then
  if(eqs++ε).all (λp=>Ï p n)=true then
   if 12<(er (hZ eqs ε)).length then(iQ,2)
   else if 12<(er (kept ε true)).length then(iQ,2)
   else(⟨n,er (hZ eqs ε),er (kept ε true)⟩,0)
  else(iQ,1)
 else(iQ,1)
theorem Bx:ω jd where
 ord:=Ū _ _
 tu:=λt a=>by rw[jd,Ĕ]at a;subst a;exact⟨⟨1,rfl,ĳ,ĳ,ĳ⟩,Oj⟩
 len:=ĳ
theorem L3:Υ jd=jd:=by decide +kernel
theorem Sz:∀l:Ŀ Ö,kept (gN l) false=gN l
 |[]=>rfl
 |p::l=>by
  have a:=Sz l;unfold gN at a⊢;rw[ŏ];split
  .rw[ġ];show(Υ jd::List.map Υ _).filter _=_;rw[ŏ,ă (by rw[L3];rfl),L3];exact đ _ a
  exact a
theorem ZtT(a b:Ŀ Ö)(plain:Bool):kept (a++b) plain=kept a plain++kept b plain:=by unfold kept;rw[List.map_append,List.filter_append]
theorem L4{l:Ŀ Ö}:∀p∈gN l,p=jd:=λp hp=>by obtain⟨_,_,h⟩:=ğ.1 hp;exact h.symm
theorem Gh(l:Ŀ Ö):(gN l).length<=l.length:=by unfold gN;rw[List.length_map];exact List.length_filter_le _ _
theorem vz(l:Ŀ Ö)(plain:Bool):(kept l plain).length<=l.length:=by unfold kept;exact Nat.le_trans (List.length_filter_le _ _) (Nat.le_of_eq (List.length_map _))
theorem TG(a b:Ŀ Ö):(hZ a b).length<=a.length+b.length:=by have:=vz a false;have:=Gh b;unfold hZ;rw[Ā];omega
theorem ZzU{a b:Ŀ Ö}(c:∀p∈a,ω p):∀p∈hZ a b,ω p:=λp hp=>by
 rcases Ĩ.1 hp with h|h
 .exact FE c p h
 rw[L4 p h];exact Bx
theorem KN{p:Ö}(h:ω p)(a:p≠[]):0<=gl p:=by
 obtain⟨t,c⟩:=abi _ a;by_cases d:gl p<=-1
 .have:=(tF ĳ).1 d t c;have e:=(Ga (h.tu t c).m 8).1;unfold fK at this;omega
 omega
theorem Zt6{p:Ö}(h:ω p){n:Nat}(i:n<=4):(yW p (n:Int)).Α (Ï p (n:Int)):=by
 cases g:Ï p (n:Int)with
 |true=>exact KJ h i g
 |false=>
  have j:¬(lG n p/\∀t∈p,fK t.m<=12):=λc=>by rw[(pI ŉ).2 c]at g;cases g
  refine⟨true,Av h,_,xa h,?_⟩;by_cases f:gl p<=12
  .have c:¬lG n p:=λc=>j ⟨c,(tF ĳ).1 f⟩;have m:=uj p;have k:¬(ï p).toNat >>> n=0:=λe=>c (yU.1 e);rw[Ů]at k;have a:2 ^ n<=(ï p).toNat:=by
    by_cases l:(ï p).toNat<2 ^ n
    .exact absurd (aaO l) k
    omega
   have d:u64.wrap (n:Int)=(n:Int):=by
    match n,i with
    |0,_=>rfl
    |1,_=>rfl
    |2,_=>rfl
    |3,_=>rfl
    |4,_=>rfl
   refine Cq.wp.yes f ⟨_,Au h.len,by rw[d];omega,?_⟩;show _=_;rw[d,wrap64 ŉ];refine Č ?_;match n,i with
   |0,_=>exact aaN.2 (ec ĳ (show(1:Int)<=ï p by simp at a;omega))
   |1,_=>exact aaN.2 (ec ĳ (show(2:Int)<=ï p by simp at a;omega))
   |2,_=>exact aaN.2 (ec ĳ (show(4:Int)<=ï p by simp at a;omega))
   |3,_=>exact aaN.2 (ec ĳ (show(8:Int)<=ï p by simp at a;omega))
   |4,_=>exact aaN.2 (ec ĳ (show(16:Int)<=ï p by simp at a;omega))
  exact Cq.wp.no f rfl
theorem U4{l:Ŀ Ö}(m:l.length<=100)(h:∀p∈l,ω p){n:Nat}(j:n<=4):(Gs l (n:Int)).Α (l.all λp=>Ï p (n:Int)):=by
 refine(RX l (n:Int) 0).mono (p:=λo=>match o with|.inl v=>v=l.all λp=>Ï p (n:Int)|.inr ()=>(l.all λp=>Ï p (n:Int))=true) (λo h=>?_) (Cq.Zn l.length (λk s=>s=(k:Int)/\∀i (h:i<l.length),i<k->Ï l[i] (n:Int)=true) ?_ ?_ ⟨rfl,λi _ h=>absurd h (ı _)⟩)
 .match o,h with
  |.inl v,h=>exact h
  |.inr (),h=>exact h.symm
 .rintro k s d ⟨rfl,c⟩;refine Cq.wp.yes ŉ ⟨_,Λ d,_,Zt6 (h _ (Ă d)) j,?_⟩;by_cases a:Ï l[k] (n:Int)=true
  .rw[a];refine Cq.wp.no ĳ ⟨ψ ŉ,λi hi g=>?_⟩;by_cases e:i=k
   .subst e;exact a
   exact c i hi ŉ
  rw[Ź.2 a];refine Cq.wp.yes ĳ ?_;show false=_;refine(Ź.2 λf=>?_).symm;exact a (Ć.1 f _ (Ă d))
 rintro s ⟨rfl,c⟩;refine Cq.wp.no ŉ ?_;refine Ć.2 λp hp=>?_;obtain⟨i,hi,rfl⟩:=ž hp;exact c i hi hi
theorem ZvB{a b:Ŀ Ö}(f:a.length<=100)(g:b.length<=100):(Jh [a,b]).Α (a++b):=by
 refine Cq.Zn 2 (λk s=>s=(if k=0 then 0 else if k=1 then(a.length:Int)else(a.length:Int)+(b.length:Int),(k:Int))) (λk s d c=>?_) (λs c=>?_) rfl
 .subst c;have e:k=0\/k=1:=ŉ;rcases e with rfl|rfl
  .refine Cq.wp.yes (by show(0:Int)<2;decide) ⟨a,⟨ĳ,rfl⟩,?_⟩;have:i64.wrap (0+(a.length:Int))=(a.length:Int):=by rw[wrap64 ŉ];omega
   refine Cq.wp.no (by rw[ă rfl,this];omega) ?_;show _=_;rw[ă rfl,this];rfl
  refine Cq.wp.yes (by show(1:Int)<2;decide) ⟨b,⟨ĳ,rfl⟩,?_⟩;have:i64.wrap ((a.length:Int)+(b.length:Int))=(a.length:Int)+(b.length:Int):=by rw[wrap64 ŉ]
  refine Cq.wp.no (by rw[ā ĳ,ă rfl,this];omega) ?_;show _=_;rw[ā ĳ,ă rfl,this];rfl
 subst c;refine Cq.wp.no (by show ¬(2:Int)<2;decide) ?_;refine⟨[],⟨⟨?_,?_⟩,rfl⟩,?_⟩
 .rw[ā ĳ,ā ĳ];omega
 .rw[ā ĳ,ā ĳ];omega
 refine Cq.Zn 2 (λk s=>s=(if k=0 then[]else if k=1 then a else a++b,(k:Int))) (λk s d c=>?_) (λs c=>?_) rfl
 .subst c;have e:k=0\/k=1:=ŉ;rcases e with rfl|rfl
  .refine Cq.wp.yes (by show(0:Int)<2;decide) ⟨a,⟨ĳ,rfl⟩,?_,?_⟩
   .rw[ă rfl,ļ];simp only[small];omega
   show _=_;rw[ă rfl,ļ];rfl
  refine Cq.wp.yes (by show(1:Int)<2;decide) ⟨b,⟨ĳ,rfl⟩,?_,?_⟩
  .rw[ā ĳ,ă rfl,Ā];simp only[small];omega
  show _=_;rw[ā ĳ,ă rfl];rfl
 subst c;refine Cq.wp.no (by show ¬(2:Int)<2;decide) ?_;show _=_;rw[ā ĳ,ā ĳ]
theorem vH{n:Int}(h:1<=n/\n<=4):∃m:Nat,n=(m:Int)/\1<=m/\m<=4:=⟨n.toNat,ŉ,ŉ,ŉ⟩
theorem uT:(wW 1).Α (ü 1):=Cq.Α.mn 20 (by decide +kernel)
theorem ql:(D4 (ü 1)).Α jd:=Cq.Α.mn 20 (by decide +kernel)
theorem uV:(ZX 1).Α (ü 1):=Cq.Α.mn 20 (by decide +kernel)
theorem qp:(EE (ü 1)).Α jd:=Cq.Α.mn 20 (by decide +kernel)
theorem Q5{l:Ŀ Ö}(a:l.length<=100)(h:∀p∈l,ω p):(Ef l).Α (er l):=⟨⟨a,Ć.2 λp hp=>(h p hp).gv⟩,rfl⟩
theorem Sc(l:Ŀ Ö){k:Nat}(a:k<l.length):gN (l.take (k+1))=gN (l.take k)++(if l[k]=[]then[jd]else[]):=by
 unfold gN;rw[Ĉ a,abf,Ī];congr 1;rw[ŏ];by_cases h:l[k]=[]
 .rw[ă (by simpa using h),ă h];rfl
 rw[ā (by simpa using h),ā h];rfl
theorem ZtL{n:Int}{eqs ε:Ŀ Ö}(le:eqs.length<=40)(ln:ε.length<=40)(t:∀p∈eqs,ω p)(u:∀p∈ε,ω p):(Ee n eqs ε).Α (iw n eqs ε):=by
 unfold iw;by_cases g:n<1
 .rw[ā (show ¬(1<=n/\n<=4) by omega)];exact Cq.wp.yes g rfl
 refine Cq.wp.no g ?_;by_cases A:4<n
 .rw[ā (show ¬(1<=n/\n<=4) by omega)];exact Cq.wp.yes A rfl
 refine Cq.wp.no A ?_;rw[ă ⟨ŉ,ŉ⟩];obtain⟨m,rfl,N,O⟩:=vH ⟨show 1<=n by omega,ŉ⟩;have q:∀p∈eqs++ε,ω p:=λp hp=>(Ĩ.1 hp).elim (t p) (u p);refine⟨eqs++ε,ZvB ŉ ŉ,?_⟩;have C:(eqs++ε).length<=100:=by rw[Ā];omega
 generalize L:eqs++ε=l at *;refine(Px (m:Int) l (0,iQ)).mono (p:=λo=>match o with|.inl v=>v=(iQ,1)/\(l.all λp=>Ï p (m:Int))=false|.inr _=>(l.all λp=>Ï p (m:Int))=true) (λo h=>?_) (Cq.Zn l.length (λk s=>s=((k:Int),iQ)/\∀i (h:i<l.length),i<k->Ï l[i] (m:Int)=true) ?_ ?_ ⟨rfl,λi _ h=>absurd h (ı _)⟩);rotate_left
 .rintro k s a ⟨rfl,g⟩;refine Cq.wp.yes ŉ ⟨_,Λ a,_,ZnD (q _ (Ă a)) ŉ,?_⟩;by_cases j:Ï l[k] (m:Int)=true
  .rw[j];refine Cq.wp.no ĳ ⟨by rw[ψ ŉ],λi hi G=>?_⟩;by_cases e:i=k
   .subst e;exact j
   exact g i hi ŉ
  rw[Ź.2 j];refine Cq.wp.yes ĳ ⟨rfl,Ź.2 λr=>?_⟩;exact j (Ć.1 r _ (Ă a))
 .rintro s ⟨rfl,g⟩;refine Cq.wp.no ŉ ?_;refine Ć.2 λp hp=>?_;obtain⟨i,hi,rfl⟩:=ž hp;exact g i hi hi
 match o,h with
 |.inl v,⟨I,j⟩=>rw[j,ā ĳ];exact I
 |.inr _,r=>
  rw[ă r];show(PA (m:Int) eqs ε).Α _;refine Cq.Zn eqs.length (λk s=>s=(kept (eqs.take k) false,(k:Int))) (λk s a d=>?_) (λs d=>?_) rfl
  .subst d;refine Cq.wp.yes ŉ ⟨_,Λ a,?_⟩;have d:=A0 eqs false a;have:=vz (eqs.take k) false;rw[č]at this;by_cases c:eqs[k]=[]
   .refine Cq.wp.no (by rw[c];decide) ?_;show _=_;rw[d,c,ā ĳ,Ě,ψ ŉ]
   have hp:0<eqs[k].length:=Š.2 c;refine Cq.wp.yes ŉ ⟨_,Kr (t _ (Ă a)) c,?_,?_⟩
   .rw[Ā,ė];simp only[small];omega
   show _=_;have a:hJ false (Υ eqs[k])=true:=by
    have:(Υ eqs[k]).isEmpty=false:=by simpa using λe=>c (Bn.1 e)
    unfold hJ;rw[this];rfl
   rw[d,a,ă rfl,ψ ŉ]
  subst d;refine Cq.wp.no ŉ ?_;rw[Ę (ĉ _)];show(Pz (m:Int) ε (kept eqs false)).Α _;refine Cq.Zn ε.length (λk s=>s=(kept eqs false++gN (ε.take k),kept (ε.take k) true,(k:Int))) (λk s a d=>?_) (λs d=>?_) (by show _=_;rw[ŗ];show _=(kept eqs false++[],_,_);rw[Ě];rfl)
  .subst d;have d:=A0 ε true a;have y:=Sc ε a;have D:=vz (ε.take k) true;have J:=vz eqs false;have K:=Gh (ε.take k);rw[č]at D K;refine Cq.wp.yes ŉ ⟨_,Λ a,?_⟩;by_cases c:ε[k]=[]
   .refine Cq.wp.yes (by rw[c];rfl) ⟨_,uT,_,ql,?_,?_⟩
    .rw[Ā,Ā,ė];simp only[small];omega
    show _=_;rw[d,y,c,ă rfl,ā ĳ,Ě,ψ ŉ,Đ]
   have hp:0<ε[k].length:=Š.2 c;have f:=u _ (Ă a);have x:(Υ ε[k]).isEmpty=false:=by simpa using λe=>c (Bn.1 e)
   have H:=KN f c;refine Cq.wp.no ŉ ⟨_,yM f,?_⟩;by_cases B:0<gl ε[k]
   .refine Cq.wp.yes B ⟨_,Kr f c,?_,?_⟩
    .rw[Ā,ė];simp only[small];omega
    show _=_;have a:hJ true (Υ ε[k])=true:=by unfold hJ;rw[x,xE,decide_eq_false ŉ];rfl
    rw[d,y,ā c,a,ă rfl,ψ ŉ,Ě]
   refine Cq.wp.no B ?_;show _=_;have a:hJ true (Υ ε[k])=false:=by unfold hJ;rw[xE,decide_eq_true ŉ];simp
   rw[d,y,ā c,a,ā ĳ,ψ ŉ,Ě,Ě]
  subst d;refine Cq.wp.no ŉ ?_;rw[Ę (ĉ _)];show(Py (m:Int) (hZ eqs ε) (kept ε true)).Α _;have D:=TG eqs ε;have J:=vz ε true;refine⟨_,Q5 ŉ (ZzU t),_,Q5 ŉ (FE u),?_⟩;by_cases E:12<(er (hZ eqs ε)).length
  .rw[ă E];exact Cq.wp.yes ŉ rfl
  rw[ā E];refine Cq.wp.no ŉ ?_;by_cases F:12<(er (kept ε true)).length
  .rw[ă F];exact Cq.wp.yes ŉ rfl
  rw[ā F];exact Cq.wp.no ŉ rfl
theorem Rw{n:Int}{eqs ε:Ŀ Ö}(le:eqs.length<=40)(ln:ε.length<=40)(g:∀p∈eqs,ω p)(j:∀p∈ε,ω p):(E3 n eqs ε).Α (iw n eqs ε):=by
 unfold iw;by_cases d:n<1
 .rw[ā (show ¬(1<=n/\n<=4) by omega)];exact Cq.wp.yes d rfl
 refine Cq.wp.no d ?_;by_cases f:4<n
 .rw[ā (show ¬(1<=n/\n<=4) by omega)];exact Cq.wp.yes f rfl
 refine Cq.wp.no f ?_;rw[ă ⟨ŉ,ŉ⟩];obtain⟨m,rfl,A,r⟩:=vH ⟨show 1<=n by omega,ŉ⟩;refine⟨_,U4 ŉ g r,?_⟩;rw[List.all_append];cases x:eqs.all λp=>Ï p (m:Int)with
 |false=>exact rfl
 |true=>
 refine⟨_,U4 ŉ j r,?_⟩;cases y:ε.all λp=>Ï p (m:Int)with
 |false=>exact Cq.wp.yes ĳ rfl
 |true=>
 refine Cq.wp.no ĳ ?_;rw[ă ĳ];refine⟨?_,?_⟩
 .rw[ļ];simp only[small];omega
 rw[ļ];refine Cq.Zn ε.length (λk s=>s=(eqs++gN (ε.take k),(k:Int))) (λk s i c=>?_) (λs c=>?_) (by show _=_;rw[ŗ];show _=(eqs++[],_);rw[Ě];rfl)
 .subst c;have l:=Sc ε i;have q:=Gh (ε.take k);rw[č]at q;refine Cq.wp.yes ŉ ⟨_,Λ i,?_⟩;by_cases a:ε[k]=[]
  .refine Cq.wp.yes (by rw[a];rfl) ⟨_,uV,_,qp,?_,?_⟩
   .rw[Ā,Ā,ė];simp only[small];omega
   show _=_;rw[l,a,ă rfl,ψ ŉ,Đ]
  have hp:0<ε[k].length:=Š.2 a;refine Cq.wp.no ŉ ?_;show _=_;rw[l,ā a,ψ ŉ,Ě]
 subst c;refine Cq.wp.no ŉ ?_;rw[Ę (ĉ _)];show(Qd (m:Int) ε (eqs++gN ε)).Α _;have q:=Gh ε;have v:∀p∈eqs++gN ε,ω p:=λp hp=>(Ĩ.1 hp).elim (g p) (λh=>by rw[L4 p h];exact Bx);have e:kept (eqs++gN ε) false=hZ eqs ε:=by rw[ZtT,Sz];rfl
 refine⟨_,PO (by rw[Ā];omega) v false,_,PO ŉ j true,?_⟩;rw[e];by_cases t:12<(er (hZ eqs ε)).length
 .rw[ă t];exact Cq.wp.yes ŉ rfl
 rw[ā t];refine Cq.wp.no ŉ ?_;by_cases u:12<(er (kept ε true)).length
 .rw[ă u];exact Cq.wp.yes ŉ rfl
 rw[ā u];exact Cq.wp.no ŉ rfl
end Go.EL

