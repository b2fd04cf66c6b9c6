/- The law TaskValid holds for every input: a part of its proof (fY the code does, plain models, and fY they return). No condition. -/
import Derived.Test.YtepbagkffgddlaaGreatXV9c
import Derived.Test.YtepbagkffgddlaaGreatXV9b
set_option linter.unusedVariables false
set_option linter.unusedSimpArgs false
namespace Go.EL
open Go.IntKind (i8 i16 i32 i64 u8 u16 u32 u64)
open Go Go.EL Go.RowKit Go.Proofs
def fp(c:Zf):Bool:=match c.num.υ,c.den.υ with
 |[w],[d]=>!c.den.neg&&decide (d=1)&&decide (1<=w)&&decide (w<=12)
 |_,_=>false
def Î(c:Zf):Int:=if c.num.neg=true then-c.num.υ.headD 0 else c.num.υ.headD 0
def fC(s t:Za):Int:=if s.m=t.m then(if Î s.c<Î t.c then -1 else if Î s.c=Î t.c then 0 else 1)else Ü s.m t.m
def ê:Ŀ Za->Ŀ Za->Int
 |[],[]=>0
 |[],_::_=>-1
 |_::_,[]=>1
 |s::p,t::q=>if fC s t=0 then ê p q else fC s t
def Ò(p:Ŀ Za):Bool:=decide (p.length<=1000)&&p.all λt=>fp t.c
def zT(x:Ŀ Za):Ŀ (Ŀ Za)->Ŀ (Ŀ Za)
 |[]=>[x]
 |y::l=>if 0<ê x y then y::zT x l else x::y::l
def jI(l:Ŀ (Ŀ Za)):Ŀ (Ŀ Za):=l.foldr zT []
def jW(x:Ŀ Za):Ŀ (Ŀ Za)->Ŀ (Ŀ Za)
 |[]=>[]
 |y::l=>if ê y x=0 then jW y l else y::jW y l
def gh:Ŀ (Ŀ Za)->Ŀ (Ŀ Za)
 |[]=>[]
 |x::l=>x::jW x l
def El(l:Ŀ (Ŀ Za)):Cq (Ŀ (Ŀ Za)):=Cq.é (l.length<=100/\l.all Ò=true) (Cq.ret (gh (jI l)))
def iI:Nat->Int->Ŀ Int
 |0,n=>[u8.wrap n]
 |f+1,n=>if 128<=n then u8.wrap (u8.wrap (Int.tmod n 128)+128)::iI f (u64.wrap (Int.tdiv n 128))else[u8.wrap n]
def fw(n:Int):Ŀ Int:=iI 10 n
def lB(n:Int):Ŀ Int:=fw (u64.wrap (2*u64.wrap n))
def fG(d:Int):Ŀ Int:=[u8.wrap (Int.fdiv d (2 ^ (min (24:Int).toNat u32.bits))),u8.wrap (Int.fdiv d (2 ^ (min (16:Int).toNat u32.bits))),u8.wrap (Int.fdiv d (2 ^ (min (8:Int).toNat u32.bits))),u8.wrap d]
def ly(a:Zg):Ŀ Int:=fw (if a.neg=true then u64.wrap (u64.wrap (2*u64.wrap (a.υ.length:Int))+1)else u64.wrap (2*u64.wrap (a.υ.length:Int)))++a.υ.flatMap fG
def mG(a:Zf):Ŀ Int:=ly a.num++ly a.den
def iH(m:Fin 8->Int):Nat->Ŀ Int
 |0=>[]
 |k+1=>iH m k++fw (u64.wrap (Ζ m (k:Int)))
def fV(t:Za):Ŀ Int:=mG t.c++iH t.m 8
def fF(p:Ŀ Za):Ŀ Int:=fw (u64.wrap (p.length:Int))++p.flatMap fV
def fR(l:Ŀ (Ŀ Za)):Ŀ Int:=fw (u64.wrap (l.length:Int))++l.flatMap fF
def gZ(k:Zd):Ŀ Int:=lB k.n++fR k.eqs++fR k.neqs
def yz(f:Fin 8->Int)(a b:Nat):Fin 8->Int:=ε (ε f a (Ζ f (b:Int))) b (Ζ f (a:Int))
def pj(f:Fin 8->Int)(b a:Nat):Nat->Fin 8->Int
 |0=>f
 |k+1=>yz (pj f b a k) (b+k) (b+(a-1-k))
def kN(p:Fin 8->Int):Nat->ŀ Nat
 |0=>none
 |k+1=>if Ζ p ((k+1:Nat):Int)<Ζ p (k:Int)then kN p k else some k
def we(p:Fin 8->Int)(x:Int):Nat->Nat
 |0=>0
 |j+1=>if Ζ p ((j+1:Nat):Int)<x then we p x j else j+1
def oi(n:Nat)(p:Fin 8->Int):ŀ (Fin 8->Int):=match kN p (n-1)with
 |none=>none
 |some i=>some (pj (yz p i (we p (Ζ p (i:Int)) (n-1))) (i+1) (n-(i+1)) ((n-(i+1)) / 2))
def sO(n:Nat):Nat->(Fin 8->Int)->Ŀ (Fin 8->Int)
 |0,_=>[]
 |k+1,p=>p::match oi n p with|none=>[]|some q=>sO n k q
def Α(n:Nat):Ŀ (Fin 8->Int):=sO n 24 λi=>(i.val:Int)
def kE(n:Int):Ŀ Int:=if 0<=n then lB n else fw (u64.wrap (u64.wrap (2*u64.wrap (i64.wrap (0-i64.wrap (n+1))))+1))
def fX(m:Fin 8->Int):Nat->Ŀ Int
 |0=>[]
 |k+1=>fX m k++kE (Ζ m (k:Int))
def jJ(o:Ŀ (Fin 8->Int)):Ŀ Int:=fw (u64.wrap (o.length:Int))++o.flatMap λm=>fX m 8
def oT(q:Zc):Ŀ Int:=kE q.kind++fF q.p++jJ q.o
def lu(s t:Zb):Int:=if s.η<t.η then -1 else if t.η<s.η then 1 else if s.id<t.id then -1 else if t.id<s.id then 1 else 0
def AL:Ĳ:=⟨#[90,101,100]⟩
def AM:Ĳ:=⟨#[121,95,49]⟩
def AN:Ĳ:=⟨#[120]⟩
def QS:Ĳ:=⟨#[0,1,2,2,3,3,3,3,4,4,4,4,4,4,4,4,5,5,5,5,5,5,5,5,5,5,5,5,5,5,5,5,6,6,6,6,6,6,6,6,6,6,6,6,6,6,6,6,6,6,6,6,6,6,6,6,6,6,6,6,6,6,6,6,7,7,7,7,7,7,7,7,7,7,7,7,7,7,7,7,7,7,7,7,7,7,7,7,7,7,7,7,7,7,7,7,7,7,7,7,7,7,7,7,7,7,7,7,7,7,7,7,7,7,7,7,7,7,7,7,7,7,7,7,7,7,7,7,8,8,8,8,8,8,8,8,8,8,8,8,8,8,8,8,8,8,8,8,8,8,8,8,8,8,8,8,8,8,8,8,8,8,8,8,8,8,8,8,8,8,8,8,8,8,8,8,8,8,8,8,8,8,8,8,8,8,8,8,8,8,8,8,8,8,8,8,8,8,8,8,8,8,8,8,8,8,8,8,8,8,8,8,8,8,8,8,8,8,8,8,8,8,8,8,8,8,8,8,8,8,8,8,8,8,8,8,8,8,8,8,8,8,8,8,8,8,8,8,8,8,8,8,8,8,8,8]⟩
def Pm(k:Int):Cq (Ŀ (Ŀ Za)):=Cq.é (0<=k/\k<=1000000) (Cq.ret [])
def Zno(b:(Fin 8->Int))(c:(Fin 8->Int))(a:Int):Cq Int:=
 Cq.é (0<=a/\a<8) (Cq.é (0<=a/\a<8) (if(Ζ b a)<(Ζ c a)then(Cq.ret (-1))else(Cq.ret 1)))
def Znn(b:(Fin 8->Int))(c:(Fin 8->Int)):Int->Cq Int:=
 Cq.loop λd=>match d with|a=>Cq.é (0<=a/\a<8) (Cq.é (0<=a/\a<8) (if(Ζ b a)=(Ζ c a)then(Cq.ret (.inl (i64.wrap (a+1))))else(Cq.ret (.inr a))))
def yN(a:(Fin 8->Int))(b:(Fin 8->Int)):Cq Int:=
 if a=b then(Cq.ret 0)else(Cq.next (Znn a b 0) λc=>match c with|d=>Zno a b d)
def Ps(b:Za)(c:Za):Cq Int:=
 Cq.bind (yN c.m b.m) λa=>Cq.ret a
def Z1(l:Ŀ Za)(a b c:Int):Cq (Ŀ Za):=
 Cq.é (a=0/\b=(l.length:Int)/\(0<=c/\c<1000000)/\l.length<=1000000) (Cq.any (λd=>d.Perm l/\d.Pairwise (λx y=>¬Ü x.m y.m<0)) Cq.ret)
def vh(a:Zg):Cq Int:=
 if(a.υ.length:Int)=0 then(Cq.ret 0)else(if a.neg=true then(Cq.ret (-1))else(Cq.ret 1))
def ZI(b:Zf):Cq Int:=
 Cq.bind (vh b.num) λa=>Cq.ret a
def Znd(b:(Ŀ Int))(a:Int):Cq (Ŀ Int):=
 Cq.é (0<=(0:Int)/\(0:Int)<=a/\a<=(b.length:Int)) (Cq.ret ((b.take a.toNat).drop (0:Int).toNat))
def Znc(b:(Ŀ Int)):Int->Cq Int:=
 Cq.loop λc=>match c with|a=>if 0<a then(Cq.Γ b (i64.wrap (a-1)) λd=>if d=0 then(Cq.ret (.inl (i64.wrap (a-1))))else(Cq.ret (.inr a)))else(Cq.ret (.inr a))
def ZZ(a:(Ŀ Int)):Cq (Ŀ Int):=
 Cq.next (Znc a (a.length:Int)) λb=>match b with|c=>Znd a c
def Aq(a:Int):Cq (Ŀ Int):=
 Cq.bind (ZZ [u32.wrap a,u32.wrap (Int.fdiv a (2 ^ (min (32:Int).toNat u64.bits)))]) λb=>Cq.ret b
def ZT(b:Bool)(c:(Ŀ Int)):Cq Zg:=
 Cq.bind (ZZ c) λa=>if(a.length:Int)=0 then(Cq.ret (Zg.mk false []))else(Cq.ret (Zg.mk b a))
def yV(a:Int):Cq Zg:=
 if a<0 then(Cq.bind (Aq (u64.wrap (0-(u64.wrap a)))) λb=>Cq.bind (ZT (decide (a<0)) b) λc=>Cq.ret c)else(Cq.bind (Aq (u64.wrap a)) λd=>Cq.bind (ZT (decide (a<0)) d) λe=>Cq.ret e)
def w9(a:Zg):Cq Bool:=
 if a.neg=true then(Cq.ret false)else(if(a.υ.length:Int)=1 then(Cq.Γ a.υ 0 λb=>Cq.ret (decide (b=1)))else(Cq.ret false))
def Zj8(a:(Ŀ Int)):Cq (Ŀ Int):=
 Cq.bind (ZZ a) λb=>Cq.ret b
def Zj9(b:(Ŀ Int))(a:Int)(c:(Ŀ Int))(d:Int):Cq (((Ŀ Int)×Int)⊕(Ŀ Int)):=
 Cq.Γ c (i64.wrap (a+(b.length:Int))) λe=>Cq.ret (.inl ((c.set (i64.wrap (a+(b.length:Int))).toNat (u32.wrap d)),i64.wrap (a+1)))
def Zj7(e:(Ŀ Int))(b:Int)(f:Int):((Ŀ Int)×Int×Int)->Cq (((Ŀ Int)×Int)):=
 Cq.loop λi=>match i with|(c,d,a)=>if a<(e.length:Int)then(Cq.Γ e a λg=>Cq.Γ c (i64.wrap (b+a)) λh=>Cq.Γ c (i64.wrap (b+a)) λj=>Cq.ret (.inl ((c.set (i64.wrap (b+a)).toNat (u32.wrap (u64.wrap ((u64.wrap ((u64.wrap ((u64.wrap f)*(u64.wrap g)))+(u64.wrap h)))+d)))),Int.fdiv (u64.wrap ((u64.wrap ((u64.wrap ((u64.wrap f)*(u64.wrap g)))+(u64.wrap h)))+d)) (2 ^ (min (32:Int).toNat u64.bits)),i64.wrap (a+1))))else(Cq.ret (.inr (c,d)))
def Zj6(b:(Ŀ Int))(c:(Ŀ Int)):((Ŀ Int)×Int)->Cq (Ŀ Int):=
 Cq.loop λg=>match g with|(d,a)=>if a<(b.length:Int)then(Cq.Γ b a λh=>Cq.next (Zj7 c a h (d,0,0)) λi=>match i with|(e,f)=>Zj9 c a e f)else(Cq.ret (.inr d))
def PA(a:(Ŀ Int))(b:(Ŀ Int)):Cq (Ŀ Int):=
 Cq.é (0<=i64.wrap ((a.length:Int)+(b.length:Int))/\(i64.wrap ((a.length:Int)+(b.length:Int)))<=1000000) (Cq.next (Zj6 a b ((List.replicate (i64.wrap ((a.length:Int)+(b.length:Int))).toNat 0),0)) λd=>match d with|c=>Zj8 c)
def E2(a:Zg)(b:Zg):Cq Zg:=
 Cq.bind (PA a.υ b.υ) λc=>Cq.bind (ZT (decide (¬a.neg=b.neg)) c) λd=>Cq.ret d
def Zjk(a:Zg):Cq Zg:=
 Cq.ret a
def Zjj(d:(Ŀ Zg)):(Int×Zg)->Cq Zg:=
 Cq.loop λh=>match h with|(a,b)=>if a<(d.length:Int)then(Cq.Γ d a λc=>Cq.bind (w9 c) λe=>if e=true then(Cq.ret (.inl (i64.wrap (a+1),b)))else(Cq.bind (w9 b) λf=>if f=true then(Cq.ret (.inl (i64.wrap (a+1),c)))else(Cq.bind (E2 b c) λg=>Cq.ret (.inl (i64.wrap (a+1),g)))))else(Cq.ret (.inr b))
def vn(c:(Ŀ Zg)):Cq Zg:=
 Cq.bind (yV 1) λa=>Cq.next (Zjj c (0,a)) λd=>match d with|b=>Zjk b
def Zj5:Cq Int:=
 Cq.ret 0
def Zj4(b:(Ŀ Int))(c:(Ŀ Int)):Int->Cq (Int⊕Unit):=
 Cq.loop λd=>match d with|a=>if 0<=a then(Cq.Γ b a λe=>Cq.Γ c a λf=>if ¬e=f then(Cq.Γ b a λg=>Cq.Γ c a λh=>if g<h then(Cq.ret (.inr (.inl (-1))))else(Cq.ret (.inr (.inl 1))))else(Cq.ret (.inl (i64.wrap (a-1)))))else(Cq.ret (.inr (.inr ())))
def Av(a:(Ŀ Int))(b:(Ŀ Int)):Cq Int:=
 if ¬(a.length:Int)=(b.length:Int)then(if(a.length:Int)<(b.length:Int)then(Cq.ret (-1))else(Cq.ret 1))else(Cq.next (Zj4 a b (i64.wrap ((a.length:Int)-1))) λd=>match d with|.inl c=>Cq.ret c|.inr ()=>Zj5)
def Q9(b:Zg)(c:Zg):Cq Int:=
 Cq.bind (vh b) λa=>Cq.bind (vh c) λd=>if ¬a=d then Cq.fail else(if a<0 then(Cq.bind (Av c.υ b.υ) λe=>Cq.ret e)else(Cq.bind (Av b.υ c.υ) λf=>Cq.ret f))
def vi(c:Zf)(d:Zf):Cq Int:=
 Cq.bind (ZI c) λa=>Cq.bind (ZI d) λb=>if ¬a=b then(if a<b then(Cq.ret (-1))else(Cq.ret 1))else(Cq.bind (vn [c.num,d.den]) λe=>Cq.bind (vn [d.num,c.den]) λf=>Cq.bind (Q9 e f) λg=>Cq.ret g)
def Eg(a:Za)(b:Za):Cq Int:=
 if ¬a.m=b.m then(Cq.bind (yN a.m b.m) λd=>Cq.ret d)else(Cq.bind (vi a.c b.c) λe=>Cq.ret e)
def ZA(a:(Ŀ Za))(b:(Ŀ Za)):Cq Int:=
 if(a.length:Int)<(b.length:Int)then(Cq.ret (-1))else(Cq.ret 0)
def ZJ(b:(Ŀ Za))(c:(Ŀ Za)):Int->Cq (Int⊕Unit):=
 Cq.loop λe=>match e with|a=>if a<(b.length:Int)then(Cq.Γ b a λf=>if(c.length:Int)<=a then(Cq.ret (.inr (.inl 1)))else(Cq.Γ c a λg=>Cq.bind (Eg f g) λd=>if ¬d=0 then(Cq.ret (.inr (.inl d)))else(Cq.ret (.inl (i64.wrap (a+1))))))else(Cq.ret (.inr (.inr ())))
def ZC(a:(Ŀ Za))(b:(Ŀ Za)):Cq Int:=
 Cq.next (ZJ a b 0) λd=>match d with|.inl c=>Cq.ret c|.inr ()=>ZA a b
def Eu(b:(Ŀ Za))(c:(Ŀ Za)):Cq Int:=
 Cq.bind (ZC b c) λa=>Cq.ret a
def Po(l:Ŀ (Ŀ Za))(a b c:Int):Cq (Ŀ (Ŀ Za)):=
 Cq.é (a=0/\b=(l.length:Int)/\(0<=c/\c<1000000)/\l.length<=1000000/\l.all Ò=true) (Cq.ret (jI l))
def Ef(a:Za)(b:Za):Cq Bool:=
 if a.m=b.m then(Cq.bind (vi a.c b.c) λd=>Cq.ret (decide (d=0)))else(Cq.ret false)
def Z5:Cq Bool:=
 Cq.ret true
def ZK(b:(Ŀ Za))(c:(Ŀ Za)):Int->Cq (Bool⊕Unit):=
 Cq.loop λe=>match e with|a=>if a<(b.length:Int)then(Cq.Γ b a λf=>Cq.Γ c a λg=>Cq.bind (Ef f g) λd=>if(!d)=true then(Cq.ret (.inr (.inl false)))else(Cq.ret (.inl (i64.wrap (a+1)))))else(Cq.ret (.inr (.inr ())))
def ZD(a:(Ŀ Za))(b:(Ŀ Za)):Cq Bool:=
 if ¬(a.length:Int)=(b.length:Int)then(Cq.ret false)else(Cq.next (ZK a b 0) λd=>match d with|.inl c=>Cq.ret c|.inr ()=>Z5)
def ZV(b:(Ŀ Za))(c:(Ŀ Za)):Cq Bool:=
 Cq.bind (ZD b c) λa=>Cq.ret a
def Zkf(a:Int)(b:Int):Cq Int:=
 Cq.é (0<=(u8.wrap a:Int)/\(u8.wrap a)<(QS.size:Int)) (Cq.ret (i64.wrap (b+(i64.wrap (eS QS (u8.wrap a))))))
def Zkg(a:Int)(b:Int):Cq Int:=
 if 256<=a then Cq.fail else(Zkf a b)
def Zkh(a:Int)(b:Int):Cq Int:=
 if 65536<=a then Cq.fail else(Zkg a b)
def PC(a:Int):Cq Int:=
 if 4294967296<=a then Cq.fail else(Zkh a 0)
def tV(b:Int):Cq Int:=
 Cq.bind (PC b) λa=>Cq.ret a
def ZR(a:(Ŀ (Ŀ Za))):Cq ((Ŀ (Ŀ Za))):=
 Cq.bind (tV (u64.wrap (a.length:Int))) λb=>Cq.bind (Po a 0 (a.length:Int) b) λc=>Cq.ret c
def Au(a:(Ŀ Int)):Cq (Ŀ Int):=
 Cq.é (([]++a).length<=small) (Cq.ret ([]++a))
def Zml(a:Int):Cq Int:=
 Cq.ret a
def Zmk(b:(Ŀ Int)):(Int×Int)->Cq Int:=
 Cq.loop λd=>match d with|(c,a)=>if a<(b.length:Int)then(Cq.Γ b a λe=>Cq.é (0<=(i64.wrap (32*a))) (Cq.ret (.inl (u64.wrap (BitVec.ofInt u64.bits c ||| BitVec.ofInt u64.bits (u64.wrap ((u64.wrap e)*2 ^ (min (i64.wrap (32*a)).toNat u64.bits)))).toNat,i64.wrap (a+1)))))else(Cq.ret (.inr c))
def J9(a:(Ŀ Int)):Cq Int:=
 Cq.next (Zmk a (0,0)) λb=>match b with|c=>Zml c
def Zhd(c:(Ŀ Int))(a:Int):Cq ((Ŀ Int)×Int):=
 Cq.bind (ZZ c) λb=>Cq.ret (b,a)
def Zhc(f:(Ŀ Int))(c:Int):((Ŀ Int)×Int×Int)->Cq (((Ŀ Int)×Int)):=
 Cq.loop λg=>match g with|(d,a,b)=>if 0<=b then(Cq.Γ f b λe=>Cq.é (c≠0) (Cq.Γ d b λh=>Cq.é (c≠0) (Cq.ret (.inl ((d.set b.toNat (u32.wrap (u64.wrap (Int.tdiv (u64.wrap (BitVec.ofInt u64.bits (u64.wrap (a*2 ^ (min (32:Int).toNat u64.bits))) ||| BitVec.ofInt u64.bits (u64.wrap e)).toNat) c)))),Int.tmod (u64.wrap (BitVec.ofInt u64.bits (u64.wrap (a*2 ^ (min (32:Int).toNat u64.bits))) ||| BitVec.ofInt u64.bits (u64.wrap e)).toNat) c,i64.wrap (b-1))))))else(Cq.ret (.inr (d,a)))
def Pw(a:(Ŀ Int))(c:Int):Cq ((Ŀ Int)×Int):=
 Cq.é (0<=(a.length:Int)/\(a.length:Int)<=1000000) (Cq.next (Zhc a c ((List.replicate (a.length:Int).toNat 0),0,i64.wrap ((a.length:Int)-1))) λd=>match d with|(e,b)=>Zhd e b)
def JN(d:(Ŀ Int))(e:(Ŀ Int)):Cq ((Ŀ Int)×(Ŀ Int)):=
 Cq.bind (ZZ d) λa=>Cq.bind (ZZ e) λb=>Cq.bind (Av a b) λf=>if f<0 then(Cq.bind (Au a) λg=>Cq.ret ([],g))else(if(b.length:Int)=1 then(Cq.Γ b 0 λi=>Cq.bind (Pw a (u64.wrap i)) λc=>Cq.bind (Aq c.2) λh=>Cq.ret (c.1,h))else Cq.fail)
def Zop(b:(Ŀ Int)):Cq Zg:=
 Cq.bind (ZT false b) λa=>Cq.ret a
def Zoq(c:Int):Cq (((Ŀ Int)×(Ŀ Int)×Zg)⊕(Zg⊕((Ŀ Int)×Zg))):=
 Cq.bind (Aq c) λb=>Cq.bind (ZT false b) λa=>Cq.ret (.inr (.inl a))
def Zoo:(Int×Int)->Cq Int:=
 Cq.loop λc=>match c with|(b,a)=>if 0<a then(Cq.é (a≠0) (Cq.ret (.inl (a,Int.tmod b a))))else(Cq.ret (.inr b))
def JM(d:(Ŀ Int))(a:(Ŀ Int))(e:Zg)(b:Bool):Cq (((Ŀ Int)×(Ŀ Int)×Zg)⊕(Zg⊕((Ŀ Int)×Zg))):=
 if b=true then(Cq.bind (J9 d) λf=>Cq.bind (J9 a) λg=>Cq.next (Zoo (f,g)) λh=>match h with|i=>Zoq i)else(Cq.bind (JN d a) λc=>Cq.ret (.inl (a,c.2,e)))
def Zon:((Ŀ Int)×(Ŀ Int)×Zg)->Cq (Zg⊕((Ŀ Int)×Zg)):=
 Cq.loop λd=>match d with|(c,a,b)=>if 0<(a.length:Int)then(if(c.length:Int)<=2 then(JM c a b (decide ((a.length:Int)<=2)))else(JM c a b false))else(Cq.ret (.inr (.inr (c,b))))
def xu(f:Zg)(g:Zg):Cq Zg:=
 Cq.bind (ZZ f.υ) λa=>Cq.bind (Au a) λb=>Cq.bind (ZZ g.υ) λc=>Cq.bind (Au c) λd=>Cq.next (Zon (b,d,(Zg.mk false []))) λh=>match h with|.inl e=>Cq.ret e|.inr (i,j)=>Zop i
def J8(a:Zg):Cq Bool:=
 if(a.υ.length:Int)=0 then(Cq.ret (!a.neg))else(Cq.Γ a.υ (i64.wrap ((a.υ.length:Int)-1)) λb=>Cq.ret (decide (¬b=0)))
def Zlb(a:Zf):Cq Bool:=
 Cq.bind (w9 a.den) λb=>match b with|false=>(Cq.bind (xu a.num a.den) λc=>Cq.bind (w9 c) λd=>Cq.ret d)|true=>(Cq.ret true)
def Z0(a:Zf):Cq Bool:=
 Cq.bind (J8 a.num) λb=>match b with|false=>(Cq.ret false)|true=>(Cq.bind (J8 a.den) λc=>match c with|false=>(Cq.ret false)|true=>(Cq.bind (vh a.den) λd=>if d<=0 then Cq.fail else(Zlb a)))
def Zla:Cq Bool:=
 Cq.ret true
def Zk9(b:(Fin 8->Int)):Int->Cq (Bool⊕Unit):=
 Cq.loop λc=>match c with|a=>if a<8 then(Cq.é (0<=a/\a<8) (if(Ζ b a)<0 then(Cq.ret (.inr (.inl false)))else(if 65535<(Ζ b a)then Cq.fail else(Cq.ret (.inl (i64.wrap (a+1)))))))else(Cq.ret (.inr (.inr ())))
def Es(b:(Fin 8->Int)):Cq Bool:=
 Cq.next (Zk9 b 0) λc=>match c with|.inl a=>Cq.ret a|.inr ()=>Zla
def Zji:Cq Bool:=
 Cq.ret true
def Jk(c:(Ŀ Za))(a:Int)(d:Za):Cq (Int⊕(Bool⊕Unit)):=
 if 0<a then(Cq.Γ c (i64.wrap (a-1)) λe=>Cq.bind (yN e.m d.m) λb=>if b<=0 then Cq.fail else(Cq.ret (.inl (i64.wrap (a+1)))))else(Cq.ret (.inl (i64.wrap (a+1))))
def Zjh(d:(Ŀ Za)):Int->Cq (Bool⊕Unit):=
 Cq.loop λh=>match h with|a=>if a<(d.length:Int)then(Cq.Γ d a λb=>Cq.bind (Z0 b.c) λe=>match e with|false=>(Cq.ret (.inr (.inl false)))|true=>(Cq.bind (ZI b.c) λf=>if f=0 then(Cq.ret (.inr (.inl false)))else(Cq.bind (Es b.m) λg=>if(!g)=true then(Cq.ret (.inr (.inl false)))else(Jk d a b))))else(Cq.ret (.inr (.inr ())))
def Ap(b:(Ŀ Za)):Cq Bool:=
 Cq.next (Zjh b 0) λc=>match c with|.inl a=>Cq.ret a|.inr ()=>Zji
def Zje(a:Int):Cq Int:=
 Cq.ret a
def Zjd(c:(Fin 8->Int)):(Int×Int)->Cq Int:=
 Cq.loop λd=>match d with|(b,a)=>if a<8 then(Cq.é (0<=a/\a<8) (if 0<(Ζ c a)then(Cq.é (0<=a) (Cq.ret (.inl (u8.wrap (BitVec.ofInt u8.bits b ||| BitVec.ofInt u8.bits (u8.wrap (1*2 ^ (min (a).toNat u8.bits)))).toNat,i64.wrap (a+1)))))else(Cq.ret (.inl (b,i64.wrap (a+1))))))else(Cq.ret (.inr b))
def JD(a:(Fin 8->Int)):Cq Int:=
 Cq.next (Zjd a (0,0)) λb=>match b with|c=>Zje c
def Zku(a:Int):Cq Int:=
 Cq.ret a
def Zkt(b:(Ŀ Za)):(Int×Int)->Cq Int:=
 Cq.loop λe=>match e with|(c,a)=>if a<(b.length:Int)then(Cq.Γ b a λf=>Cq.bind (JD f.m) λd=>Cq.ret (.inl (u8.wrap (BitVec.ofInt u8.bits c ||| BitVec.ofInt u8.bits d).toNat,i64.wrap (a+1))))else(Cq.ret (.inr c))
def Aw(a:(Ŀ Za)):Cq Int:=
 Cq.next (Zkt a (0,0)) λb=>match b with|c=>Zku c
def Zkk(a:Int):Cq Int:=
 Cq.ret a
def Zkj(c:(Fin 8->Int)):(Int×Int)->Cq Int:=
 Cq.loop λd=>match d with|(b,a)=>if a<8 then(Cq.é (0<=a/\a<8) (Cq.ret (.inl (i64.wrap (b+(Ζ c a)),i64.wrap (a+1)))))else(Cq.ret (.inr b))
def Jy(a:(Fin 8->Int)):Cq Int:=
 Cq.next (Zkj a (0,0)) λb=>match b with|c=>Zkk c
def Zix(a:Int):Cq Int:=
 Cq.ret a
def Ziw(d:(Ŀ Za)):(Int×Int)->Cq Int:=
 Cq.loop λe=>match e with|(c,a)=>if a<(d.length:Int)then(Cq.Γ d a λf=>Cq.bind (Jy f.m) λb=>Cq.ret (.inl (if c<b then b else c,i64.wrap (a+1))))else(Cq.ret (.inr c))
def xf(a:(Ŀ Za)):Cq Int:=
 Cq.next (Ziw a ((-1),0)) λb=>match b with|c=>Zix c
def ç(a:ZE)(b:(Ŀ Za))(f:Int):Cq Bool:=
 Cq.bind (Ap b) λc=>match c with|false=>(Cq.ret false)|true=>(Cq.bind (Aw b) λd=>Cq.é (0<=a.k.n) (if(Int.fdiv (i64.wrap d) (2 ^ (min (a.k.n).toNat i64.bits)))=0 then(Cq.bind (xf b) λe=>Cq.ret (decide (e<=f)))else(Cq.ret false)))
def Zk8(d:Zg)(e:Zg)(f:(Ŀ Int))(a:(Ŀ Int)):Cq (Zg×Zg×Int):=
 Cq.bind (ZT (decide (¬d.neg=e.neg)) f) λb=>Cq.bind (ZT false a) λc=>Cq.ret (b,c,0)
def Py(c:Zg)(d:Zg)(b:(Ŀ Int)×(Ŀ Int))(a:Bool):Cq (Zg×Zg×Int):=
 if a=true then Cq.fail else(Zk8 c d b.1 b.2)
def Az(b:Zg)(c:Zg):Cq (Zg×Zg×Int):=
 Cq.bind (ZZ c.υ) λd=>if(d.length:Int)=0 then Cq.fail else(Cq.bind (JN b.υ c.υ) λa=>if b.neg=true then(Py b c a (decide (0<(a.2.length:Int))))else(Py b c a false))
def Ax(c:Zg)(a:Zg):Cq Zf:=
 Cq.bind (w9 a) λd=>if d=true then(Cq.ret (Zf.mk c a))else(Cq.bind (xu c a) λb=>Cq.bind (w9 b) λe=>if e=true then(Cq.ret (Zf.mk c a))else(Cq.bind (Az c b) λf=>Cq.bind (Az a b) λg=>Cq.ret (Zf.mk f.1 g.1)))
def ED(e:Zg)(a:Zg):Cq (Zf×Int):=
 Cq.bind (vh a) λb=>if b=0 then Cq.fail else(Cq.bind (vh a) λc=>if c<0 then Cq.fail else(Cq.bind (Ax e a) λd=>Cq.ret (d,0)))
def Znq(a:(Fin 8->Int)):Cq ((Fin 8->Int)×Int):=
 Cq.bind (Es a) λb=>if(!b)=true then Cq.fail else(Cq.ret (a,0))
def Znp(c:(Fin 8->Int)):(Int×(Fin 8->Int))->Cq (Fin 8->Int):=
 Cq.loop λd=>match d with|(a,b)=>if a<8 then(Cq.é (0<=a/\a<8) (Cq.é (0<=a/\a<8) (Cq.é (0<=a/\a<8) (Cq.ret (.inl (i64.wrap (a+1),ε b a.toNat (i64.wrap ((Ζ b a)+(Ζ c a)))))))))else(Cq.ret (.inr b))
def Kr(b:(Fin 8->Int))(c:(Fin 8->Int)):Cq ((Fin 8->Int)×Int):=
 Cq.next (Znp c (0,b)) λd=>match d with|a=>Znq a
def Z9(c:Zf)(d:Zf):Cq Zf:=
 Cq.bind (Ax c.num d.den) λa=>Cq.bind (Ax d.num c.den) λb=>Cq.bind (vn [a.num,b.num]) λe=>Cq.bind (vn [a.den,b.den]) λf=>Cq.ret (Zf.mk e f)
def Zjg(a:(Ŀ Za)):Cq ((Ŀ Za)×Int):=
 Cq.ret (a,0)
def Zjf(h:Zf)(i:(Fin 8->Int))(f:(Ŀ Za)):((Ŀ Za)×Int)->Cq (((Ŀ Za)×Int)⊕(Ŀ Za)):=
 Cq.loop λj=>match j with|(b,a)=>if a<(f.length:Int)then(Cq.Γ f a λg=>Cq.bind (Kr i g.m) λd=>if ¬d.2=0 then Cq.fail else(Cq.bind (Z9 h g.c) λe=>Cq.é ((b++[(Za.mk e d.1)]).length<=small) (Cq.ret (.inl ((b++[(Za.mk e d.1)]),i64.wrap (a+1))))))else(Cq.ret (.inr (.inr b)))
def JE(b:Zf)(f:(Fin 8->Int))(a:(Ŀ Za)):Cq ((Ŀ Za)×Int):=
 Cq.bind (ZI b) λc=>if c=0 then Cq.fail else(Cq.é (0<=(a.length:Int)/\(a.length:Int)<=1000000) (Cq.next (Zjf b f a (([]:Ŀ Za),0)) λg=>match g with|.inl d=>Cq.ret d|.inr e=>Zjg e))
def yL(a:Zg):Cq Zg:=
 Cq.bind (Au a.υ) λb=>Cq.bind (ZT (!a.neg) b) λc=>Cq.ret c
def P5(a:(Ŀ Za))(b:Zg)(c:Zg):Cq (Ŀ Za):=
 Cq.bind (ED c b) λd=>Cq.bind (JE d.1 (λ_=>0) a) λe=>Cq.ret e.1
def JQ(a:(Ŀ Za))(b:Zg)(d:Zg):Cq (Ŀ Za):=
 Cq.Γ a 0 λg=>Cq.bind (ZI g.c) λe=>if e<0 then(Cq.bind (yL d) λf=>P5 a b f)else(P5 a b d)
def P4(b:(Ŀ Za)):(Int×Zg×Zg)->Cq (Zg×Zg):=
 Cq.loop λk=>match k with|(a,e,d)=>if a<(b.length:Int)then(Cq.Γ b a λf=>Cq.bind (xu e f.c.num) λh=>Cq.bind (xu d f.c.den) λi=>Cq.bind (Az f.c.den i) λj=>Cq.bind (E2 d j.1) λg=>Cq.ret (.inl (i64.wrap (a+1),h,g)))else(Cq.ret (.inr (e,d)))
def AE(a:(Ŀ Za)):Cq (Ŀ Za):=
 if(a.length:Int)=0 then Cq.fail else(Cq.bind (yV 0) λb=>Cq.bind (yV 1) λc=>Cq.next (P4 a (0,b,c)) λf=>match f with|(d,e)=>JQ a d e)
def gb:Cq Bool:=
 Cq.ret true
def ga(e:ZE)(d:(Ŀ (Ŀ Za)))(b:Int):Int->Cq (Bool⊕Unit):=
 Cq.loop λk=>match k with|a=>if a<(d.length:Int)then(Cq.Γ d a λc=>Cq.bind (ç e c 12) λf=>match f with|false=>(Cq.ret (.inr (.inl false)))|true=>(Cq.bind (xf c) λg=>if g<b then(Cq.ret (.inr (.inl false)))else(Cq.bind (AE c) λh=>Cq.bind (ZV h c) λi=>if(!i)=true then(Cq.ret (.inr (.inl false)))else(if 0<a then(Cq.Γ d (i64.wrap (a-1)) λl=>Cq.bind (Eu l c) λj=>if 0<=j then(Cq.ret (.inr (.inl false)))else(Cq.ret (.inl (i64.wrap (a+1)))))else(Cq.ret (.inl (i64.wrap (a+1))))))))else(Cq.ret (.inr (.inr ())))
def À(b:ZE)(c:(Ŀ (Ŀ Za)))(a:Int):Cq Bool:=
 if 12<(c.length:Int)then(Cq.ret false)else(Cq.next (ga b c a 0) λe=>match e with|.inl d=>Cq.ret d|.inr ()=>gb)
def Ã(a:ZE):Cq Bool:=
 if 1<=a.k.n then(if a.k.n<=4 then(Cq.bind (À a a.k.eqs 0) λb=>match b with|false=>(Cq.ret false)|true=>(Cq.bind (À a a.k.neqs 1) λc=>Cq.ret c))else(Cq.ret false))else(Cq.ret false)
def vl(b:Zd):Cq Bool:=
 Cq.bind (Ã (ZE.mk b)) λa=>Cq.ret a
def vp(k:Zd):Cq Ĳ:=Cq.bind (vl k) λv=>match v with|true=>Cq.é (0<=k.n/\(gZ k).length<=1000000) (Cq.ret (bytesOf (gZ k)))|false=>Cq.ret ByteArray.empty
def ZL(a:(Ŀ Za)):Cq (Ŀ Za):=
 Cq.bind (tV (u64.wrap (a.length:Int))) λb=>Cq.bind (Z1 a 0 (a.length:Int) b) λc=>Cq.ret c
def Ziz(a:(Ŀ Za)):Cq (Ŀ Za):=
 Cq.bind (ZL a) λb=>Cq.ret b
def Ziy:((Ŀ Za)×Ŀ ((Fin 8->Int)×Zf))->Cq (Ŀ Za):=
 Cq.loop λd=>match d with|(a,f)=>Cq.pick f (Cq.ret (.inr a)) λb e=>Cq.bind (ZI b.2) λc=>if ¬c=0 then(Cq.é ((a++[(Za.mk b.2 b.1)]).length<=small) (Cq.ret (.inl ((a++[(Za.mk b.2 b.1)]),e))))else(Cq.ret (.inl (a,e)))
def Jp(a:(Ŀ ((Fin 8->Int)×Zf))):Cq (Ŀ Za):=
 Cq.é (0<=(a.length:Int)/\(a.length:Int)<=1000000) (Cq.next (Ziy (([]:Ŀ Za),a)) λc=>match c with|b=>Ziz b)
def ZhF(a:(Ŀ ((Fin 8->Int)×Zf))):Cq ((Ŀ Za)×Int):=
 Cq.bind (Jp a) λb=>Cq.ret (b,0)
def ZhG(b:Int)(d:(Ŀ ((Fin 8->Int)×Zf)))(e:Za)(a:(Fin 8->Int)):Cq ((Int×(Ŀ ((Fin 8->Int)×Zf)))⊕(((Ŀ ((Fin 8->Int)×Zf))))):=
 Cq.é ((∀i,(Lit.int i64 (a i)).wf=true)/\(eV d a e.c).length<=small) (Cq.ret (.inl (i64.wrap (b+1),(eV d a e.c))))
def Pv(b:(Fin 8->Int))(d:Za):(Int×(Fin 8->Int))->Cq (Fin 8->Int):=
 Cq.loop λe=>match e with|(a,c)=>if a<8 then(Cq.é (0<=a/\a<8) (Cq.é (0<=a/\a<8) (Cq.é (0<=Ζ b a/\(Ζ b a)<8) (Cq.ret (.inl (i64.wrap (a+1),ε c ((Ζ b a).toNat) (Ζ d.m a)))))))else(Cq.ret (.inr c))
def ZhD(d:(Ŀ Za))(b:(Fin 8->Int)):(Int×(Ŀ ((Fin 8->Int)×Zf)))->Cq (((Ŀ ((Fin 8->Int)×Zf)))):=
 Cq.loop λg=>match g with|(a,c)=>if a<(d.length:Int)then(Cq.Γ d a λe=>Cq.next (Pv b e (0,(λ_=>0))) λh=>match h with|f=>ZhG a c e f)else(Cq.ret (.inr c))
def Pt(c:(Ŀ Za))(a:(Fin 8->Int)):Cq ((Ŀ Za)×Int):=
 Cq.next (ZhD c a (0,[])) λd=>match d with|b=>ZhF b
def ZhE(b:(Fin 8->Int)):(Int×(Fin 8->Bool))->Cq (((Ŀ Za)×Int)⊕Unit):=
 Cq.loop λd=>match d with|(a,c)=>if a<8 then(Cq.é (0<=a/\a<8) (if(Ζ b a)<0 then(Cq.ret (.inr (.inl ([],1))))else(if 8<=(Ζ b a)then(Cq.ret (.inr (.inl ([],1))))else(Cq.é (0<=Ζ b a/\(Ζ b a)<8) (if(Ζ c (Ζ b a))=true then Cq.fail else(Cq.é (0<=Ζ b a/\(Ζ b a)<8) (Cq.ret (.inl (i64.wrap (a+1),ε c ((Ζ b a).toNat) true)))))))))else(Cq.ret (.inr (.inr ())))
def Ee(c:(Ŀ Za))(a:(Fin 8->Int)):Cq ((Ŀ Za)×Int):=
 Cq.next (ZhE a (0,(λ_=>false))) λd=>match d with|.inl b=>Cq.ret b|.inr ()=>Pt c a
def ZkH(a:(Ŀ (Ŀ Za))):Cq ((Ŀ (Ŀ Za))):=
 Cq.ret a
def ZkG(d:(Ŀ (Ŀ Za)))(c:(Fin 8->Int)):((Ŀ (Ŀ Za))×Int)->Cq (((Ŀ (Ŀ Za)))):=
 Cq.loop λf=>match f with|(b,a)=>if a<(d.length:Int)then(Cq.Γ d a λg=>Cq.bind (Ee g c) λe=>Cq.Γ b a λh=>Cq.ret (.inl ((b.set a.toNat e.1),i64.wrap (a+1))))else(Cq.ret (.inr b))
def Ay(a:(Ŀ (Ŀ Za)))(b:(Fin 8->Int)):Cq ((Ŀ (Ŀ Za))):=
 Cq.é (0<=(a.length:Int)/\(a.length:Int)<=1000000) (Cq.next (ZkG a b ((List.replicate (a.length:Int).toNat []),0)) λd=>match d with|c=>ZkH c)
def ZcR(a:(Ŀ (Ŀ Za))):Cq ((Ŀ (Ŀ Za))):=
 Cq.ret a
def ZcP(b:(Ŀ (Ŀ (Ŀ Za)))):((Ŀ (Ŀ Za))×Int)->Cq (((Ŀ (Ŀ Za)))):=
 Cq.loop λe=>match e with|(a,c)=>if c<(b.length:Int)then(Cq.Γ b c λd=>Cq.é ((a++d).length<=small) (Cq.ret (.inl ((a++d),i64.wrap (c+1)))))else(Cq.ret (.inr a))
def ZcS(b:(Ŀ (Ŀ (Ŀ Za))))(c:Int):Cq ((Ŀ (Ŀ Za))):=
 Cq.bind (Pm c) λd=>Cq.next (ZcP b (d,0)) λe=>match e with|a=>ZcR a
def ZcQ(a:(Ŀ (Ŀ (Ŀ Za)))):(Int×Int)->Cq Int:=
 Cq.loop λe=>match e with|(b,c)=>if c<(a.length:Int)then(Cq.Γ a c λd=>if(i64.wrap (b+(d.length:Int)))<0 then Cq.fail else(Cq.ret (.inl (i64.wrap (b+(d.length:Int)),i64.wrap (c+1)))))else(Cq.ret (.inr b))
def Jj(a:(Ŀ (Ŀ (Ŀ Za)))):Cq ((Ŀ (Ŀ Za))):=
 Cq.next (ZcQ a (0,0)) λc=>match c with|b=>ZcS a b
def PU(b:Zg):Cq Zf:=
 Cq.bind (yV 1) λa=>Cq.ret (Zf.mk b a)
def w7(c:Int):Cq Zf:=
 Cq.bind (yV c) λa=>Cq.bind (PU a) λb=>Cq.ret b
def Ea(a:Zf):Cq (Ŀ Za):=
 Cq.bind (ZI a) λb=>if b=0 then Cq.fail else(Cq.ret [(Za.mk a (λ_=>0))])
def KJ(a:(Ŀ Za))(b:Int):Cq Bool:=
 Cq.bind (Ap a) λc=>match c with|false=>(Cq.ret false)|true=>(Cq.bind (Aw a) λd=>Cq.é (0<=b) (if(Int.fdiv (i64.wrap d) (2 ^ (min (b).toNat i64.bits)))=0 then(Cq.bind (xf a) λe=>Cq.ret (decide (e<=12)))else(Cq.ret false)))
def PI(e:Int)(a:(Ŀ (Ŀ Za)))(b:(Ŀ (Ŀ Za))):Cq (Zd×Int):=
 Cq.bind (El a) λc=>Cq.bind (El b) λd=>if 12<(c.length:Int)then(Cq.ret ((Zd.mk 0 [] []),2))else(if 12<(d.length:Int)then(Cq.ret ((Zd.mk 0 [] []),2))else(Cq.ret ((Zd.mk e c d),0)))
def ZmF(d:(Ŀ (Ŀ Za))):((Ŀ (Ŀ Za))×(Ŀ (Ŀ Za))×Int)->Cq (((Ŀ (Ŀ Za))×(Ŀ (Ŀ Za)))):=
 Cq.loop λj=>match j with|(a,b,c)=>if c<(d.length:Int)then(Cq.Γ d c λg=>if(g.length:Int)=0 then(Cq.bind (w7 1) λh=>Cq.bind (Ea h) λe=>Cq.é ((a++[e]).length<=small) (Cq.ret (.inl ((a++[e]),b,i64.wrap (c+1)))))else(Cq.bind (xf g) λi=>if 0<i then(Cq.bind (AE g) λf=>Cq.é ((b++[f]).length<=small) (Cq.ret (.inl (a,(b++[f]),i64.wrap (c+1)))))else(Cq.ret (.inl (a,b,i64.wrap (c+1))))))else(Cq.ret (.inr (a,b)))
def PJ(d:Int)(e:(Ŀ (Ŀ Za)))(a:(Ŀ (Ŀ Za))):Cq (Zd×Int):=
 Cq.next (ZmF e (a,[],0)) λf=>match f with|(b,c)=>PI d b c
def ZmG(c:(Ŀ (Ŀ Za))):((Ŀ (Ŀ Za))×Int)->Cq (((Ŀ (Ŀ Za)))):=
 Cq.loop λf=>match f with|(a,b)=>if b<(c.length:Int)then(Cq.Γ c b λe=>if 0<(e.length:Int)then(Cq.bind (AE e) λd=>Cq.é ((a++[d]).length<=small) (Cq.ret (.inl ((a++[d]),i64.wrap (b+1)))))else(Cq.ret (.inl (a,i64.wrap (b+1)))))else(Cq.ret (.inr a))
def PK(b:Int)(c:(Ŀ (Ŀ Za)))(d:(Ŀ (Ŀ Za))):Cq (Zd×Int):=
 Cq.next (ZmG c ([],0)) λe=>match e with|a=>PJ b d a
def PH(d:Int)(b:(Ŀ (Ŀ Za))):(Int×Zd)->Cq ((Zd×Int)⊕Zd):=
 Cq.loop λf=>match f with|(a,c)=>if a<(b.length:Int)then(Cq.Γ b a λg=>Cq.bind (KJ g d) λe=>if(!e)=true then(Cq.ret (.inr (.inl ((Zd.mk 0 [] []),1))))else(Cq.ret (.inl (i64.wrap (a+1),c))))else(Cq.ret (.inr (.inr c)))
def PL(a:Int)(b:(Ŀ (Ŀ Za)))(c:(Ŀ (Ŀ Za)))(d:Zd):Cq (Zd×Int):=
 Cq.bind (Jj [b,c]) λe=>Cq.next (PH a e (0,d)) λg=>match g with|.inl f=>Cq.ret f|.inr h=>PK a b c
def Ar(a:Int)(b:(Ŀ (Ŀ Za)))(c:(Ŀ (Ŀ Za))):Cq (Zd×Int):=
 if a<1 then(Cq.ret ((Zd.mk 0 [] []),1))else(if 4<a then(Cq.ret ((Zd.mk 0 [] []),1))else(PL a b c (Zd.mk 0 [] [])))
def sa(k:Zd)(p:(Fin 8->Int))(s:Zd×(Fin 8->Int)×Ĳ):Cq (Zd×(Fin 8->Int)×Ĳ):=Cq.bind (Ay k.eqs p) λa=>Cq.bind (Ay k.neqs p) λb=>Cq.bind (Ar k.n a b) λr=>if ¬r.2=0 then Cq.ret s else Cq.bind (vp r.1) λt=>if s.2.2=ByteArray.empty then Cq.ret (r.1,p,t)else if Op.bytesLess t.toList s.2.2.toList=true then Cq.ret (r.1,p,t)else Cq.ret s
def nj(k:Zd):Ŀ (Fin 8->Int)->(Zd×(Fin 8->Int)×Ĳ)->Cq (Zd×(Fin 8->Int)×Ĳ)
 |[],s=>Cq.ret s
 |p::l,s=>Cq.bind (sa k p s) λs'=>nj k l s'
def EF(k:Zd):Cq (Zd×(Fin 8->Int)):=Cq.é (1<=k.n/\k.n<=4) (Cq.bind (nj k (Α k.n.toNat) (⟨0,[],[]⟩,(λ_=>0),ByteArray.empty)) λs=>Cq.ret (s.1,s.2.1))
def A8(q:Zc):Cq Ĳ:=Cq.é ((oT q).length<=1000000) (Cq.ret (bytesOf (oT q)))
def cmp_isNaN_int(a:Int):Cq Bool:=
 Cq.ret (decide (¬a=a))
def Ey(b:Int)(a:Int):Cq Int:=
 Cq.bind (cmp_isNaN_int b) λc=>Cq.bind (cmp_isNaN_int a) λd=>if c=true then Cq.fail else(if d=true then Cq.fail else(if b<a then(Cq.ret (-1))else(if a<b then(Cq.ret 1)else(Cq.ret 0))))
def ZpW:Cq Int:=
 Cq.ret 0
def ZpV(b:(Ŀ Int)):Int->Cq (Int⊕Unit):=
 Cq.loop λd=>match d with|a=>if a<(b.length:Int)then(Cq.Γ b a λc=>if ¬c=0 then(Cq.ret (.inr (.inl c)))else(Cq.ret (.inl (i64.wrap (a+1)))))else(Cq.ret (.inr (.inr ())))
def KT(a:(Ŀ Int)):Cq Int:=
 Cq.next (ZpV a 0) λc=>match c with|.inl b=>Cq.ret b|.inr ()=>ZpW
def Kd(a:Zb)(b:Zb):Cq Int:=
 Cq.bind (Ey a.η b.η) λc=>Cq.bind (Ey a.id b.id) λd=>Cq.bind (KT [c,d]) λe=>Cq.ret e
def Pq(l:Ŀ Zb)(a b c:Int):Cq (Ŀ Zb):=
 Cq.é (a=0/\b=(l.length:Int)/\(0<=c/\c<1000000)/\l.length<=1000000) (Cq.any (λd=>d.Perm l/\d.Pairwise (λx y=>¬lu y x<0)) Cq.ret)
def Jr(b:Zc)(a:Bool):Cq (Ŀ Zc):=
 if a=true then(Cq.ret [(Zc.mk 5 [] [])])else(if b.kind=7 then(Cq.ret [(Zc.mk 6 [] [])])else(Cq.ret []))
def Js(a:Zc)(b:Bool):Cq (Ŀ Zc):=
 if b=true then(Cq.ret [(Zc.mk 4 [] [])])else(if a.kind=6 then(Jr a (decide (a.kind=6)))else(Jr a (decide (a.kind=10))))
def yO(a:Zc):Cq (Ŀ Zc):=
 if a.kind=5 then(Js a (decide (a.kind=5)))else(Js a (decide (a.kind=8)))
def tG(c:Zd)(d:Zc):Cq Ĳ:=
 Cq.bind (vp c) λa=>Cq.bind (A8 d) λb=>Cq.é ((a.size:Int)+b.size<=1000000) (Cq.ret (a++b))
abbrev nU:=(Int×Int)×Ŀ (Ĳ×Int)×Ze
def pe(f:Zc->Ŀ (Ĳ×Int)->Ze->Cq nU)(T:Ŀ (Ĳ×Int)->Ze->Cq nU):Ŀ Zc->Ŀ (Ĳ×Int)->Ze->Cq nU
 |[],D,B=>T D B
 |x::l,D,B=>Cq.bind (f x D B) λo=>Cq.é (o.1.2=0) (pe f T l o.2.1 o.2.2)
def tf(k:Zd)(q:Zc)(D:Ŀ (Ĳ×Int))(B:Ze):Cq nU:=
 Cq.bind (tG k q) λs=>Cq.é (s.size<=1000000) (match fi D s with
  |some a=>Cq.ret ((a,0),D,B)
  |none=>Cq.é (((B.t.length:Int)<100/\B.next<1000000)/\(eV D s B.next).length<=small) (Cq.ret ((B.next,0),eV D s B.next,⟨B.t++[Zb.mk B.next k q 0 0 (-1) false],i64.wrap (B.next+1)⟩)))
def vm:Nat->Zd->Zc->Ŀ (Ĳ×Int)->Ze->Cq nU
 |0,_,_,_,_=>Cq.fail
 |n+1,k,q,D,B=>Cq.bind (yO q) λl=>pe (vm n k) (tf k q) l D B
def Fk(a:(Ŀ Int))(b:Int):Cq (Ŀ Int):=
 Cq.é ((a++[u8.wrap b]).length<=small) (Cq.ret (a++[u8.wrap b]))
def Fj:((Ŀ Int)×Int)->Cq (((Ŀ Int)×Int)):=
 Cq.loop λc=>match c with|(b,a)=>if 127<a then(Cq.é ((b++[u8.wrap ((u8.wrap (Int.tmod a 128))+128)]).length<=small) (Cq.ret (.inl ((b++[u8.wrap ((u8.wrap (Int.tmod a 128))+128)]),u64.wrap (Int.tdiv a 128)))))else(Cq.ret (.inr (b,a)))
def uj(a:(Ŀ Int))(b:Int):Cq (Ŀ Int):=
 Cq.next (Fj (a,b)) λc=>match c with|(d,e)=>Fk d e
def AU(b:(Ŀ Int))(a:Int):Cq (Ŀ Int):=
 if a<0 then(Cq.bind (uj b (u64.wrap ((u64.wrap ((u64.wrap (i64.wrap (0-(i64.wrap (a+1)))))*2))+1))) λc=>Cq.ret c)else(Cq.bind (uj b (u64.wrap ((u64.wrap a)*2))) λd=>Cq.ret d)
def ZqU(a:(Ŀ Int)):Cq (Ŀ Int):=
 Cq.ret a
def ZqT(d:Zg):((Ŀ Int)×Int)->Cq (Ŀ Int):=
 Cq.loop λe=>match e with|(b,c)=>if c<(d.υ.length:Int)then(Cq.Γ d.υ c λa=>Cq.é ((b++[u8.wrap (Int.fdiv a (2 ^ (min (24:Int).toNat u32.bits))),u8.wrap (Int.fdiv a (2 ^ (min (16:Int).toNat u32.bits))),u8.wrap (Int.fdiv a (2 ^ (min (8:Int).toNat u32.bits))),u8.wrap a]).length<=small) (Cq.ret (.inl ((b++[u8.wrap (Int.fdiv a (2 ^ (min (24:Int).toNat u32.bits))),u8.wrap (Int.fdiv a (2 ^ (min (16:Int).toNat u32.bits))),u8.wrap (Int.fdiv a (2 ^ (min (8:Int).toNat u32.bits))),u8.wrap a]),i64.wrap (c+1)))))else(Cq.ret (.inr b))
def EK(c:(Ŀ Int))(a:Zg)(d:Int):Cq (Ŀ Int):=
 Cq.bind (uj c (u64.wrap ((u64.wrap ((u64.wrap (a.υ.length:Int))*2))+d))) λb=>Cq.next (ZqT a (b,0)) λe=>match e with|f=>ZqU f
def A6(b:(Ŀ Int))(a:Zg):Cq (Ŀ Int):=
 if a.neg=true then(EK b a 1)else(EK b a 0)
def QM(d:(Ŀ Int))(a:Zf):Cq (Ŀ Int):=
 Cq.bind (A6 d a.num) λb=>Cq.bind (A6 b a.den) λc=>Cq.ret c
def Ztw(a:(Ŀ Int)):Cq (Ŀ Int):=
 Cq.ret a
def Ztx(a:Int)(b:(Ŀ Int)):Cq (((Ŀ Int)×Int)⊕(Ŀ Int)):=
 Cq.ret (.inl (b,i64.wrap (a+1)))
def Ztv(d:(Ŀ Za))(e:Int):((Ŀ Int)×Int)->Cq (Ŀ Int):=
 Cq.loop λf=>match f with|(b,a)=>if a<8 then(Cq.Γ d e λg=>Cq.é (0<=a/\a<8) (Cq.bind (uj b (u64.wrap (Ζ g.m a))) λc=>Cq.ret (.inl (c,i64.wrap (a+1)))))else(Cq.ret (.inr b))
def Ztu(b:(Ŀ Za)):((Ŀ Int)×Int)->Cq (Ŀ Int):=
 Cq.loop λf=>match f with|(d,a)=>if a<(b.length:Int)then(Cq.Γ b a λg=>Cq.bind (QM d g.c) λe=>Cq.next (Ztv b a (e,0)) λh=>match h with|i=>Ztx a i)else(Cq.ret (.inr d))
def F3(c:(Ŀ Int))(a:(Ŀ Za)):Cq (Ŀ Int):=
 Cq.bind (uj c (u64.wrap (a.length:Int))) λb=>Cq.next (Ztu a (b,0)) λd=>match d with|e=>Ztw e
def ZqQ(a:(Ŀ Int)):Cq (Ŀ Int):=
 Cq.ret a
def ZqP(b:(Ŀ (Ŀ Za))):((Ŀ Int)×Int)->Cq (Ŀ Int):=
 Cq.loop λe=>match e with|(c,a)=>if a<(b.length:Int)then(Cq.Γ b a λf=>Cq.bind (F3 c f) λd=>Cq.ret (.inl (d,i64.wrap (a+1))))else(Cq.ret (.inr c))
def FO(c:(Ŀ Int))(a:(Ŀ (Ŀ Za))):Cq (Ŀ Int):=
 Cq.bind (uj c (u64.wrap (a.length:Int))) λb=>Cq.next (ZqP a (b,0)) λd=>match d with|e=>ZqQ e
def vw(e:(Ŀ Int))(a:Zd):Cq (Ŀ Int):=
 Cq.bind (AU e a.n) λb=>Cq.bind (FO b a.eqs) λc=>Cq.bind (FO c a.neqs) λd=>Cq.ret d
def yS(c d:Zd):Cq Bool:=Cq.bind (vw [] c) λa=>Cq.bind (vw [] d) λb=>Cq.ret (decide (bytesOf a=bytesOf b))
def Zq6(a:(Ŀ (Fin 8->Int))):Cq ((Ŀ (Fin 8->Int))):=
 Cq.ret a
def Zq7(b:Int)(a:(Ŀ (Fin 8->Int))):Cq (((Ŀ (Fin 8->Int))×Int)⊕(((Ŀ (Fin 8->Int))))):=
 Cq.ret (.inl (a,i64.wrap (b+1)))
def Zq8(b:Int)(a:(Ŀ (Fin 8->Int))):Cq (((Ŀ (Fin 8->Int))×Int)⊕(((Ŀ (Fin 8->Int))))):=
 Cq.ret (.inl (a,i64.wrap (b+1)))
def Zq9(a:(Ŀ (Fin 8->Int)))(c:Int)(b:(Fin 8->Int)):Cq (((Ŀ (Fin 8->Int))×Int)⊕(((Ŀ (Fin 8->Int))))):=
 Cq.é ((a++[b]).length<=small) (Cq.ret (.inl ((a++[b]),i64.wrap (c+1))))
def Zq5(c:(Ŀ (Fin 8->Int)))(d:Int)(e:Int):(Int×(Fin 8->Int))->Cq (Fin 8->Int):=
 Cq.loop λf=>match f with|(a,b)=>if d<a then(Cq.Γ c e λg=>Cq.é (0<=i64.wrap (a-1)/\(i64.wrap (a-1))<8) (Cq.é (0<=a/\a<8) (Cq.ret (.inl (i64.wrap (a-1),ε b a.toNat (Ζ g (i64.wrap (a-1))))))))else(Cq.ret (.inr b))
def Zq4(g:Int)(a:(Ŀ (Fin 8->Int)))(d:Int)(e:Int):((Ŀ (Fin 8->Int))×Int)->Cq (((Ŀ (Fin 8->Int)))):=
 Cq.loop λh=>match h with|(b,c)=>if c<g then(Cq.Γ a e λi=>Cq.Γ a e λj=>Cq.é (0<=c/\c<8) (Cq.é (0<=d/\d<8) (Cq.next (Zq5 a d e (c,ε i d.toNat (Ζ j c))) λk=>match k with|f=>Zq9 b c f)))else(Cq.ret (.inr b))
def Zq3(f:Int)(b:(Ŀ (Fin 8->Int)))(e:Int):((Ŀ (Fin 8->Int))×Int)->Cq (((Ŀ (Fin 8->Int)))):=
 Cq.loop λg=>match g with|(a,d)=>if d<(b.length:Int)then(Cq.next (Zq4 f b e d (a,e)) λh=>match h with|c=>Zq8 d c)else(Cq.ret (.inr a))
def Zq2(d:Int):((Ŀ (Fin 8->Int))×Int)->Cq (((Ŀ (Fin 8->Int)))):=
 Cq.loop λe=>match e with|(a,c)=>if c<d then(Cq.next (Zq3 d a c ([],0)) λf=>match f with|b=>Zq7 c b)else(Cq.ret (.inr a))
def K8(b:Int):Cq ((Ŀ (Fin 8->Int))):=
 Cq.next (Zq2 b ([ε (ε (ε (ε (ε (ε (ε (ε (λ_=>0) 0 0) 1 1) 2 2) 3 3) 4 4) 5 5) 6 6) 7 7],0)) λc=>match c with|a=>Zq6 a
def Zs7(b:(Ŀ Int))(a:Int):Cq (Ŀ Int):=
 Cq.é (0<=(0:Int)/\(0:Int)<=a/\a<=(b.length:Int)) (Cq.ret ((b.take a.toNat).drop (0:Int).toNat))
def Zs6(b:(Ŀ Int)):Int->Cq Int:=
 Cq.loop λc=>match c with|a=>if 0<a then(Cq.Γ b (i64.wrap (a-1)) λd=>if d=0 then(Cq.ret (.inl (i64.wrap (a-1))))else(Cq.ret (.inr a)))else(Cq.ret (.inr a))
def xy(a:(Ŀ Int)):Cq (Ŀ Int):=
 Cq.next (Zs6 a (a.length:Int)) λb=>match b with|c=>Zs7 a c
def A4(a:Int):Cq (Ŀ Int):=
 Cq.bind (xy [u32.wrap (Int.tmod a 4294967296),u32.wrap (u64.wrap (Int.tdiv a 4294967296))]) λb=>Cq.ret b
def rU(b:Bool)(c:(Ŀ Int)):Cq Zg:=
 Cq.bind (xy c) λa=>if b=true then(Cq.ret (Zg.mk (decide (0<(a.length:Int))) a))else(Cq.ret (Zg.mk false a))
def uk(a:Int):Cq Zg:=
 if a<0 then(Cq.bind (A4 (u64.wrap ((u64.wrap (i64.wrap (0-(i64.wrap (a+1)))))+1))) λb=>Cq.bind (rU true b) λc=>Cq.ret c)else(Cq.bind (A4 (u64.wrap a)) λd=>Cq.bind (rU false d) λe=>Cq.ret e)
def Bh(a:Zg):Cq Int:=
 if a.neg=true then(Cq.ret (-1))else(Cq.ret (if 1<(a.υ.length:Int)then 1 else(a.υ.length:Int)))
def y9(a:(Ŀ Int))(b:Int):Cq Int:=
 if b<(a.length:Int)then(Cq.Γ a b λc=>Cq.ret (u64.wrap c))else(Cq.ret 0)
def KA(a:(Ŀ Int)):Cq Int:=
 Cq.bind (y9 a 1) λb=>Cq.bind (y9 a 0) λc=>Cq.ret (u64.wrap ((u64.wrap (b*4294967296))+c))
def ZpA(a:Int):Cq Int:=
 Cq.ret a
def Zpz:(Int×Int)->Cq Int:=
 Cq.loop λc=>match c with|(b,a)=>if 0<a then(Cq.é (a≠0) (Cq.ret (.inl (a,Int.tmod b a))))else(Cq.ret (.inr b))
def R0(a:Int)(b:Int):Cq Int:=
 Cq.next (Zpz (a,b)) λc=>match c with|d=>ZpA d
def ZmM:Cq Int:=
 Cq.ret 0
def ZmL(b:(Ŀ Int))(c:(Ŀ Int)):Int->Cq (Int⊕Unit):=
 Cq.loop λd=>match d with|a=>if 0<=a then(Cq.Γ b a λe=>Cq.Γ c a λf=>if e<f then(Cq.ret (.inr (.inl (-1))))else(Cq.Γ b a λg=>Cq.Γ c a λh=>if h<g then(Cq.ret (.inr (.inl 1)))else(Cq.ret (.inl (i64.wrap (a-1))))))else(Cq.ret (.inr (.inr ())))
def Z6(a:(Ŀ Int))(b:(Ŀ Int)):Cq Int:=
 if(a.length:Int)<(b.length:Int)then(Cq.ret (-1))else(if(b.length:Int)<(a.length:Int)then(Cq.ret 1)else(Cq.next (ZmL a b (i64.wrap ((a.length:Int)-1))) λd=>match d with|.inl c=>Cq.ret c|.inr ()=>ZmM))
def ZnW(a:(Ŀ Int))(b:Int):Cq ((Ŀ Int)×Int):=
 Cq.bind (xy a) λc=>Cq.ret (c,b)
def ZnV(f:(Ŀ Int))(d:Int):((Ŀ Int)×Int×Int)->Cq (((Ŀ Int)×Int)):=
 Cq.loop λg=>match g with|(a,b,c)=>if 0<=c then(Cq.Γ f c λe=>Cq.é (d≠0) (Cq.Γ a c λh=>Cq.é (d≠0) (Cq.ret (.inl ((a.set c.toNat (u32.wrap (u64.wrap (Int.tdiv (u64.wrap ((u64.wrap (b*4294967296))+(u64.wrap e))) d)))),Int.tmod (u64.wrap ((u64.wrap (b*4294967296))+(u64.wrap e))) d,i64.wrap (c-1))))))else(Cq.ret (.inr (a,b)))
def Rt(a:(Ŀ Int))(d:Int):Cq ((Ŀ Int)×Int):=
 Cq.é (0<=(a.length:Int)/\(a.length:Int)<=1000000) (Cq.next (ZnV a d ((List.replicate (a.length:Int).toNat 0),0,i64.wrap ((a.length:Int)-1))) λe=>match e with|(b,c)=>ZnW b c)
def Zqy(a:(Ŀ Int)):Cq (Ŀ Int):=
 Cq.bind (xy a) λb=>Cq.ret b
def Zqz(b:(Ŀ Int))(a:Int)(c:(Ŀ Int))(d:Int):Cq (((Ŀ Int)×Int)⊕(Ŀ Int)):=
 Cq.Γ c (i64.wrap (a+(b.length:Int))) λe=>Cq.ret (.inl ((c.set (i64.wrap (a+(b.length:Int))).toNat (u32.wrap d)),i64.wrap (a+1)))
def Zqx(f:(Ŀ Int))(e:(Ŀ Int))(b:Int):((Ŀ Int)×Int×Int)->Cq (((Ŀ Int)×Int)):=
 Cq.loop λj=>match j with|(c,d,a)=>if a<(e.length:Int)then(Cq.Γ f b λg=>Cq.Γ e a λh=>Cq.Γ c (i64.wrap (b+a)) λi=>Cq.Γ c (i64.wrap (b+a)) λk=>Cq.ret (.inl ((c.set (i64.wrap (b+a)).toNat (u32.wrap (Int.tmod (u64.wrap ((u64.wrap ((u64.wrap ((u64.wrap g)*(u64.wrap h)))+(u64.wrap i)))+d)) 4294967296))),u64.wrap (Int.tdiv (u64.wrap ((u64.wrap ((u64.wrap ((u64.wrap g)*(u64.wrap h)))+(u64.wrap i)))+d)) 4294967296),i64.wrap (a+1))))else(Cq.ret (.inr (c,d)))
def Zqw(b:(Ŀ Int))(c:(Ŀ Int)):((Ŀ Int)×Int)->Cq (Ŀ Int):=
 Cq.loop λg=>match g with|(d,a)=>if a<(b.length:Int)then(Cq.next (Zqx b c a (d,0,0)) λh=>match h with|(e,f)=>Zqz c a e f)else(Cq.ret (.inr d))
def SR(a:(Ŀ Int))(b:(Ŀ Int)):Cq (Ŀ Int):=
 Cq.é (0<=i64.wrap ((a.length:Int)+(b.length:Int))/\(i64.wrap ((a.length:Int)+(b.length:Int)))<=1000000) (Cq.next (Zqw a b ((List.replicate (i64.wrap ((a.length:Int)+(b.length:Int))).toNat 0),0)) λd=>match d with|c=>Zqy c)
def Ki(a:(Ŀ Int))(b:(Ŀ Int)):Cq ((Ŀ Int)×(Ŀ Int)):=
 Cq.bind (Z6 a b) λd=>if d<0 then(Cq.ret ([],a))else(if(b.length:Int)=1 then(Cq.Γ b 0 λf=>Cq.bind (Rt a (u64.wrap f)) λc=>Cq.bind (A4 c.2) λe=>Cq.ret (c.1,e))else Cq.fail)
def Zpy(a:(Ŀ Int)):Cq (Ŀ Int):=
 Cq.ret a
def Qj(c:(Ŀ Int))(b:(Ŀ Int))(a:Bool):Cq (((Ŀ Int)×(Ŀ Int))⊕((Ŀ Int)⊕(Ŀ Int))):=
 if a=true then(Cq.bind (KA c) λd=>Cq.bind (KA b) λe=>Cq.bind (R0 d e) λf=>Cq.bind (A4 f) λg=>Cq.ret (.inr (.inl g)))else(Cq.bind (Ki c b) λh=>Cq.ret (.inl (b,h.2)))
def Zpx:((Ŀ Int)×(Ŀ Int))->Cq ((Ŀ Int)⊕(Ŀ Int)):=
 Cq.loop λc=>match c with|(a,b)=>if 0<(b.length:Int)then(if(a.length:Int)<=2 then(Qj a b (decide ((b.length:Int)<=2)))else(Qj a b false))else(Cq.ret (.inr (.inr a)))
def RZ(b:(Ŀ Int))(c:(Ŀ Int)):Cq (Ŀ Int):=
 Cq.next (Zpx (b,c)) λd=>match d with|.inl a=>Cq.ret a|.inr e=>Zpy e
def xM(c:Zg)(d:Zg):Cq Zg:=
 Cq.bind (RZ c.υ d.υ) λa=>Cq.bind (rU false a) λb=>Cq.ret b
def Zpw(d:Zg)(e:Zg)(f:(Ŀ Int))(a:(Ŀ Int)):Cq (Zg×Zg×Int):=
 Cq.bind (rU (decide (¬d.neg=e.neg)) f) λb=>Cq.bind (rU false a) λc=>Cq.ret (b,c,0)
def Qi(c:Zg)(d:Zg)(b:(Ŀ Int)×(Ŀ Int))(a:Bool):Cq (Zg×Zg×Int):=
 if a=true then Cq.fail else(Zpw c d b.1 b.2)
def yX(b:Zg)(c:Zg):Cq (Zg×Zg×Int):=
 if(c.υ.length:Int)=0 then Cq.fail else(Cq.bind (Ki b.υ c.υ) λa=>if b.neg=true then(Qi b c a (decide (0<(a.2.length:Int))))else(Qi b c a false))
def Ln(b:Zg)(c:Zg):Cq Zg:=
 Cq.bind (yX b c) λa=>Cq.ret a.1
def Mm(a:Zg):Cq Zg:=
 Cq.bind (rU (!a.neg) a.υ) λb=>Cq.ret b
def Qk(d:Zg)(e:Zg)(a:Zg):Cq Zf:=
 Cq.bind (Ln d a) λb=>Cq.bind (Ln e a) λc=>Cq.ret (Zf.mk b c)
def AR(c:Zg)(a:Zg):Cq Zf:=
 Cq.bind (xM c a) λb=>Cq.bind (Bh a) λd=>if d<0 then(Cq.bind (Mm b) λe=>Qk c a e)else(Qk c a b)
def Gq(d:Zg)(a:Zg):Cq (Zf×Int):=
 Cq.bind (Bh a) λb=>if b=0 then Cq.fail else(Cq.bind (AR d a) λc=>Cq.ret (c,0))
def oO(b:Zf):Cq Int:=
 Cq.bind (Bh b.num) λa=>Cq.ret a
def ZqC:Cq Bool:=
 Cq.ret true
def ZqB(b:(Fin 8->Int)):Int->Cq (Bool⊕Unit):=
 Cq.loop λc=>match c with|a=>if a<8 then(Cq.é (0<=a/\a<8) (if(Ζ b a)<0 then(Cq.ret (.inr (.inl false)))else(Cq.é (0<=a/\a<8) (if 65535<(Ζ b a)then Cq.fail else(Cq.ret (.inl (i64.wrap (a+1))))))))else(Cq.ret (.inr (.inr ())))
def FM(b:(Fin 8->Int)):Cq Bool:=
 Cq.next (ZqB b 0) λc=>match c with|.inl a=>Cq.ret a|.inr ()=>ZqC
def Zve(a:(Fin 8->Int)):Cq ((Fin 8->Int)×Int):=
 Cq.bind (FM a) λb=>if(!b)=true then Cq.fail else(Cq.ret (a,0))
def Zvd(c:(Fin 8->Int)):(Int×(Fin 8->Int))->Cq (Fin 8->Int):=
 Cq.loop λd=>match d with|(a,b)=>if a<8 then(Cq.é (0<=a/\a<8) (Cq.é (0<=a/\a<8) (Cq.é (0<=a/\a<8) (Cq.ret (.inl (i64.wrap (a+1),ε b a.toNat (i64.wrap ((Ζ b a)+(Ζ c a)))))))))else(Cq.ret (.inr b))
def Mo(b:(Fin 8->Int))(c:(Fin 8->Int)):Cq ((Fin 8->Int)×Int):=
 Cq.next (Zvd c (0,b)) λd=>match d with|a=>Zve a
def rm(a:Zg)(b:Zg):Cq Zg:=
 Cq.bind (SR a.υ b.υ) λc=>Cq.bind (rU (decide (¬a.neg=b.neg)) c) λd=>Cq.ret d
def rn(a:Zf)(b:Zf):Cq Zf:=
 Cq.bind (rm a.num b.num) λc=>Cq.bind (rm a.den b.den) λd=>Cq.bind (AR c d) λe=>Cq.ret e
def ZqI(a:(Ŀ Za)):Cq ((Ŀ Za)×Int):=
 Cq.ret (a,0)
def ZqH(g:Zf)(h:(Fin 8->Int))(f:(Ŀ Za)):((Ŀ Za)×Int)->Cq (((Ŀ Za)×Int)⊕(Ŀ Za)):=
 Cq.loop λi=>match i with|(a,d)=>if d<(f.length:Int)then(Cq.Γ f d λj=>Cq.bind (Mo h j.m) λb=>if ¬b.2=0 then Cq.fail else(Cq.Γ f d λk=>Cq.bind (rn g k.c) λe=>Cq.é ((a++[(Za.mk e b.1)]).length<=small) (Cq.ret (.inl ((a++[(Za.mk e b.1)]),i64.wrap (d+1))))))else(Cq.ret (.inr (.inr a)))
def FN(b:Zf)(e:(Fin 8->Int))(f:(Ŀ Za)):Cq ((Ŀ Za)×Int):=
 Cq.bind (oO b) λc=>if c=0 then(Cq.ret ([],0))else(Cq.next (ZqH b e f ([],0)) λg=>match g with|.inl d=>Cq.ret d|.inr a=>ZqI a)
def Gp(a:Zf):Cq Zf:=
 Cq.bind (Mm a.num) λb=>Cq.ret (Zf.mk b a.den)
def JG(a:(Ŀ Za))(b:Zf):Cq (Ŀ Za):=
 Cq.bind (FN b (λ_=>0) a) λc=>Cq.ret c.1
def JH(a:(Ŀ Za))(d:Zg)(e:Zg):Cq (Ŀ Za):=
 Cq.bind (Gq d e) λb=>Cq.Γ a 0 λh=>Cq.bind (oO h.c) λf=>if f<0 then(Cq.bind (Gp b.1) λg=>JG a g)else(JG a b.1)
def ZpF(b:(Ŀ Za))(g:Zg):(Int×Zg)->Cq Zg:=
 Cq.loop λi=>match i with|(a,d)=>if a<(b.length:Int)then(Cq.Γ b a λj=>Cq.bind (yX g j.c.den) λh=>Cq.Γ b a λk=>Cq.bind (rm k.c.num h.1) λe=>Cq.bind (xM d e) λf=>Cq.ret (.inl (i64.wrap (a+1),f)))else(Cq.ret (.inr d))
def Qm(a:(Ŀ Za))(c:Zg)(b:Zg):Cq (Ŀ Za):=
 Cq.next (ZpF a b (0,c)) λe=>match e with|d=>JH a b d
def ZpG(b:(Ŀ Za)):(Int×Zg)->Cq Zg:=
 Cq.loop λh=>match h with|(a,d)=>if a<(b.length:Int)then(Cq.Γ b a λi=>Cq.Γ b a λj=>Cq.bind (xM d j.c.den) λe=>Cq.bind (yX i.c.den e) λf=>Cq.bind (rm d f.1) λg=>Cq.ret (.inl (i64.wrap (a+1),g)))else(Cq.ret (.inr d))
def Fi(a:(Ŀ Za)):Cq (Ŀ Za):=
 if(a.length:Int)=0 then(Cq.ret [])else(Cq.bind (uk 1) λb=>Cq.bind (uk 0) λc=>Cq.next (ZpG a (0,b)) λe=>match e with|d=>Qm a c d)
def ZpC(a:Int):Cq Int:=
 Cq.ret a
def ZpB(c:(Fin 8->Int)):(Int×Int)->Cq Int:=
 Cq.loop λd=>match d with|(b,a)=>if a<8 then(Cq.é (0<=a/\a<8) (Cq.ret (.inl (i64.wrap (b+(Ζ c a)),i64.wrap (a+1)))))else(Cq.ret (.inr b))
def KB(a:(Fin 8->Int)):Cq Int:=
 Cq.next (ZpB a (0,0)) λb=>match b with|c=>ZpC c
def ZpE(a:Int):Cq Int:=
 Cq.ret a
def ZpD(d:(Ŀ Za)):(Int×Int)->Cq Int:=
 Cq.loop λe=>match e with|(b,c)=>if c<(d.length:Int)then(Cq.Γ d c λf=>Cq.bind (KB f.m) λa=>Cq.ret (.inl (if b<a then a else b,i64.wrap (c+1))))else(Cq.ret (.inr b))
def xj(a:(Ŀ Za)):Cq Int:=
 Cq.next (ZpD a ((-1),0)) λb=>match b with|c=>ZpE c
def Zta:Cq Bool:=
 Cq.ret true
def Zs9(b:Zg)(c:Zg):Int->Cq (Bool⊕Unit):=
 Cq.loop λd=>match d with|a=>if a<(b.υ.length:Int)then(Cq.Γ b.υ a λe=>Cq.Γ c.υ a λf=>if ¬e=f then(Cq.ret (.inr (.inl false)))else(Cq.ret (.inl (i64.wrap (a+1)))))else(Cq.ret (.inr (.inr ())))
def LO(a:Zg)(b:Zg):Cq Bool:=
 if ¬a.neg=b.neg then(Cq.ret false)else(if ¬(a.υ.length:Int)=(b.υ.length:Int)then(Cq.ret false)else(Cq.next (Zs9 a b 0) λd=>match d with|.inl c=>Cq.ret c|.inr ()=>Zta))
def Bi(a:Zf)(b:Zf):Cq Bool:=
 Cq.bind (LO a.num b.num) λc=>match c with|false=>(Cq.ret false)|true=>(Cq.bind (LO a.den b.den) λd=>Cq.ret d)
def EH(a:Za)(b:Za):Cq Bool:=
 if a.m=b.m then(Cq.bind (Bi a.c b.c) λd=>Cq.ret d)else(Cq.ret false)
def Ztr:Cq Bool:=
 Cq.ret true
def RE(b:(Ŀ Za))(d:(Ŀ Za)):Int->Cq (Bool⊕Unit):=
 Cq.loop λe=>match e with|a=>if a<(b.length:Int)then(Cq.Γ b a λf=>Cq.Γ d a λg=>Cq.bind (EH f g) λc=>if(!c)=true then(Cq.ret (.inr (.inl false)))else(Cq.ret (.inl (i64.wrap (a+1)))))else(Cq.ret (.inr (.inr ())))
def tX(a:(Ŀ Za))(b:(Ŀ Za)):Cq Bool:=
 if ¬(a.length:Int)=(b.length:Int)then(Cq.ret false)else(Cq.next (RE a b 0) λd=>match d with|.inl c=>Cq.ret c|.inr ()=>Ztr)
def Zvc:Cq Int:=
 Cq.ret 0
def Zvb(b:(Fin 8->Int))(c:(Fin 8->Int)):Int->Cq (Int⊕Unit):=
 Cq.loop λd=>match d with|a=>if a<8 then(Cq.é (0<=a/\a<8) (Cq.é (0<=a/\a<8) (if(Ζ b a)<(Ζ c a)then(Cq.ret (.inr (.inl (-1))))else(Cq.é (0<=a/\a<8) (Cq.é (0<=a/\a<8) (if(Ζ c a)<(Ζ b a)then(Cq.ret (.inr (.inl 1)))else(Cq.ret (.inl (i64.wrap (a+1))))))))))else(Cq.ret (.inr (.inr ())))
def xN(b:(Fin 8->Int))(c:(Fin 8->Int)):Cq Int:=
 Cq.next (Zvb b c 0) λd=>match d with|.inl a=>Cq.ret a|.inr ()=>Zvc
def Ml(a:Zg)(b:Zg):Cq Int:=
 if a.neg=true then(if(!b.neg)=true then(Cq.ret (-1))else(if a.neg=true then(if a.neg=true then(Cq.bind (Z6 b.υ a.υ) λc=>Cq.ret c)else(Cq.bind (Z6 a.υ b.υ) λd=>Cq.ret d))else(if b.neg=true then(Cq.ret 1)else(if a.neg=true then(Cq.bind (Z6 b.υ a.υ) λe=>Cq.ret e)else(Cq.bind (Z6 a.υ b.υ) λf=>Cq.ret f)))))else(if a.neg=true then(if a.neg=true then(Cq.bind (Z6 b.υ a.υ) λg=>Cq.ret g)else(Cq.bind (Z6 a.υ b.υ) λh=>Cq.ret h))else(if b.neg=true then(Cq.ret 1)else(if a.neg=true then(Cq.bind (Z6 b.υ a.υ) λi=>Cq.ret i)else(Cq.bind (Z6 a.υ b.υ) λj=>Cq.ret j))))
def vF(a:Zf)(b:Zf):Cq Int:=
 Cq.bind (rm a.num b.den) λc=>Cq.bind (rm b.num a.den) λd=>Cq.bind (Ml c d) λe=>Cq.ret e
def KD(a:(Ŀ Za))(b:(Ŀ Za)):Cq Int:=
 if(a.length:Int)<(b.length:Int)then(Cq.ret (-1))else(if(b.length:Int)<(a.length:Int)then(Cq.ret 1)else(Cq.ret 0))
def R3(b:(Ŀ Za))(d:(Ŀ Za))(a:Int):Cq (Int⊕(Int⊕Unit)):=
 Cq.Γ b a λi=>Cq.Γ d a λj=>Cq.bind (xN i.m j.m) λe=>if ¬e=0 then(Cq.Γ b a λk=>Cq.Γ d a λl=>Cq.bind (xN k.m l.m) λf=>Cq.ret (.inr (.inl f)))else(Cq.Γ b a λn=>Cq.Γ d a λo=>Cq.bind (vF n.c o.c) λg=>if ¬g=0 then(Cq.Γ b a λp=>Cq.Γ d a λq=>Cq.bind (vF p.c q.c) λh=>Cq.ret (.inr (.inl h)))else(Cq.ret (.inl (i64.wrap (a+1)))))
def R1(b:(Ŀ Za))(c:(Ŀ Za)):Int->Cq (Int⊕Unit):=
 Cq.loop λd=>match d with|a=>if a<(b.length:Int)then(if a<(c.length:Int)then(R3 b c a)else(Cq.ret (.inr (.inr ()))))else(Cq.ret (.inr (.inr ())))
def Gs(a:(Ŀ Za))(b:(Ŀ Za)):Cq Int:=
 Cq.next (R1 a b 0) λd=>match d with|.inl c=>Cq.ret c|.inr ()=>KD a b
def ZpI(a:(Ŀ (Ŀ Za))):Cq ((Ŀ (Ŀ Za))):=
 Cq.ret a
def tU(a:(Ŀ (Ŀ Za)))(d:Int)(c:(Ŀ Za))(b:Int):Cq (((Ŀ (Ŀ Za))×Int)⊕(((Ŀ (Ŀ Za))))):=
 Cq.é (0<=b/\b<=(a.length:Int)/\(a.length:Int)<=(a.length:Int)) (Cq.é (([c]++((a.take (a.length:Int).toNat).drop b.toNat)).length<=small) (Cq.é (0<=(0:Int)/\(0:Int)<=b/\b<=(a.length:Int)) (Cq.é ((((a.take b.toNat).drop (0:Int).toNat)++([c]++((a.take (a.length:Int).toNat).drop b.toNat))).length<=small) (Cq.ret (.inl ((((a.take b.toNat).drop (0:Int).toNat)++([c]++((a.take (a.length:Int).toNat).drop b.toNat))),i64.wrap (d+1)))))))
def J4(e:Bool)(a:(Ŀ (Ŀ Za)))(b:Int)(d:(Ŀ Za))(c:Int):Cq (((Ŀ (Ŀ Za))×Int)⊕(((Ŀ (Ŀ Za))))):=
 if(d.length:Int)=0 then(Cq.ret (.inl (a,i64.wrap (b+1))))else(if e=true then(Cq.bind (xj d) λf=>if f=0 then(Cq.ret (.inl (a,i64.wrap (b+1))))else(if c<(a.length:Int)then(Cq.Γ a c λi=>Cq.bind (tX i d) λg=>if g=true then(Cq.ret (.inl (a,i64.wrap (b+1))))else(tU a b d c))else(tU a b d c)))else(if c<(a.length:Int)then(Cq.Γ a c λj=>Cq.bind (tX j d) λh=>if h=true then(Cq.ret (.inl (a,i64.wrap (b+1))))else(tU a b d c))else(tU a b d c)))
def JK(b:(Ŀ (Ŀ Za)))(c:(Ŀ Za)):Int->Cq Int:=
 Cq.loop λe=>match e with|a=>if a<(b.length:Int)then(Cq.Γ b a λf=>Cq.bind (Gs f c) λd=>if d<0 then(Cq.ret (.inl (i64.wrap (a+1))))else(Cq.ret (.inr a)))else(Cq.ret (.inr a))
def ZpH(c:(Ŀ (Ŀ Za)))(e:Bool):((Ŀ (Ŀ Za))×Int)->Cq (((Ŀ (Ŀ Za)))):=
 Cq.loop λg=>match g with|(a,b)=>if b<(c.length:Int)then(Cq.Γ c b λh=>Cq.bind (Fi h) λd=>Cq.next (JK a d 0) λi=>match i with|f=>J4 e a b d f)else(Cq.ret (.inr a))
def Fl(a:(Ŀ (Ŀ Za)))(b:Bool):Cq ((Ŀ (Ŀ Za))):=
 Cq.next (ZpH a b ([],0)) λd=>match d with|c=>ZpI c
def ZY(c:Int):Cq Zf:=
 Cq.bind (uk c) λa=>Cq.bind (uk 1) λb=>Cq.ret (Zf.mk a b)
def EG(a:Zf):Cq (Ŀ Za):=
 Cq.bind (oO a) λb=>if b=0 then(Cq.ret [])else(Cq.ret [(Za.mk a (λ_=>0))])
def Ll(a:Zg):Cq Bool:=
 if(a.υ.length:Int)=0 then(Cq.ret (!a.neg))else(Cq.Γ a.υ (i64.wrap ((a.υ.length:Int)-1)) λb=>Cq.ret (decide (¬b=0)))
def ZqA(a:Zf):Cq Bool:=
 Cq.bind (xM a.num a.den) λb=>Cq.bind (uk 1) λc=>Cq.bind (Ml b c) λd=>Cq.ret (decide (d=0))
def ug(a:Zf):Cq Bool:=
 Cq.bind (Ll a.num) λb=>match b with|false=>(Cq.ret false)|true=>(Cq.bind (Ll a.den) λc=>match c with|false=>(Cq.ret false)|true=>(Cq.bind (Bh a.den) λd=>if d<1 then Cq.fail else(ZqA a)))
def ZqK:Cq Bool:=
 Cq.ret true
def J0(b:(Ŀ Za))(a:Int):Cq (Int⊕(Bool⊕Unit)):=
 if 0<a then(Cq.Γ b (i64.wrap (a-1)) λd=>Cq.Γ b a λe=>Cq.bind (xN d.m e.m) λc=>if c<=0 then Cq.fail else(Cq.ret (.inl (i64.wrap (a+1)))))else(Cq.ret (.inl (i64.wrap (a+1))))
def ZqJ(a:(Ŀ Za)):Int->Cq (Bool⊕Unit):=
 Cq.loop λg=>match g with|b=>if b<(a.length:Int)then(Cq.Γ a b λh=>Cq.bind (ug h.c) λd=>match d with|false=>(Cq.ret (.inr (.inl false)))|true=>(Cq.Γ a b λi=>Cq.bind (oO i.c) λe=>if e=0 then(Cq.ret (.inr (.inl false)))else(Cq.Γ a b λj=>Cq.bind (FM j.m) λf=>if(!f)=true then(Cq.ret (.inr (.inl false)))else(J0 a b))))else(Cq.ret (.inr (.inr ())))
def A5(b:(Ŀ Za)):Cq Bool:=
 Cq.next (ZqJ b 0) λc=>match c with|.inl a=>Cq.ret a|.inr ()=>ZqK
def Zva(a:Int):Cq Int:=
 Cq.ret (u8.wrap a)
def Zu9(c:Int):(Int×Int)->Cq Int:=
 Cq.loop λd=>match d with|(a,b)=>if b<c then(Cq.ret (.inl (i64.wrap (2*a),i64.wrap (b+1))))else(Cq.ret (.inr a))
def Mn(a:Int):Cq Int:=
 Cq.next (Zu9 a (1,0)) λb=>match b with|c=>Zva c
def Zn1(a:Int):Cq Int:=
 Cq.ret a
def Zn0(d:(Fin 8->Int)):(Int×Int)->Cq Int:=
 Cq.loop λe=>match e with|(b,a)=>if a<8 then(Cq.é (0<=a/\a<8) (if 0<(Ζ d a)then(Cq.bind (Mn a) λc=>Cq.ret (.inl (u8.wrap (b+c),i64.wrap (a+1))))else(Cq.ret (.inl (b,i64.wrap (a+1))))))else(Cq.ret (.inr b))
def Kj(a:(Fin 8->Int)):Cq Int:=
 Cq.next (Zn0 a (0,0)) λb=>match b with|c=>Zn1 c
def Ztt(a:Int):Cq Int:=
 Cq.ret a
def Zts(c:(Ŀ Za)):(Int×Int)->Cq Int:=
 Cq.loop λe=>match e with|(a,b)=>if b<(c.length:Int)then(Cq.Γ c b λf=>Cq.bind (Kj f.m) λd=>Cq.ret (.inl (u8.wrap (BitVec.ofInt u8.bits a ||| BitVec.ofInt u8.bits d).toNat,i64.wrap (b+1))))else(Cq.ret (.inr a))
def Bk(b:(Ŀ Za)):Cq Int:=
 Cq.next (Zts b (0,0)) λc=>match c with|a=>Ztt a
def yY(a:(Ŀ Za))(b:Int):Cq Bool:=
 Cq.bind (A5 a) λc=>match c with|false=>(Cq.ret false)|true=>(Cq.bind (xj a) λd=>if d<=12 then(Cq.bind (Bk a) λe=>Cq.é (0<=(u64.wrap b)) (Cq.ret (decide ((i64.wrap e)<(i64.wrap (1*2 ^ (min (u64.wrap b).toNat i64.bits)))))))else(Cq.ret false))
def Zvj:Cq Bool:=
 Cq.ret true
def R6(b:(Ŀ (Ŀ Za)))(d:Int):Int->Cq (Bool⊕Unit):=
 Cq.loop λe=>match e with|a=>if a<(b.length:Int)then(Cq.Γ b a λf=>Cq.bind (yY f d) λc=>if(!c)=true then(Cq.ret (.inr (.inl false)))else(Cq.ret (.inl (i64.wrap (a+1)))))else(Cq.ret (.inr (.inr ())))
def Gw(b:(Ŀ (Ŀ Za)))(c:Int):Cq Bool:=
 Cq.next (R6 b c 0) λd=>match d with|.inl a=>Cq.ret a|.inr ()=>Zvj
def Qp(c:Int)(d:(Ŀ (Ŀ Za)))(e:(Ŀ (Ŀ Za))):Cq (Zd×Int):=
 Cq.bind (Fl e false) λa=>Cq.bind (Fl d true) λb=>if 12<(a.length:Int)then(Cq.ret ((Zd.mk 0 [] []),2))else(if 12<(b.length:Int)then(Cq.ret ((Zd.mk 0 [] []),2))else(Cq.ret ((Zd.mk c a b),0)))
def ZpL(c:(Ŀ (Ŀ Za))):((Ŀ (Ŀ Za))×Int)->Cq (((Ŀ (Ŀ Za)))):=
 Cq.loop λf=>match f with|(a,b)=>if b<(c.length:Int)then(Cq.Γ c b λg=>if(g.length:Int)=0 then(Cq.bind (ZY 1) λe=>Cq.bind (EG e) λd=>Cq.é ((a++[d]).length<=small) (Cq.ret (.inl ((a++[d]),i64.wrap (b+1)))))else(Cq.ret (.inl (a,i64.wrap (b+1)))))else(Cq.ret (.inr a))
def Qq(c:Int)(a:(Ŀ (Ŀ Za)))(b:(Ŀ (Ŀ Za))):Cq (Zd×Int):=
 Cq.é (([]++a).length<=small) (Cq.next (ZpL b (([]++a),0)) λe=>match e with|d=>Qp c b d)
def Fo(a:Int)(b:(Ŀ (Ŀ Za)))(c:(Ŀ (Ŀ Za))):Cq (Zd×Int):=
 if a<1 then(Cq.ret ((Zd.mk 0 [] []),1))else(if 4<a then(Cq.ret ((Zd.mk 0 [] []),1))else(Cq.bind (Gw b a) λd=>match d with|false=>(Cq.ret ((Zd.mk 0 [] []),1))|true=>(Cq.bind (Gw c a) λe=>if(!e)=true then(Cq.ret ((Zd.mk 0 [] []),1))else(Qq a b c))))
def ZhX:Cq Bool:=
 Cq.ret true
def ZhW(a:(Fin 8->Int)):(Int×(Fin 8->Bool))->Cq (Bool⊕Unit):=
 Cq.loop λd=>match d with|(b,c)=>if b<8 then(Cq.é (0<=b/\b<8) (if(Ζ a b)<0 then(Cq.ret (.inr (.inl false)))else(Cq.é (0<=b/\b<8) (if 8<=(Ζ a b)then(Cq.ret (.inr (.inl false)))else(Cq.é (0<=b/\b<8) (Cq.é (0<=Ζ a b/\(Ζ a b)<8) (if(Ζ c (Ζ a b))=true then Cq.fail else(Cq.é (0<=b/\b<8) (Cq.é (0<=Ζ a b/\(Ζ a b)<8) (Cq.ret (.inl (i64.wrap (b+1),ε c ((Ζ a b).toNat) true))))))))))))else(Cq.ret (.inr (.inr ())))
def Jn(a:(Fin 8->Int)):Cq Bool:=
 Cq.next (ZhW a (0,(λ_=>false))) λc=>match c with|.inl b=>Cq.ret b|.inr ()=>ZhX
def Zqt(a:(Ŀ Int)):Cq (Ŀ Int):=
 Cq.bind (xy a) λb=>Cq.ret b
def Zqs(f:(Ŀ Int))(g:(Ŀ Int)):((Ŀ Int)×Int×Int)->Cq (Ŀ Int):=
 Cq.loop λh=>match h with|(b,a,c)=>if c<(i64.wrap ((if(f.length:Int)<(g.length:Int)then(g.length:Int)else(f.length:Int))+1))then(Cq.bind (y9 f c) λd=>Cq.bind (y9 g c) λe=>Cq.Γ b c λi=>Cq.ret (.inl ((b.set c.toNat (u32.wrap (Int.tmod (u64.wrap ((u64.wrap (d+e))+a)) 4294967296))),u64.wrap (Int.tdiv (u64.wrap ((u64.wrap (d+e))+a)) 4294967296),i64.wrap (c+1))))else(Cq.ret (.inr b))
def SQ(a:(Ŀ Int))(b:(Ŀ Int)):Cq (Ŀ Int):=
 Cq.é (0<=i64.wrap ((if(a.length:Int)<(b.length:Int)then(b.length:Int)else(a.length:Int))+1)/\(i64.wrap ((if(a.length:Int)<(b.length:Int)then(b.length:Int)else(a.length:Int))+1))<=1000000) (Cq.next (Zqs a b ((List.replicate (i64.wrap ((if(a.length:Int)<(b.length:Int)then(b.length:Int)else(a.length:Int))+1)).toNat 0),0,0)) λd=>match d with|c=>Zqt c)
def Zqv(a:(Ŀ Int)):Cq (Ŀ Int):=
 Cq.bind (xy a) λb=>Cq.ret b
def Zqu(e:(Ŀ Int))(g:(Ŀ Int)):((Ŀ Int)×Int×Int)->Cq (Ŀ Int):=
 Cq.loop λh=>match h with|(b,a,c)=>if c<(e.length:Int)then(Cq.Γ e c λf=>Cq.bind (y9 g c) λd=>Cq.Γ b c λi=>Cq.ret (.inl ((b.set c.toNat (u32.wrap (Int.tmod (u64.wrap ((u64.wrap ((u64.wrap (4294967296+(u64.wrap f)))-d))-a)) 4294967296))),u64.wrap (1-(u64.wrap (Int.tdiv (u64.wrap ((u64.wrap ((u64.wrap (4294967296+(u64.wrap f)))-d))-a)) 4294967296))),i64.wrap (c+1))))else(Cq.ret (.inr b))
def Lm(a:(Ŀ Int))(c:(Ŀ Int)):Cq (Ŀ Int):=
 Cq.é (0<=(a.length:Int)/\(a.length:Int)<=1000000) (Cq.next (Zqu a c ((List.replicate (a.length:Int).toNat 0),0,0)) λd=>match d with|b=>Zqv b)
def U8(a:Zg)(b:Zg):Cq Zg:=
 if a.neg=b.neg then(Cq.bind (SQ a.υ b.υ) λc=>Cq.bind (rU a.neg c) λd=>Cq.ret d)else(Cq.bind (Z6 a.υ b.υ) λe=>if e<0 then(Cq.bind (Lm b.υ a.υ) λf=>Cq.bind (rU b.neg f) λg=>Cq.ret g)else(Cq.bind (Lm a.υ b.υ) λh=>Cq.bind (rU a.neg h) λi=>Cq.ret i))
def vE(a:Zf)(b:Zf):Cq Zf:=
 Cq.bind (rm a.num b.den) λc=>Cq.bind (rm b.num a.den) λd=>Cq.bind (U8 c d) λe=>Cq.bind (rm a.den b.den) λf=>Cq.bind (AR e f) λg=>Cq.ret g
def Zvg(a:(Ŀ Za)):Cq (Ŀ Za):=
 Cq.ret a
def KC(e:(Ŀ Za))(g:(Ŀ Za))(a:Int)(b:(Ŀ Za))(d:Int):Cq (((Ŀ Za)×Int×Int)⊕(Ŀ Za)):=
 Cq.Γ e a λj=>Cq.Γ g d λk=>Cq.bind (vE j.c k.c) λf=>Cq.bind (oO f) λh=>if ¬h=0 then(Cq.Γ e a λi=>Cq.é ((b++[(Za.mk f i.m)]).length<=small) (Cq.ret (.inl ((b++[(Za.mk f i.m)]),i64.wrap (a+1),i64.wrap (d+1)))))else(Cq.ret (.inl (b,i64.wrap (a+1),i64.wrap (d+1))))
def AS(f:(Ŀ Za))(c:(Ŀ Za))(a:Int)(b:(Ŀ Za))(d:Int)(e:Bool):Cq (((Ŀ Za)×Int×Int)⊕(Ŀ Za)):=
 if e=true then(Cq.Γ c a λg=>Cq.é ((b++[g]).length<=small) (Cq.ret (.inl ((b++[g]),d,i64.wrap (a+1)))))else(KC f c d b a)
def AT(a:(Ŀ Za))(c:(Ŀ Za))(d:Int)(e:(Ŀ Za))(b:Int):Cq (((Ŀ Za)×Int×Int)⊕(Ŀ Za)):=
 if b=(a.length:Int)then(AS a c d e b true)else(Cq.Γ a b λg=>Cq.Γ c d λh=>Cq.bind (xN g.m h.m) λf=>AS a c d e b (decide (f<0)))
def vu(c:(Ŀ Za))(f:(Ŀ Za))(a:(Ŀ Za))(b:Int)(d:Int)(e:Bool):Cq (((Ŀ Za)×Int×Int)⊕(Ŀ Za)):=
 if e=true then(Cq.Γ c b λg=>Cq.é ((a++[g]).length<=small) (Cq.ret (.inl ((a++[g]),i64.wrap (b+1),d))))else(AT c f d a b)
def xi(a:(Ŀ Za))(b:(Ŀ Za))(e:(Ŀ Za))(c:Int)(d:Int):Cq (((Ŀ Za)×Int×Int)⊕(Ŀ Za)):=
 if d=(b.length:Int)then(vu a b e c d true)else(if c<(a.length:Int)then(Cq.Γ a c λg=>Cq.Γ b d λh=>Cq.bind (xN g.m h.m) λf=>vu a b e c d (decide (0<f)))else(vu a b e c d false))
def Zvf(a:(Ŀ Za))(b:(Ŀ Za)):((Ŀ Za)×Int×Int)->Cq (Ŀ Za):=
 Cq.loop λf=>match f with|(c,d,e)=>if d<(a.length:Int)then(xi a b c d e)else(if e<(b.length:Int)then(xi a b c d e)else(Cq.ret (.inr c)))
def Bx(a:(Ŀ Za))(b:(Ŀ Za)):Cq (Ŀ Za):=
 Cq.next (Zvf a b ([],0,0)) λd=>match d with|c=>Zvg c
def Zoa(a:(Ŀ Za)):Cq ((Ŀ Za)×Int):=
 Cq.ret (a,0)
def Zob(f:(Ŀ Za))(a:(Ŀ Za))(b:Int)(d:(Fin 8->Int)):Cq (((Ŀ Za)×Int)⊕(Ŀ Za)):=
 Cq.Γ f b λg=>Cq.bind (Bx a [(Za.mk g.c d)]) λe=>Cq.ret (.inl (e,i64.wrap (b+1)))
def P0(d:(Ŀ Za))(b:(Fin 8->Int))(e:Int):(Int×(Fin 8->Int))->Cq (Fin 8->Int):=
 Cq.loop λf=>match f with|(a,c)=>if a<8 then(Cq.é (0<=a/\a<8) (Cq.Γ d e λg=>Cq.é (0<=a/\a<8) (Cq.é (0<=Ζ b a/\(Ζ b a)<8) (Cq.ret (.inl (i64.wrap (a+1),ε c ((Ζ b a).toNat) (Ζ g.m a)))))))else(Cq.ret (.inr c))
def Zn9(c:(Ŀ Za))(b:(Fin 8->Int)):((Ŀ Za)×Int)->Cq (Ŀ Za):=
 Cq.loop λf=>match f with|(a,d)=>if d<(c.length:Int)then(Cq.next (P0 c b d (0,(λ_=>0))) λg=>match g with|e=>Zob c a d e)else(Cq.ret (.inr a))
def AB(d:(Ŀ Za))(a:(Fin 8->Int)):Cq ((Ŀ Za)×Int):=
 Cq.bind (Jn a) λc=>if(!c)=true then Cq.fail else(Cq.next (Zn9 d a ([],0)) λe=>match e with|b=>Zoa b)
def PO(a:Zd)(b:(Ŀ (Ŀ Za)))(c:(Ŀ (Ŀ Za))):Cq Zd:=
 Cq.bind (Fo a.n b c) λd=>Cq.ret d.1
def ZmT(c:Zd)(e:(Fin 8->Int)):((Ŀ (Ŀ Za))×Int)->Cq (((Ŀ (Ŀ Za)))):=
 Cq.loop λf=>match f with|(b,a)=>if a<(c.neqs.length:Int)then(Cq.Γ c.neqs a λg=>Cq.bind (AB g e) λd=>Cq.é ((b++[d.1]).length<=small) (Cq.ret (.inl ((b++[d.1]),i64.wrap (a+1)))))else(Cq.ret (.inr b))
def PR(a:Zd)(b:(Fin 8->Int))(c:(Ŀ (Ŀ Za))):Cq Zd:=
 Cq.next (ZmT a b ([],0)) λe=>match e with|d=>PO a c d
def ZmU(c:Zd)(e:(Fin 8->Int)):((Ŀ (Ŀ Za))×Int)->Cq (((Ŀ (Ŀ Za)))):=
 Cq.loop λf=>match f with|(a,b)=>if b<(c.eqs.length:Int)then(Cq.Γ c.eqs b λg=>Cq.bind (AB g e) λd=>Cq.é ((a++[d.1]).length<=small) (Cq.ret (.inl ((a++[d.1]),i64.wrap (b+1)))))else(Cq.ret (.inr a))
def EN(a:Zd)(b:(Fin 8->Int)):Cq Zd:=
 Cq.next (ZmU a b ([],0)) λd=>match d with|c=>PR a b c
def xl(b:(Ŀ Za))(c:Int)(a:Int):Cq Bool:=
 Cq.bind (A5 b) λd=>match d with|false=>(Cq.ret false)|true=>(Cq.bind (Bk b) λe=>Cq.é (0<=(u64.wrap c)) (if(i64.wrap e)<(i64.wrap (1*2 ^ (min (u64.wrap c).toNat i64.bits)))then(Cq.bind (xj b) λf=>Cq.ret (decide (f<=a)))else(Cq.ret false)))
def ZpK:Cq Bool:=
 Cq.ret true
def ZpJ(b:(Ŀ (Ŀ Za)))(g:Int):Int->Cq (Bool⊕Unit):=
 Cq.loop λh=>match h with|a=>if a<(b.length:Int)then(Cq.Γ b a λi=>Cq.bind (xl i g 12) λc=>match c with|false=>(Cq.ret (.inr (.inl false)))|true=>(Cq.Γ b a λj=>if(j.length:Int)=0 then(Cq.ret (.inr (.inl false)))else(Cq.Γ b a λk=>Cq.bind (Fi k) λd=>Cq.Γ b a λl=>Cq.bind (tX d l) λe=>match e with|false=>(Cq.ret (.inr (.inl false)))|true=>(if 0<a then(Cq.Γ b (i64.wrap (a-1)) λm=>Cq.Γ b a λn=>Cq.bind (Gs m n) λf=>if 0<=f then Cq.fail else(Cq.ret (.inl (i64.wrap (a+1)))))else(Cq.ret (.inl (i64.wrap (a+1))))))))else(Cq.ret (.inr (.inr ())))
def Fm(a:(Ŀ (Ŀ Za)))(c:Int):Cq Bool:=
 if 12<(a.length:Int)then Cq.fail else(Cq.next (ZpJ a c 0) λd=>match d with|.inl b=>Cq.ret b|.inr ()=>ZpK)
def ZqS:Cq Bool:=
 Cq.ret true
def ZqR(b:Zd):Int->Cq (Bool⊕Unit):=
 Cq.loop λd=>match d with|a=>if a<(b.neqs.length:Int)then(Cq.Γ b.neqs a λe=>Cq.bind (xj e) λc=>if c=0 then Cq.fail else(Cq.ret (.inl (i64.wrap (a+1)))))else(Cq.ret (.inr (.inr ())))
def QN(b:Zd):Cq Bool:=
 Cq.next (ZqR b 0) λc=>match c with|.inl a=>Cq.ret a|.inr ()=>ZqS
def y3(a:Zd):Cq Bool:=
 if a.n<1 then(Cq.ret false)else(if 4<a.n then(Cq.ret false)else(Cq.bind (Fm a.eqs a.n) λb=>match b with|false=>(Cq.ret false)|true=>(Cq.bind (Fm a.neqs a.n) λc=>if(!c)=true then(Cq.ret false)else(QN a))))
def Gv(a:Zd):Cq Ĳ:=
 Cq.bind (y3 a) λb=>if(!b)=true then Cq.fail else(Cq.bind (vw [] a) λc=>Cq.ret (bytesOf c))
def Zq1(a:Zd)(b:(Fin 8->Int)):Cq (Zd×(Fin 8->Int)):=
 Cq.ret (a,b)
def Zq0(h:Zd)(a:(Ŀ (Fin 8->Int))):(Int×Zd×(Fin 8->Int))->Cq ((Zd×(Fin 8->Int))):=
 Cq.loop λi=>match i with|(b,c,d)=>if b<(a.length:Int)then(Cq.Γ a b λj=>Cq.bind (EN h j) λe=>Cq.bind (Gv e) λf=>Cq.bind (Gv c) λg=>if(Op.bytesLess f.toList g.toList)=true then(Cq.Γ a b λk=>Cq.ret (.inl (i64.wrap (b+1),e,k)))else(Cq.ret (.inl (i64.wrap (b+1),c,d))))else(Cq.ret (.inr (c,d)))
def K7(b:Zd):Cq (Zd×(Fin 8->Int)):=
 Cq.bind (K8 b.n) λa=>Cq.Γ a 0 λf=>Cq.bind (EN b f) λc=>Cq.Γ a 0 λg=>Cq.next (Zq0 b a (1,c,g)) λh=>match h with|(d,e)=>Zq1 d e
def ZqF:Cq Bool:=
 Cq.ret true
def ZqG(b:Int)(a:Int):Cq (Int⊕(Bool⊕Unit)):=
 if a<0 then Cq.fail else(Cq.ret (.inl (i64.wrap (b+1))))
def ZqE(d:(Ŀ (Fin 8->Int)))(b:Int):(Int×Int)->Cq (Bool⊕Int):=
 Cq.loop λe=>match e with|(a,c)=>if c<(d.length:Int)then(Cq.Γ d c λf=>Cq.é (0<=b/\b<8) (if(Ζ f b)<(-1000)then(Cq.ret (.inr (.inl false)))else(Cq.Γ d c λg=>Cq.é (0<=b/\b<8) (if 1000<(Ζ g b)then Cq.fail else(if a=0 then(Cq.Γ d c λh=>Cq.é (0<=b/\b<8) (Cq.ret (.inl (Ζ h b,i64.wrap (c+1)))))else(Cq.ret (.inl (a,i64.wrap (c+1)))))))))else(Cq.ret (.inr (.inr a)))
def ZqD(d:(Ŀ (Fin 8->Int))):Int->Cq (Bool⊕Unit):=
 Cq.loop λe=>match e with|b=>if b<8 then(Cq.next (ZqE d b (0,0)) λf=>match f with|.inl c=>Cq.ret (.inr (.inl c))|.inr a=>ZqG b a)else(Cq.ret (.inr (.inr ())))
def yZ(a:(Ŀ (Fin 8->Int))):Cq Bool:=
 if 24<(a.length:Int)then Cq.fail else(Cq.next (ZqD a 0) λc=>match c with|.inl b=>Cq.ret b|.inr ()=>ZqF)
def Zjs:Cq Bool:=
 Cq.ret true
def Zjr(a:(Fin 8->Int)):(Int×(Fin 8->Bool))->Cq (Bool⊕Unit):=
 Cq.loop λd=>match d with|(b,c)=>if b<8 then(Cq.é (0<=b/\b<8) (if(Ζ a b)<0 then(Cq.ret (.inr (.inl false)))else(Cq.é (0<=b/\b<8) (if 7<(Ζ a b)then(Cq.ret (.inr (.inl false)))else(Cq.é (0<=b/\b<8) (Cq.é (0<=Ζ a b/\(Ζ a b)<8) (if(Ζ c (Ζ a b))=true then Cq.fail else(Cq.é (0<=b/\b<8) (Cq.é (0<=Ζ a b/\(Ζ a b)<8) (Cq.ret (.inl (i64.wrap (b+1),ε c ((Ζ a b).toNat) true))))))))))))else(Cq.ret (.inr (.inr ())))
def Jv(a:(Fin 8->Int)):Cq Bool:=
 Cq.next (Zjr a (0,(λ_=>false))) λc=>match c with|.inl b=>Cq.ret b|.inr ()=>Zjs
def Gn(b:Zf):Cq (Zf×Int):=
 Cq.bind (Gq b.den b.num) λa=>Cq.ret (a.1,a.2)
def Gr(c:Zf)(d:Zf):Cq Zf:=
 Cq.bind (Gp d) λa=>Cq.bind (vE c a) λb=>Cq.ret b
def Zn8(a:(Ŀ Zf)):Cq (Ŀ Zf):=
 Cq.ret a
def Zn7(c:(Ŀ Zf))(f:Zf):(Int×(Ŀ Zf))->Cq (Ŀ Zf):=
 Cq.loop λg=>match g with|(b,a)=>if b<8 then(Cq.Γ a b λh=>Cq.Γ c b λi=>Cq.bind (rn f i) λd=>Cq.bind (Gr h d) λe=>Cq.Γ a b λj=>Cq.ret (.inl (i64.wrap (b+1),a.set b.toNat e)))else(Cq.ret (.inr a))
def Kl(a:(Ŀ Zf))(b:(Ŀ Zf))(d:Int):Cq (Ŀ Zf):=
 Cq.Γ a d λe=>Cq.next (Zn7 b e (0,a)) λf=>match f with|c=>Zn8 c
def Zth(a:(Ŀ (Ŀ Zf))):Cq Int:=
 Cq.ret (a.length:Int)
def Zti(a:(Ŀ (Ŀ Zf)))(b:(Ŀ Int))(e:Int)(c:Int)(d:(Ŀ Zf)):Cq (((Ŀ (Ŀ Zf))×(Ŀ Int)×Int)⊕(((Ŀ (Ŀ Zf))))):=
 Cq.é ((a++[d]).length<=small) (Cq.é ((b++[c]).length<=small) (Cq.ret (.inl ((a++[d]),(b++[c]),i64.wrap (e+1)))))
def Rx(c:Zf×Int):(Int×(Ŀ Zf))->Cq (Ŀ Zf):=
 Cq.loop λe=>match e with|(a,b)=>if a<8 then(Cq.Γ b a λf=>Cq.bind (rn f c.1) λd=>Cq.Γ b a λg=>Cq.ret (.inl (i64.wrap (a+1),b.set a.toNat d)))else(Cq.ret (.inr b))
def Ztj(b:(Ŀ (Ŀ Zf)))(c:(Ŀ Int))(d:Int)(e:(Ŀ Zf))(a:Int):Cq (((Ŀ (Ŀ Zf))×(Ŀ Int)×Int)⊕(((Ŀ (Ŀ Zf))))):=
 if a=8 then(Cq.ret (.inl (b,c,i64.wrap (d+1))))else(Cq.Γ e a λh=>Cq.bind (Gn h) λf=>Cq.next (Rx f (0,e)) λi=>match i with|g=>Zti b c d a g)
def Ry(b:(Ŀ Zf)):Int->Cq Int:=
 Cq.loop λd=>match d with|a=>if a<8 then(Cq.Γ b a λe=>Cq.bind (oO e) λc=>if c=0 then(Cq.ret (.inl (i64.wrap (a+1))))else(Cq.ret (.inr a)))else(Cq.ret (.inr a))
def Ztk(b:(Ŀ (Ŀ Zf)))(c:(Ŀ Int))(d:Int)(a:(Ŀ Zf)):Cq (((Ŀ (Ŀ Zf))×(Ŀ Int)×Int)⊕(((Ŀ (Ŀ Zf))))):=
 Cq.next (Ry a 0) λf=>match f with|e=>Ztj b c d a e
def Rz(b:(Ŀ (Ŀ Zf)))(d:(Ŀ Int)):(Int×(Ŀ Zf))->Cq (Ŀ Zf):=
 Cq.loop λf=>match f with|(a,c)=>if a<(b.length:Int)then(Cq.Γ b a λg=>Cq.Γ d a λh=>Cq.bind (Kl c g h) λe=>Cq.ret (.inl (i64.wrap (a+1),e)))else(Cq.ret (.inr c))
def Ztl(a:(Ŀ (Ŀ Zf)))(b:(Ŀ Int))(c:Int)(d:(Ŀ Zf)):Cq (((Ŀ (Ŀ Zf))×(Ŀ Int)×Int)⊕(((Ŀ (Ŀ Zf))))):=
 Cq.next (Rz a b (0,d)) λf=>match f with|e=>Ztk a b c e
def QL(c:(Ŀ (Fin 8->Int)))(d:Int):(Int×(Ŀ Zf))->Cq (Ŀ Zf):=
 Cq.loop λf=>match f with|(a,b)=>if a<8 then(Cq.Γ c d λg=>Cq.é (0<=a/\a<8) (Cq.bind (ZY (Ζ g a)) λe=>Cq.Γ b a λh=>Cq.ret (.inl (i64.wrap (a+1),b.set a.toNat e))))else(Cq.ret (.inr b))
def Ztg(b:(Ŀ (Fin 8->Int))):((Ŀ (Ŀ Zf))×(Ŀ Int)×Int)->Cq (((Ŀ (Ŀ Zf)))):=
 Cq.loop λf=>match f with|(c,d,a)=>if a<(b.length:Int)then(Cq.next (QL b a (0,(List.replicate 8 (Zf.mk (Zg.mk false []) (Zg.mk false []))))) λg=>match g with|e=>Ztl c d a e)else(Cq.ret (.inr c))
def F1(a:(Ŀ (Fin 8->Int))):Cq Int:=
 Cq.next (Ztg a ([],[],0)) λc=>match c with|b=>Zth b
def F2(a:Int)(b:Int):Cq (Fin 8->Int):=
 Cq.é (0<=a/\a<8) (Cq.ret (ε (λ_=>0) a.toNat b))
def Ztd(a:(Ŀ (Fin 8->Int))):Cq ((Ŀ (Fin 8->Int))×Int):=
 Cq.ret (a,0)
def Ztc:((Ŀ (Fin 8->Int))×Int)->Cq (((Ŀ (Fin 8->Int)))):=
 Cq.loop λd=>match d with|(a,c)=>if c<8 then(Cq.bind (F2 c 1) λb=>Cq.é ((a++[b]).length<=small) (Cq.ret (.inl ((a++[b]),i64.wrap (c+1)))))else(Cq.ret (.inr a))
def LP(a:(Ŀ (Fin 8->Int))):Cq ((Ŀ (Fin 8->Int))×Int):=
 Cq.bind (yZ a) λc=>if(!c)=true then Cq.fail else(Cq.é (([]++a).length<=small) (Cq.bind (F1 a) λd=>if d=8 then(Cq.ret (([]++a),0))else(if 16<(a.length:Int)then Cq.fail else(Cq.next (Ztc (([]++a),0)) λe=>match e with|b=>Ztd b))))
def Zn3(a:(Ŀ (Fin 8->Int))):Cq ((Ŀ (Fin 8->Int))×Int):=
 Cq.ret (a,0)
def Zn4(a:(Ŀ (Fin 8->Int)))(c:Int)(b:(Fin 8->Int)):Cq (((Ŀ (Fin 8->Int))×Int)⊕(((Ŀ (Fin 8->Int))))):=
 Cq.é ((a++[b]).length<=small) (Cq.ret (.inl ((a++[b]),i64.wrap (c+1))))
def PZ(b:(Fin 8->Int))(d:(Ŀ (Fin 8->Int))×Int)(e:Int):(Int×(Fin 8->Int))->Cq (Fin 8->Int):=
 Cq.loop λf=>match f with|(a,c)=>if a<8 then(Cq.é (0<=a/\a<8) (Cq.Γ d.1 e λg=>Cq.é (0<=a/\a<8) (Cq.é (0<=Ζ b a/\(Ζ b a)<8) (Cq.ret (.inl (i64.wrap (a+1),ε c ((Ζ b a).toNat) (Ζ g a)))))))else(Cq.ret (.inr c))
def Zn2(b:(Fin 8->Int))(c:(Ŀ (Fin 8->Int))×Int):((Ŀ (Fin 8->Int))×Int)->Cq (((Ŀ (Fin 8->Int)))):=
 Cq.loop λf=>match f with|(a,d)=>if d<(c.1.length:Int)then(Cq.next (PZ b c d (0,(λ_=>0))) λg=>match g with|e=>Zn4 a d e)else(Cq.ret (.inr a))
def Kk(d:(Ŀ (Fin 8->Int)))(a:(Fin 8->Int)):Cq ((Ŀ (Fin 8->Int))×Int):=
 Cq.bind (yZ d) λe=>if(!e)=true then Cq.fail else(Cq.bind (Jv a) λf=>if(!f)=true then Cq.fail else(Cq.bind (LP d) λb=>if ¬b.2=0 then Cq.fail else(Cq.next (Zn2 a b ([],0)) λg=>match g with|c=>Zn3 c)))
def EB(a:Int):Cq Bool:=
 if a=1 then(Cq.ret true)else(if a=7 then(Cq.ret true)else(Cq.ret (decide (a=9))))
def JT(a:Zc):Cq Bool:=
 if(a.p.length:Int)=0 then(if(a.o.length:Int)=0 then(Cq.ret true)else(Cq.ret (decide (a.kind=3))))else(Cq.bind (EB a.kind) λb=>match b with|false=>(Cq.ret false)|true=>(if(a.o.length:Int)=0 then(Cq.ret true)else(Cq.ret (decide (a.kind=3)))))
def Lb(b:Zd)(a:Zc):Cq Bool:=
 if a.kind<1 then(Cq.ret false)else(if 10<a.kind then(Cq.ret false)else(Cq.bind (A5 a.p) λc=>match c with|false=>(Cq.ret false)|true=>(Cq.bind (xj a.p) λd=>if 12<d then(Cq.ret false)else(Cq.bind (Bk a.p) λe=>Cq.é (0<=(u64.wrap b.n)) (if(i64.wrap (1*2 ^ (min (u64.wrap b.n).toNat i64.bits)))<=(i64.wrap e)then(Cq.ret false)else(Cq.bind (yZ a.o) λf=>if(!f)=true then(Cq.ret false)else(JT a)))))))
def Qz(a:ZF):Cq ZF:=
 if ¬a.e=0 then Cq.fail else(Cq.ret a)
def Zrj(e:Zd)(b:Zc):Cq ZF:=
 Cq.bind (K7 e) λa=>Cq.bind (AB b.p a.2) λc=>if b.kind=3 then(Cq.bind (Kk b.o a.2) λd=>Qz (ZF.mk a.1 (Zc.mk b.kind c.1 d.1) d.2))else(Qz (ZF.mk a.1 (Zc.mk b.kind c.1 []) 0))
def xA(a:Zd)(b:Zc):Cq ZF:=
 Cq.bind (y3 a) λc=>match c with|false=>(Cq.ret (ZF.mk (Zd.mk 0 [] []) (Zc.mk 0 [] []) 1))|true=>(Cq.bind (Lb a b) λd=>if(!d)=true then(Cq.ret (ZF.mk (Zd.mk 0 [] []) (Zc.mk 0 [] []) 1))else(Zrj a b))
def J2(b:Zc)(a:Bool):Cq (Ŀ Zc):=
 if a=true then(Cq.ret [(Zc.mk 5 [] [])])else(if b.kind=7 then(Cq.ret [(Zc.mk 6 [] [])])else(Cq.ret []))
def J3(a:Zc)(b:Bool):Cq (Ŀ Zc):=
 if b=true then(Cq.ret [(Zc.mk 4 [] [])])else(if a.kind=6 then(J2 a (decide (a.kind=6)))else(J2 a (decide (a.kind=10))))
def FT(a:Zc):Cq (Ŀ Zc):=
 if a.kind=5 then(J3 a (decide (a.kind=5)))else(J3 a (decide (a.kind=8)))
def ZqN(a:(Ŀ Int)):Cq (Ŀ Int):=
 Cq.ret a
def ZqO(a:Int)(b:(Ŀ Int)):Cq (((Ŀ Int)×Int)⊕(Ŀ Int)):=
 Cq.ret (.inl (b,i64.wrap (a+1)))
def ZqM(d:(Ŀ (Fin 8->Int)))(e:Int):((Ŀ Int)×Int)->Cq (Ŀ Int):=
 Cq.loop λf=>match f with|(b,a)=>if a<8 then(Cq.Γ d e λg=>Cq.é (0<=a/\a<8) (Cq.bind (AU b (Ζ g a)) λc=>Cq.ret (.inl (c,i64.wrap (a+1)))))else(Cq.ret (.inr b))
def ZqL(b:(Ŀ (Fin 8->Int))):((Ŀ Int)×Int)->Cq (Ŀ Int):=
 Cq.loop λd=>match d with|(c,a)=>if a<(b.length:Int)then(Cq.next (ZqM b a (c,0)) λe=>match e with|f=>ZqO a f)else(Cq.ret (.inr c))
def Lq(c:(Ŀ Int))(a:(Ŀ (Fin 8->Int))):Cq (Ŀ Int):=
 Cq.bind (uj c (u64.wrap (a.length:Int))) λb=>Cq.next (ZqL a (b,0)) λd=>match d with|e=>ZqN e
def Gu(a:Zc):Cq Ĳ:=
 Cq.bind (AU [] a.kind) λb=>Cq.bind (F3 b a.p) λc=>Cq.bind (Lq c a.o) λd=>Cq.ret (bytesOf d)
def Ao(c:Zc)(d:Zc):Cq Bool:=
 Cq.bind (Gu c) λa=>Cq.bind (Gu d) λb=>Cq.ret (decide (a=b))
def Zwj:Cq Int:=
 Cq.ret (-1)
def Fv(b:Ze)(e:Zd)(f:Zc):Int->Cq (Int⊕Unit):=
 Cq.loop λg=>match g with|a=>if a<(b.t.length:Int)then(Cq.Γ b.t a λh=>Cq.bind (yS h.k e) λc=>match c with|false=>(Cq.ret (.inl (i64.wrap (a+1))))|true=>(Cq.Γ b.t a λi=>Cq.bind (Ao i.q f) λd=>if d=true then(Cq.ret (.inr (.inl a)))else(Cq.ret (.inl (i64.wrap (a+1))))))else(Cq.ret (.inr (.inr ())))
def BB(b:Ze)(c:Zd)(d:Zc):Cq Int:=
 Cq.next (Fv b c d 0) λe=>match e with|.inl a=>Cq.ret a|.inr ()=>Zwj
def Qy(b:ZF)(a:Ze):Cq Zx:=
 Cq.bind (BB a b.k b.q) λc=>if 0<=c then(Cq.Γ a.t c λd=>Cq.ret (Zx.mk a d.id 0))else(if 100<=(a.t.length:Int)then(Cq.ret (Zx.mk (Ze.mk [] 0) 0 2))else(if 1000000<=a.next then Cq.fail else(Cq.é ((([]:Ŀ Zb)++a.t).length<=small) (Cq.é (((([]:Ŀ Zb)++a.t)++[(Zb.mk a.next b.k b.q 0 0 (-1) false)]).length<=small) (Cq.ret (Zx.mk (Ze.mk ((([]:Ŀ Zb)++a.t)++[(Zb.mk a.next b.k b.q 0 0 (-1) false)]) (i64.wrap (a.next+1))) a.next 0))))))
def Zri(e:Ze->Zd->Zc->Cq Zx)(h:ZF)(c:(Ŀ Zc)):(Int×Ze×Zx)->Cq (Zx⊕(Ze×Zx)):=
 Cq.loop λi=>match i with|(a,d,f)=>if a<(c.length:Int)then(Cq.Γ c a λj=>Cq.bind (e d h.k j) λg=>if ¬g.e=0 then Cq.fail else(Cq.ret (.inl (i64.wrap (a+1),g.b,f))))else(Cq.ret (.inr (.inr (d,f))))
def Ku(e:Ze->Zd->Zc->Cq Zx)(b:Ze)(c:Zd)(d:Zc):Cq Zx:=
 Cq.bind (xA c d) λa=>if ¬a.e=0 then(Cq.ret (Zx.mk (Ze.mk [] 0) 0 a.e))else(Cq.bind (FT a.q) λf=>Cq.next (Zri e a f (0,b,(Zx.mk (Ze.mk [] 0) 0 0))) λi=>match i with|.inl g=>Cq.ret g|.inr (h,j)=>Qy a h)
def A7:Nat->Ze->Zd->Zc->Cq Zx
 |0,_,_,_=>Cq.fail
 |n+1,a,b,c=>Ku (A7 n) a b c
def Ms(a:Int):Cq ((Ŀ Za)×Int):=
 if a<0 then(Cq.ret ([],1))else(if 8<=a then Cq.fail else(Cq.é (0<=a/\a<8) (Cq.bind (ZY 1) λb=>Cq.ret ([(Za.mk b (ε (λ_=>0) a.toNat 1))],0))))
def F8:Cq Ze:=
 Cq.ret (Ze.mk [] 1)
def Bf(a:Int):Cq Zc:=
 Cq.ret (Zc.mk a [] [])
def Zos(c:(Ŀ Int))(b:(Ŀ Int))(a:Int):Cq (Ŀ Int):=
 Cq.Γ b (c.length:Int) λe=>Cq.bind (ZZ (b.set (c.length:Int).toNat (u32.wrap a))) λd=>Cq.ret d
def P3(b:(Ŀ Int))(a:Int)(c:Int):Cq (((Ŀ Int)×Int×Int)⊕(((Ŀ Int)×Int))):=
 Cq.Γ b a λd=>Cq.ret (.inl ((b.set a.toNat (u32.wrap c)),Int.fdiv c (2 ^ (min (32:Int).toNat u64.bits)),i64.wrap (a+1)))
def Zor(d:(Ŀ Int))(e:(Ŀ Int)):((Ŀ Int)×Int×Int)->Cq (((Ŀ Int)×Int)):=
 Cq.loop λg=>match g with|(c,b,a)=>if a<(d.length:Int)then(Cq.Γ d a λf=>if a<(e.length:Int)then(Cq.Γ e a λh=>P3 c a (u64.wrap ((u64.wrap ((u64.wrap f)+b))+(u64.wrap h))))else(P3 c a (u64.wrap ((u64.wrap f)+b))))else(Cq.ret (.inr (c,b)))
def JO(a:(Ŀ Int))(d:(Ŀ Int)):Cq (Ŀ Int):=
 Cq.é (0<=i64.wrap ((a.length:Int)+1)/\(i64.wrap ((a.length:Int)+1))<=1000000) (Cq.next (Zor a d ((List.replicate (i64.wrap ((a.length:Int)+1)).toNat 0),0,0)) λe=>match e with|(c,b)=>Zos a c b)
def Rc(a:(Ŀ Int))(b:(Ŀ Int)):Cq (Ŀ Int):=
 if(a.length:Int)<(b.length:Int)then(JO b a)else(JO a b)
def Zhw(a:(Ŀ Int)):Cq (Ŀ Int):=
 Cq.bind (ZZ a) λb=>Cq.ret b
def Pu(b:(Ŀ Int))(a:Int)(c:Int):Cq (((Ŀ Int)×Int×Int)⊕(Ŀ Int)):=
 Cq.Γ b a λd=>Cq.ret (.inl ((b.set a.toNat (u32.wrap c)),Int.fdiv c (2 ^ (min (63:Int).toNat u64.bits)),i64.wrap (a+1)))
def Zhv(d:(Ŀ Int))(e:(Ŀ Int)):((Ŀ Int)×Int×Int)->Cq (Ŀ Int):=
 Cq.loop λg=>match g with|(c,b,a)=>if a<(d.length:Int)then(Cq.Γ d a λf=>if a<(e.length:Int)then(Cq.Γ e a λh=>Pu c a (u64.wrap ((u64.wrap ((u64.wrap f)-b))-(u64.wrap h))))else(Pu c a (u64.wrap ((u64.wrap f)-b))))else(Cq.ret (.inr c))
def Jq(a:(Ŀ Int))(c:(Ŀ Int)):Cq (Ŀ Int):=
 Cq.é (0<=(a.length:Int)/\(a.length:Int)<=1000000) (Cq.next (Zhv a c ((List.replicate (a.length:Int).toNat 0),0,0)) λd=>match d with|b=>Zhw b)
def Zoy:Cq Bool:=
 Cq.ret true
def Zoz(a:Int)(b:(Fin 8->Bool)):Cq ((Int×(Fin 8->Bool))⊕(Bool⊕Unit)):=
 Cq.ret (.inl (i64.wrap (a+1),b))
def Et(c:(Fin 8->Int))(a:Int)(b:(Fin 8->Bool)):Cq ((Int×(Fin 8->Bool))⊕(Bool⊕(Fin 8->Bool))):=
 Cq.é (0<=a/\a<8) (if(Ζ b a)=true then(Cq.é (0<=a/\a<8) (Cq.ret (.inl (i64.wrap (a+1),ε b a.toNat true))))else(Cq.é (0<=a/\a<8) (Cq.ret (.inl (i64.wrap (a+1),ε b a.toNat (decide (¬(Ζ c a)=0)))))))
def PS(c:(Fin 8->Int)):(Int×(Fin 8->Bool))->Cq (Bool⊕(Fin 8->Bool)):=
 Cq.loop λd=>match d with|(a,b)=>if a<8 then(Cq.é (0<=a/\a<8) (if(Ζ c a)<(-1000)then(Cq.ret (.inr (.inl false)))else(if 1000<(Ζ c a)then(Cq.ret (.inr (.inl false)))else(if(Ζ c a)<0 then(Cq.é (0<=a/\a<8) (if(!(Ζ b a))=true then Cq.fail else(Et c a b)))else(Et c a b)))))else(Cq.ret (.inr (.inr b)))
def Zox(b:(Ŀ (Fin 8->Int))):(Int×(Fin 8->Bool))->Cq (Bool⊕Unit):=
 Cq.loop λf=>match f with|(a,c)=>if a<(b.length:Int)then(Cq.Γ b a λg=>Cq.next (PS g (0,c)) λh=>match h with|.inl d=>Cq.ret (.inr (.inl d))|.inr e=>Zoz a e)else(Cq.ret (.inr (.inr ())))
def yM(a:(Ŀ (Fin 8->Int))):Cq Bool:=
 if 24<(a.length:Int)then Cq.fail else(Cq.next (Zox a (0,(λ_=>false))) λc=>match c with|.inl b=>Cq.ret b|.inr ()=>Zoy)
def Ep(a:Zc):Cq Bool:=
 if a.kind=1 then(if a.kind=1 then(Cq.ret true)else(Cq.ret (decide ((a.p.length:Int)=0))))else(if a.kind=7 then(if a.kind=7 then(Cq.ret true)else(Cq.ret (decide ((a.p.length:Int)=0))))else(if a.kind=9 then(Cq.ret true)else(Cq.ret (decide ((a.p.length:Int)=0)))))
def Kg(a:Zc):Cq Bool:=
 Cq.bind (yM a.o) λb=>match b with|false=>(Cq.ret false)|true=>(if 0<(a.o.length:Int)then(if ¬a.kind=3 then(Cq.ret false)else(Ep a))else(Ep a))
def QH(b:Zd)(a:Zc):Cq Bool:=
 Cq.bind (Ap a.p) λc=>match c with|false=>(Cq.ret false)|true=>(Cq.bind (xf a.p) λd=>if 12<d then(Cq.ret false)else(Cq.bind (Aw a.p) λe=>Cq.é (0<=b.n) (if ¬(Int.fdiv e (2 ^ (min (b.n).toNat u8.bits)))=0 then(Cq.ret false)else(Kg a))))
def Fe(b:Zd)(a:Zc):Cq Bool:=
 if a.kind<1 then(Cq.ret false)else(if 10<a.kind then(Cq.ret false)else(QH b a))
def Pr(a:(Ŀ (Fin 8->Int))):Cq ((Ŀ (Fin 8->Int))):=
 Cq.qg a (Cq.ret []) (Cq.é (([]++a).length<=small) (Cq.ret ([]++a)))
def Kb(a:(Ŀ Zf))(b:Int):Cq Bool:=
 Cq.Γ a b λd=>Cq.bind (ZI d) λc=>Cq.ret (decide (¬c=0))
def QY(a:Zf):Cq (Zf×Int):=
 Cq.bind (vh a.num) λb=>if b=0 then Cq.fail else(if b=(-1)then(Cq.bind (yL a.den) λc=>Cq.bind (yL a.num) λd=>Cq.ret ((Zf.mk c d),0))else(Cq.ret ((Zf.mk a.den a.num),0)))
def EC(c:Zf)(d:Zf):Cq (Zf×Int):=
 Cq.bind (QY d) λa=>if ¬a.2=0 then Cq.fail else(Cq.bind (Z9 c a.1) λb=>Cq.ret (b,0))
def QZ(a:Zf):Cq Zf:=
 Cq.bind (yL a.num) λb=>Cq.ret (Zf.mk b a.den)
def Q8(a:Zg)(b:Zg):Cq Zg:=
 if a.neg=b.neg then(Cq.bind (Rc a.υ b.υ) λc=>Cq.bind (ZT a.neg c) λd=>Cq.ret d)else(Cq.bind (Av a.υ b.υ) λe=>if 0<=e then(Cq.bind (Jq a.υ b.υ) λf=>Cq.bind (ZT a.neg f) λg=>Cq.ret g)else(Cq.bind (Jq b.υ a.υ) λh=>Cq.bind (ZT b.neg h) λi=>Cq.ret i))
def QX(a:Zf)(b:Zf):Cq Zf:=
 Cq.bind (vn [a.num,b.den]) λc=>Cq.bind (vn [b.num,a.den]) λd=>Cq.bind (Q8 c d) λe=>Cq.bind (vn [a.den,b.den]) λf=>Cq.bind (Ax e f) λg=>Cq.ret g
def EE(c:Zf)(d:Zf):Cq Zf:=
 Cq.bind (QZ d) λa=>Cq.bind (QX c a) λb=>Cq.ret b
def ZaN:Cq Int:=
 Cq.ret (-1)
def ZaM(c:(Ŀ (Ŀ Zf)))(b:Int):Int->Cq (Int⊕Unit):=
 Cq.loop λe=>match e with|a=>if a<(c.length:Int)then(Cq.Γ c a λf=>Cq.bind (Kb f b) λd=>if d=true then(Cq.ret (.inr (.inl a)))else(Cq.ret (.inl (i64.wrap (a+1)))))else(Cq.ret (.inr (.inr ())))
def ZO(c:(Ŀ (Ŀ Zf)))(a:Int):Cq Int:=
 Cq.next (ZaM c a 0) λd=>match d with|.inl b=>Cq.ret b|.inr ()=>ZaN
def Zp6(a:Int):Cq Int:=
 Cq.ret a
def Zp7(b:Int)(a:Int)(c:(Ŀ (Ŀ Zf))):Cq (((Ŀ (Ŀ Zf))×Int×Int)⊕Int):=
 Cq.ret (.inl (c,i64.wrap (b+1),i64.wrap (a+1)))
def Zp8(a:Int)(b:(Ŀ (Ŀ Zf))):Cq (((Ŀ (Ŀ Zf))×Int)⊕(((Ŀ (Ŀ Zf))))):=
 Cq.ret (.inl (b,i64.wrap (a+1)))
def P8(e:Int)(c:Int)(f:Zf×Int):((Ŀ (Ŀ Zf))×Int)->Cq (((Ŀ (Ŀ Zf)))):=
 Cq.loop λl=>match l with|(b,a)=>if a<8 then(Cq.Γ b c λm=>Cq.Γ m a λg=>Cq.Γ b e λh=>Cq.Γ h a λi=>Cq.bind (Z9 f.1 i) λj=>Cq.bind (EE g j) λk=>Cq.Γ b c λd=>Cq.Γ d a λn=>Cq.ret (.inl ((b.set c.toNat (d.set a.toNat k)),i64.wrap (a+1))))else(Cq.ret (.inr b))
def P7(d:Int)(c:Int):((Ŀ (Ŀ Zf))×Int)->Cq (((Ŀ (Ŀ Zf)))):=
 Cq.loop λg=>match g with|(b,a)=>if a<(b.length:Int)then(Cq.Γ b a λh=>Cq.Γ h c λi=>Cq.Γ b d λj=>Cq.Γ j c λk=>Cq.bind (EC i k) λf=>Cq.next (P8 d a f (b,c)) λl=>match l with|e=>Zp8 a e)else(Cq.ret (.inr b))
def Zp5:((Ŀ (Ŀ Zf))×Int×Int)->Cq Int:=
 Cq.loop λg=>match g with|(b,a,c)=>if c<8 then(Cq.é (0<=a/\a<=(b.length:Int)) (Cq.bind (ZO (b.drop a.toNat) c) λd=>if d<0 then(Cq.ret (.inl (b,a,i64.wrap (c+1))))else(Cq.Γ b (i64.wrap (a+d)) λf=>Cq.Γ b a λh=>Cq.Γ b a λj=>Cq.Γ (b.set a.toNat f) (i64.wrap (a+d)) λk=>Cq.next (P7 a c (((b.set a.toNat f).set (i64.wrap (a+d)).toNat h),i64.wrap (a+1))) λi=>match i with|e=>Zp7 a c e)))else(Cq.ret (.inr a))
def Zp9(a:(Ŀ (Ŀ Zf))):Cq Int:=
 Cq.next (Zp5 (a,0,0)) λc=>match c with|b=>Zp6 b
def Zqa(a:Int)(b:(Ŀ (Ŀ Zf))):Cq (((Ŀ (Ŀ Zf))×Int)⊕(((Ŀ (Ŀ Zf))))):=
 Cq.ret (.inl (b,i64.wrap (a+1)))
def PT(c:Int)(e:(Fin 8->Int)):((Ŀ (Ŀ Zf))×Int)->Cq (((Ŀ (Ŀ Zf)))):=
 Cq.loop λg=>match g with|(b,a)=>if a<8 then(Cq.é (0<=a/\a<8) (Cq.bind (w7 (Ζ e a)) λf=>Cq.Γ b c λd=>Cq.Γ d a λh=>Cq.ret (.inl ((b.set c.toNat (d.set a.toNat f)),i64.wrap (a+1)))))else(Cq.ret (.inr b))
def P9(b:(Ŀ (Fin 8->Int))):((Ŀ (Ŀ Zf))×Int)->Cq (((Ŀ (Ŀ Zf)))):=
 Cq.loop λf=>match f with|(c,a)=>if a<(b.length:Int)then(Cq.Γ b a λe=>Cq.next (PT a e (c,0)) λg=>match g with|d=>Zqa a d)else(Cq.ret (.inr c))
def Fc(a:(Ŀ (Fin 8->Int))):Cq Int:=
 Cq.é (0<=(a.length:Int)/\(a.length:Int)<=1000000) (Cq.next (P9 a ((List.replicate (a.length:Int).toNat (List.replicate 8 (Zf.mk (Zg.mk false []) (Zg.mk false [])))),0)) λc=>match c with|b=>Zp9 b)
def Zp4(a:(Fin 8->Int)):Cq (Fin 8->Int):=
 Cq.ret a
def Zp3(b:Int):(Int×(Fin 8->Int))->Cq (Fin 8->Int):=
 Cq.loop λd=>match d with|(a,c)=>if a<8 then(Cq.é (0<=a) (Cq.é (0<=a/\a<8) (Cq.ret (.inl (i64.wrap (a+1),ε c a.toNat (i64.wrap (u8.wrap (BitVec.ofInt u8.bits (Int.fdiv b (2 ^ (min (a).toNat u8.bits))) &&& BitVec.ofInt u8.bits 1).toNat)))))))else(Cq.ret (.inr c))
def K1(a:Int):Cq (Fin 8->Int):=
 Cq.next (Zp3 a (0,(λ_=>0))) λc=>match c with|b=>Zp4 b
def Zp2(a:(Ŀ (Fin 8->Int))):Cq ((Ŀ (Fin 8->Int))×Int):=
 Cq.ret (a,0)
def Zp1:((Ŀ (Fin 8->Int))×Int)->Cq (((Ŀ (Fin 8->Int)))):=
 Cq.loop λd=>match d with|(b,a)=>if a<8 then(Cq.é (0<=a) (Cq.bind (K1 (u8.wrap (1*2 ^ (min (a).toNat u8.bits)))) λc=>Cq.é ((b++[c]).length<=small) (Cq.ret (.inl ((b++[c]),i64.wrap (a+1))))))else(Cq.ret (.inr b))
def K0(a:(Ŀ (Fin 8->Int))):Cq ((Ŀ (Fin 8->Int))×Int):=
 Cq.bind (yM a) λc=>if(!c)=true then Cq.fail else(Cq.bind (Pr a) λb=>Cq.bind (Fc a) λd=>if d=8 then(Cq.ret (b,0))else(if 24<(i64.wrap ((a.length:Int)+8))then Cq.fail else(Cq.next (Zp1 (b,0)) λf=>match f with|e=>Zp2 e)))
def Zmw(a:(Ŀ (Fin 8->Int))):Cq ((Ŀ (Fin 8->Int))×Int):=
 Cq.ret (a,0)
def Zmx(a:Int)(b:(Ŀ (Fin 8->Int))):Cq (((Ŀ (Fin 8->Int))×Int)⊕(((Ŀ (Fin 8->Int))))):=
 Cq.ret (.inl (b,i64.wrap (a+1)))
def PF(c:(Fin 8->Int))(d:Int)(e:(Fin 8->Int)):((Ŀ (Fin 8->Int))×Int)->Cq (((Ŀ (Fin 8->Int)))):=
 Cq.loop λf=>match f with|(b,a)=>if a<8 then(Cq.é (0<=a/\a<8) (Cq.é (0<=a/\a<8) (Cq.Γ b d λg=>Cq.é (0<=Ζ c a/\(Ζ c a)<8) (Cq.ret (.inl ((b.set d.toNat (ε g (Ζ c a).toNat (Ζ e a))),i64.wrap (a+1)))))))else(Cq.ret (.inr b))
def Zmu(e:(Fin 8->Int))(d:(Ŀ (Fin 8->Int))×Int):((Ŀ (Fin 8->Int))×Int)->Cq (((Ŀ (Fin 8->Int)))):=
 Cq.loop λf=>match f with|(b,a)=>if a<(d.1.length:Int)then(Cq.Γ d.1 a λg=>Cq.next (PF e a g (b,0)) λh=>match h with|c=>Zmx a c)else(Cq.ret (.inr b))
def PG(c:(Ŀ (Fin 8->Int)))(d:(Fin 8->Int)):Cq ((Ŀ (Fin 8->Int))×Int):=
 Cq.bind (K0 c) λa=>if ¬a.2=0 then Cq.fail else(Cq.é (0<=(a.1.length:Int)/\(a.1.length:Int)<=1000000) (Cq.next (Zmu d a ((List.replicate (a.1.length:Int).toNat (λ_=>0)),0)) λe=>match e with|b=>Zmw b))
def Zmv(b:(Fin 8->Int)):(Int×(Fin 8->Bool))->Cq (((Ŀ (Fin 8->Int))×Int)⊕Unit):=
 Cq.loop λd=>match d with|(a,c)=>if a<8 then(Cq.é (0<=a/\a<8) (if(Ζ b a)<0 then(Cq.ret (.inr (.inl ([],1))))else(if 8<=(Ζ b a)then(Cq.ret (.inr (.inl ([],1))))else(Cq.é (0<=Ζ b a/\(Ζ b a)<8) (if(Ζ c (Ζ b a))=true then Cq.fail else(Cq.é (0<=Ζ b a/\(Ζ b a)<8) (Cq.ret (.inl (i64.wrap (a+1),ε c ((Ζ b a).toNat) true)))))))))else(Cq.ret (.inr (.inr ())))
def Ka(a:(Ŀ (Fin 8->Int)))(b:(Fin 8->Int)):Cq ((Ŀ (Fin 8->Int))×Int):=
 Cq.bind (yM a) λc=>if(!c)=true then Cq.fail else(Cq.next (Zmv b (0,(λ_=>false))) λe=>match e with|.inl d=>Cq.ret d|.inr ()=>PG a b)
def Ev(b:Zc)(a:(Fin 8->Int)):Cq (Zc×Int):=
 Cq.bind (Ee b.p a) λc=>if ¬c.2=0 then Cq.fail else(if b.kind=3 then(Cq.bind (Ka b.o a) λd=>if ¬d.2=0 then Cq.fail else(Cq.ret ((Zc.mk b.kind c.1 d.1),0)))else(Cq.ret ((Zc.mk b.kind c.1 []),0)))
def Z4(a:(Ŀ Zb)):Cq (Ŀ Zb):=
 Cq.qg a (Cq.ret []) (Cq.é (([]++a).length<=small) (Cq.ret ([]++a)))
def Zt6(b:Ze)(c:Zd×(Fin 8->Int))(d:Zc×Int)(e:(Ŀ (Ĳ×Int))):Cq (Ze×Int×Int):=
 Cq.bind (Z4 b.t) λf=>Cq.bind (vm 5 c.1 d.1 e (Ze.mk f b.next)) λa=>if ¬a.1.2=0 then Cq.fail else(Cq.ret ((Ze.mk a.2.2.t a.2.2.next),a.1.1,0))
def E3(b:Ze):(Int×(Ŀ (Ĳ×Int)))->Cq (((Ŀ (Ĳ×Int)))):=
 Cq.loop λf=>match f with|(a,c)=>if a<(b.t.length:Int)then(Cq.Γ b.t a λe=>Cq.bind (tG e.k e.q) λd=>Cq.é ((d.size<=1000000)/\(eV c d e.id).length<=small) (Cq.ret (.inl (i64.wrap (a+1),(eV c d e.id)))))else(Cq.ret (.inr c))
def Rm(a:Ze)(d:Zd)(e:Zc):Cq (Ze×Int×Int):=
 Cq.bind (EF d) λb=>Cq.bind (Ev e b.2) λc=>if ¬c.2=0 then Cq.fail else(Cq.next (E3 a (0,[])) λg=>match g with|f=>Zt6 a b c f)
def xI(c:Ze)(a:Zd)(b:Zc):Cq (Ze×Int×Int):=
 Cq.bind (vl a) λd=>match d with|false=>(Cq.ret ((Ze.mk [] 0),0,1))|true=>(Cq.bind (Fe a b) λe=>if(!e)=true then(Cq.ret ((Ze.mk [] 0),0,1))else(Rm c a b))
def ZsV:Cq (Zb×Bool):=
 Cq.ret ((Zb.mk 0 (Zd.mk 0 [] []) (Zc.mk 0 [] []) 0 0 0 false),false)
def Kt(c:Ze)(d:Int):(Int×Zb)->Cq ((Zb×Bool)⊕Zb):=
 Cq.loop λf=>match f with|(a,b)=>if a<(c.t.length:Int)then(Cq.Γ c.t a λe=>if e.id=d then(Cq.ret (.inr (.inl (e,true))))else(Cq.ret (.inl (i64.wrap (a+1),b))))else(Cq.ret (.inr (.inr b)))
def A1(c:Ze)(a:Int):Cq (Zb×Bool):=
 Cq.next (Kt c a (0,(Zb.mk 0 (Zd.mk 0 [] []) (Zc.mk 0 [] []) 0 0 0 false))) λd=>match d with|.inl b=>Cq.ret b|.inr e=>ZsV
def fu(a:ZE)(c:(Ŀ Za)):Cq Bool:=
 Cq.bind (ç a c 64) λb=>Cq.ret b
def Za5:Cq Bool:=
 Cq.ret true
def Za4(c:(Ŀ (Ŀ Za)))(b:ZE):Int->Cq (Bool⊕Unit):=
 Cq.loop λe=>match e with|a=>if a<(c.length:Int)then(Cq.Γ c a λf=>Cq.bind (fu b f) λd=>if(!d)=true then(Cq.ret (.inr (.inl false)))else(Cq.ret (.inl (i64.wrap (a+1)))))else(Cq.ret (.inr (.inr ())))
def Pn(c:(Ŀ (Ŀ Za)))(a:ZE):Cq Bool:=
 Cq.next (Za4 c a 0) λd=>match d with|.inl b=>Cq.ret b|.inr ()=>Za5
def fk(a:ZE)(c:(Ŀ (Ŀ Za))):Cq Bool:=
 Cq.bind (Pn c a) λb=>Cq.ret b
def Å(a:ZE)(b:(Ŀ (Ŀ Za))):Cq Bool:=
 if(b.length:Int)<=64 then(Cq.bind (fk a b) λc=>Cq.ret c)else(Cq.ret false)
def Ej(a:Int):Cq Bool:=
 if 0<=a then(Cq.ret (decide (a<=1000000)))else(Cq.ret false)
def JB(a:Zl):Cq Bool:=
 Cq.bind (Z0 a.lo) λb=>match b with|false=>(Cq.ret false)|true=>(Cq.bind (Z0 a.hi) λc=>match c with|false=>(Cq.ret false)|true=>(Cq.bind (vi a.lo a.hi) λd=>Cq.ret (decide (d<=0))))
def tC(a:Zf):Cq Bool:=
 Cq.bind (Z0 a) λb=>match b with|false=>(Cq.ret false)|true=>(Cq.bind (ZI a) λc=>Cq.ret (decide (c=0)))
def gH:Cq Bool:=
 Cq.ret true
def gG(b:ZE)(i:(Ŀ Zl)):Int->Cq (Bool⊕Unit):=
 Cq.loop λj=>match j with|a=>if a<8 then(Cq.Γ i a λc=>if a<b.k.n then(Cq.bind (JB c) λd=>match d with|false=>(Cq.ret (.inr (.inl false)))|true=>(if b.k.n<=a then(Cq.bind (tC c.lo) λe=>match e with|false=>(Cq.ret (.inr (.inl false)))|true=>(Cq.bind (tC c.hi) λf=>if(!f)=true then(Cq.ret (.inr (.inl false)))else(Cq.ret (.inl (i64.wrap (a+1))))))else(Cq.ret (.inl (i64.wrap (a+1))))))else(if b.k.n<=a then(Cq.bind (tC c.lo) λg=>match g with|false=>(Cq.ret (.inr (.inl false)))|true=>(Cq.bind (tC c.hi) λh=>if(!h)=true then(Cq.ret (.inr (.inl false)))else(Cq.ret (.inl (i64.wrap (a+1))))))else(Cq.ret (.inl (i64.wrap (a+1))))))else(Cq.ret (.inr (.inr ())))
def dR(a:ZE)(c:(Ŀ Zl)):Cq Bool:=
 Cq.next (gG a c 0) λd=>match d with|.inl b=>Cq.ret b|.inr ()=>gH
def Zba:Cq Bool:=
 Cq.ret true
def Za9(c:(Ŀ (Ŀ Zl)))(b:ZE):Int->Cq (Bool⊕Unit):=
 Cq.loop λe=>match e with|a=>if a<(c.length:Int)then(Cq.Γ c a λf=>Cq.bind (dR b f) λd=>if(!d)=true then(Cq.ret (.inr (.inl false)))else(Cq.ret (.inl (i64.wrap (a+1)))))else(Cq.ret (.inr (.inr ())))
def Pp(c:(Ŀ (Ŀ Zl)))(a:ZE):Cq Bool:=
 Cq.next (Za9 c a 0) λd=>match d with|.inl b=>Cq.ret b|.inr ()=>Zba
def Â(a:ZE)(b:(Ŀ (Ŀ Zl))):Cq Bool:=
 if(b.length:Int)<=64 then(Cq.bind (Pp b a) λc=>Cq.ret c)else(Cq.ret false)
def JY(a:Int):Cq Bool:=
 if(-1)<=a then(Cq.ret (decide (a<=1)))else(Cq.ret false)
def ZP(a:Zk):Cq Bool:=
 if a.kind=0 then(if a.n=0 then(if a.d=0 then(if a.r=0 then(if(a.p.length:Int)=0 then(if(a.o.length:Int)=0 then(if(a.l.length:Int)=0 then(if(a.s.length:Int)=0 then(Cq.ret (decide ((a.b.length:Int)=0)))else(Cq.ret false))else(Cq.ret false))else(Cq.ret false))else(Cq.ret false))else(Cq.ret false))else(Cq.ret false))else(Cq.ret false))else(Cq.ret false)
def Zec:Cq Bool:=
 Cq.ret true
def Zeb(b:(Ŀ Int)):Int->Cq (Bool⊕Unit):=
 Cq.loop λd=>match d with|a=>if a<(b.length:Int)then(Cq.Γ b a λe=>Cq.bind (JY e) λc=>if(!c)=true then(Cq.ret (.inr (.inl false)))else(Cq.ret (.inl (i64.wrap (a+1)))))else(Cq.ret (.inr (.inr ())))
def Ji(b:(Ŀ Int)):Cq Bool:=
 Cq.next (Zeb b 0) λc=>match c with|.inl a=>Cq.ret a|.inr ()=>Zec
def ø(a:vo)(e:Bool):Cq Bool:=
 if e=true then(Cq.bind (Ej a.c.n) λf=>if f=true then(Cq.bind (ZP (Zk.mk 0 a.c.p 0 a.c.d a.c.r a.c.o a.c.l a.c.s a.c.b)) λg=>Cq.ret g)else(Cq.ret false))else(Cq.ret false)
def ù(a:vo)(e:Bool):Cq Bool:=
 if e=true then(Cq.bind (ZP (Zk.mk 0 a.c.p a.c.n a.c.d a.c.r a.c.o a.c.l a.c.s a.c.b)) λw=>Cq.ret w)else(if a.c.kind=4 then(Cq.bind (yM a.c.o) λx=>match x with|false=>(Cq.ret false)|true=>(Cq.bind (Å a.rules a.c.l) λy=>if y=true then(Cq.bind (ZP (Zk.mk 0 a.c.p a.c.n a.c.d a.c.r [] [] a.c.s a.c.b)) λz=>Cq.ret z)else(Cq.ret false)))else(if a.c.kind=5 then(if(-1)<=a.c.d then(if a.c.d<=a.rules.k.n then(Cq.bind (Ej a.c.n) λc=>if c=true then(Cq.bind (ZP (Zk.mk 0 a.c.p 0 0 a.c.r a.c.o a.c.l a.c.s a.c.b)) λd=>Cq.ret d)else(Cq.ret false))else(Cq.ret false))else(Cq.ret false))else(if a.c.kind=6 then(if 0<=a.c.r then(if a.c.r<=a.c.d then(if a.c.d<=a.c.n then(Cq.bind (Ej a.c.n) λf=>if f=true then(Cq.bind (ZP (Zk.mk 0 a.c.p 0 0 0 a.c.o a.c.l a.c.s a.c.b)) λg=>Cq.ret g)else(Cq.ret false))else(Cq.ret false))else(Cq.ret false))else(Cq.ret false))else(if a.c.kind=7 then(Cq.bind (Â a.rules a.c.b) λh=>if h=true then(Cq.bind (ZP (Zk.mk 0 a.c.p a.c.n a.c.d a.c.r a.c.o a.c.l a.c.s [])) λi=>Cq.ret i)else(Cq.ret false))else(if a.c.kind=8 then(Cq.bind (ç a.rules a.c.p 12) λj=>match j with|false=>(Cq.ret false)|true=>(Cq.bind (Â a.rules a.c.b) λm=>match m with|false=>(Cq.ret false)|true=>(if(a.c.s.length:Int)=(a.c.b.length:Int)then(Cq.bind (Ji a.c.s) λq=>if q=true then(Cq.bind (ZP (Zk.mk 0 [] a.c.n a.c.d a.c.r a.c.o a.c.l [] [])) λt=>Cq.ret t)else(Cq.ret false))else(Cq.ret false))))else(if a.c.kind=11 then(Cq.bind (Å a.rules a.c.l) λu=>if u=true then(Cq.bind (ZP (Zk.mk 0 a.c.p a.c.n a.c.d a.c.r a.c.o [] a.c.s a.c.b)) λv=>Cq.ret v)else(Cq.ret false))else(if a.c.kind=12 then(ø a (decide (a.c.kind=12)))else(ø a (decide (a.c.kind=13))))))))))
def í(a:vo)(e:Bool):Cq Bool:=
 if e=true then(Cq.bind (ç a.rules a.c.p 12) λf=>if f=true then(Cq.bind (ZP (Zk.mk 0 [] a.c.n a.c.d a.c.r a.c.o a.c.l a.c.s a.c.b)) λg=>Cq.ret g)else(Cq.ret false))else(if a.c.kind=3 then(ù a (decide (a.c.kind=3)))else(ù a (decide (a.c.kind=9))))
def eZ(a:vo):Cq Bool:=
 Cq.bind (Ã a.rules) λb=>if(!b)=true then(Cq.ret false)else(if a.c.kind=1 then(í a (decide (a.c.kind=1)))else(if a.c.kind=2 then(í a (decide (a.c.kind=2)))else(í a (decide (a.c.kind=10)))))
def E1(b:Zd)(c:Zk):Cq Bool:=
 Cq.bind (eZ (vo.mk (ZE.mk b) c)) λa=>Cq.ret a
def Zk7:Cq Bool:=
 Cq.ret true
def Zk6(b:(Ŀ (Fin 8->Int)))(c:(Ŀ (Fin 8->Int))):Int->Cq (Bool⊕Unit):=
 Cq.loop λd=>match d with|a=>if a<(b.length:Int)then(Cq.Γ b a λe=>Cq.Γ c a λf=>if ¬e=f then(Cq.ret (.inr (.inl false)))else(Cq.ret (.inl (i64.wrap (a+1)))))else(Cq.ret (.inr (.inr ())))
def Er(a:(Ŀ (Fin 8->Int)))(b:(Ŀ (Fin 8->Int))):Cq Bool:=
 if ¬(a.length:Int)=(b.length:Int)then(Cq.ret false)else(Cq.next (Zk6 a b 0) λd=>match d with|.inl c=>Cq.ret c|.inr ()=>Zk7)
def J5(c:Zd)(b:Zc)(a:Zk):Cq Bool:=
 if b.kind=1 then(if a.kind=1 then(Cq.bind (ZV a.p b.p) λd=>Cq.ret d)else(if a.kind=2 then(Cq.bind (ZV a.p b.p) λe=>Cq.ret e)else(Cq.ret false)))else(if b.kind=2 then(Cq.bind (w7 1) λf=>Cq.bind (Ea f) λg=>if a.kind=3 then(Cq.ret true)else(if a.kind=2 then(if(c.neqs.length:Int)=0 then(Cq.bind (ZV a.p g) λh=>Cq.ret h)else(Cq.ret false))else(Cq.ret false)))else(if b.kind=3 then(if a.kind=4 then(Cq.bind (Er a.o b.o) λi=>Cq.ret i)else(Cq.ret false))else(if b.kind=4 then(Cq.ret (decide (a.kind=5)))else(if b.kind=5 then(Cq.ret (decide (a.kind=6)))else(if b.kind=6 then(Cq.ret (decide (a.kind=7)))else(if b.kind=7 then(if a.kind=8 then(Cq.bind (ZV a.p b.p) λj=>Cq.ret j)else(Cq.ret false))else(if b.kind=8 then(if a.kind=9 then(Cq.ret true)else(if a.kind=6 then(Cq.ret true)else(if a.kind=13 then(Cq.ret (decide (1<=a.n)))else(Cq.ret false))))else(if b.kind=9 then(if a.kind=10 then(Cq.bind (ZV a.p b.p) λk=>Cq.ret k)else(Cq.ret false))else(if b.kind=10 then(Cq.ret (decide (a.kind=11)))else(Cq.ret false))))))))))
def Ec(a:Zk)(c:Bool):Cq (Int×Int):=
 if c=true then(Cq.ret ((a.b.length:Int),(a.b.length:Int)))else(if a.kind=9 then(Cq.ret (0,0))else(if a.kind=13 then(Cq.ret (a.n,(-1)))else(if a.kind=12 then(Cq.ret (0,a.n))else(Cq.ret (0,(-1))))))
def Ex(a:Zk)(b:Bool):Cq (Int×Int):=
 if b=true then(if a.kind=6 then(Cq.ret (a.r,a.r))else(if a.kind=7 then(Ec a (decide (a.kind=7)))else(Ec a (decide (a.kind=8)))))else(Cq.ret (0,(-1)))
def JX(b:Zc)(a:Zk):Cq (Int×Int):=
 if b.kind=5 then(if a.kind=6 then(Cq.ret (a.n,a.n))else(if a.kind=12 then(Cq.ret (0,a.n))else(Cq.ret (0,(-1)))))else(if b.kind=8 then(Ex a (decide (b.kind=8)))else(Ex a (decide (b.kind=6))))
def Eo(c:Zk)(a:Zb):Cq Zb:=
 Cq.bind (JX a.q c) λb=>if 0<=b.2 then(if a.high<0 then(Cq.ret (Zb.mk a.id a.k a.q a.η (if a.low<b.1 then b.1 else a.low) b.2 a.done))else(if b.2<a.high then(Cq.ret (Zb.mk a.id a.k a.q a.η (if a.low<b.1 then b.1 else a.low) b.2 a.done))else(Cq.ret (Zb.mk a.id a.k a.q a.η (if a.low<b.1 then b.1 else a.low) a.high a.done))))else(Cq.ret (Zb.mk a.id a.k a.q a.η (if a.low<b.1 then b.1 else a.low) a.high a.done))
def KO(a:Zb)(b:Zk):Cq Zb:=
 Cq.bind (J5 a.k a.q b) λc=>if c=true then(Eo b (Zb.mk a.id a.k a.q a.η a.low a.high true))else(Eo b a)
def Zqe(b:(Ŀ Zb))(a:Int):Cq (Ze×Int):=
 Cq.ret ((Ze.mk b a),0)
def yR(f:Int)(e:Int)(c:(Ŀ Zb))(a:Int)(d:Int)(b:Zb):Cq (((Ŀ Zb)×Int×Int)⊕(((Ŀ Zb)×Int))):=
 if b.id=f then(Cq.Γ c a λg=>Cq.ret (.inl ((c.set a.toNat (Zb.mk b.id b.k b.q (if b.η<(i64.wrap (e+1))then(i64.wrap (e+1))else b.η) b.low b.high b.done)),i64.wrap (a+1),d)))else(Cq.Γ c a λh=>Cq.ret (.inl ((c.set a.toNat b),i64.wrap (a+1),d)))
def Zqf(d:Int)(e:Int)(b:(Ŀ Zb))(c:Int)(a:Int)(f:Zb):Cq (((Ŀ Zb)×Int×Int)⊕(((Ŀ Zb)×Int))):=
 yR d e b c a f
def Qc(b:(Ŀ Zk)):(Int×Zb)->Cq Zb:=
 Cq.loop λe=>match e with|(a,c)=>if a<(b.length:Int)then(Cq.Γ b a λf=>Cq.bind (KO c f) λd=>Cq.ret (.inl (i64.wrap (a+1),d)))else(Cq.ret (.inr c))
def Zqc(d:Int)(f:(Ŀ Zk))(e:Int)(h:Ĳ)(i:(Ŀ Zb)):((Ŀ Zb)×Int×Int)->Cq (((Ŀ Zb)×Int)):=
 Cq.loop λm=>match m with|(b,c,a)=>if c<(i.length:Int)then(Cq.Γ b c λg=>Cq.bind (vp g.k) λj=>if j=h then(Cq.next (Qc f (0,g)) λn=>match n with|l=>Zqf d e b c a l)else(yR d e b c a g))else(Cq.ret (.inr (b,a)))
def Zqg(b:Ze)(d:Int)(e:(Ŀ Zk))(f:Int)(h:Zb×Bool):Cq (Ze×Int):=
 Cq.bind (vp h.1.k) λi=>Cq.bind (Z4 b.t) λc=>Cq.next (Zqc d e f i c (c,0,b.next)) λj=>match j with|(g,a)=>Zqe g a
def Zqd(b:(Ŀ Zk))(d:Zb×Bool):(Int×Ze)->Cq ((Ze×Int)⊕Ze):=
 Cq.loop λf=>match f with|(a,c)=>if a<(b.length:Int)then(Cq.Γ b a λg=>Cq.bind (E1 d.1.k g) λe=>if(!e)=true then(Cq.ret (.inr (.inl ((Ze.mk [] 0),1))))else(Cq.ret (.inl (i64.wrap (a+1),c))))else(Cq.ret (.inr (.inr c)))
def Qd(c:Ze)(d:Int)(a:(Ŀ Zk))(e:Int)(b:Zb×Bool)(f:Ze):Cq (Ze×Int):=
 Cq.next (Zqd a b (0,f)) λh=>match h with|.inl g=>Cq.ret g|.inr i=>Zqg c d a e b
def xn(b:Ze)(c:Int)(e:(Ŀ Zk))(a:Int):Cq (Ze×Int):=
 Cq.bind (A1 b c) λd=>if(!d.2)=true then(Cq.ret ((Ze.mk [] 0),380))else(if a<0 then(Cq.ret ((Ze.mk [] 0),1))else(if 12<a then(Cq.ret ((Ze.mk [] 0),1))else(Qd b c e a d (Ze.mk [] 0))))
def JU(a:Zb)(b:Zb):Cq Bool:=
 if a.id=b.id then(if a.η=b.η then(if a.low=b.low then(if a.high=b.high then(if a.done=b.done then(Cq.bind (yS a.k b.k) λc=>match c with|false=>(Cq.ret false)|true=>(Cq.bind (Ao a.q b.q) λd=>Cq.ret d))else(Cq.ret false))else(Cq.ret false))else(Cq.ret false))else(Cq.ret false))else(Cq.ret false)
def ZtK:Cq Bool:=
 Cq.ret true
def ZtJ(b:Ze)(d:Ze):Int->Cq (Bool⊕Unit):=
 Cq.loop λe=>match e with|a=>if a<(b.t.length:Int)then(Cq.Γ b.t a λf=>Cq.Γ d.t a λg=>Cq.bind (JU f g) λc=>if(!c)=true then Cq.fail else(Cq.ret (.inl (i64.wrap (a+1)))))else(Cq.ret (.inr (.inr ())))
def FX(a:Ze)(b:Ze):Cq Bool:=
 if ¬a.next=b.next then(Cq.ret false)else(if ¬(a.t.length:Int)=(b.t.length:Int)then Cq.fail else(Cq.next (ZtJ a b 0) λd=>match d with|.inl c=>Cq.ret c|.inr ()=>ZtK))
def PW(a:Zb):Cq Bool:=
 Cq.bind (EF a.k) λb=>Cq.bind (vp b.1) λd=>Cq.bind (vp a.k) λe=>if ¬d=e then(Cq.ret false)else(Cq.bind (Ev a.q b.2) λc=>if c.2=0 then(Cq.bind (A8 c.1) λf=>Cq.bind (A8 a.q) λg=>Cq.ret (decide (f=g)))else(Cq.ret false))
def JR(a:Zb):Cq Bool:=
 Cq.bind (vl a.k) λb=>match b with|false=>(Cq.ret false)|true=>(Cq.bind (Fe a.k a.q) λc=>if(!c)=true then(Cq.ret false)else(PW a))
def KK(a:Zb):Cq Bool:=
 if a.η<0 then(Cq.ret false)else(if 13<a.η then(Cq.ret false)else(if a.low<0 then(Cq.ret false)else(if a.high<(-1)then(Cq.ret false)else(JR a))))
def Zqm:Cq Bool:=
 Cq.ret true
def Zqn(b:Int)(c:(Ŀ (Ĳ×Bool)))(d:Zb):Cq ((Int×Int×(Ŀ (Ĳ×Bool)))⊕(Bool⊕Unit)):=
 Cq.bind (tG d.k d.q) λa=>Cq.é ((a.size<=1000000)/\(eV c a true).length<=small) (Cq.ret (.inl (d.id,i64.wrap (b+1),(eV c a true))))
def Kf(d:(Ŀ (Ĳ×Bool)))(e:Zb)(b:(Ŀ Zc)):Int->Cq (Bool⊕Unit):=
 Cq.loop λf=>match f with|a=>if a<(b.length:Int)then(Cq.Γ b a λg=>Cq.bind (tG e.k g) λc=>Cq.é (c.size<=1000000) (if(!((fi d c).getD false))=true then(Cq.ret (.inr (.inl false)))else(Cq.ret (.inl (i64.wrap (a+1))))))else(Cq.ret (.inr (.inr ())))
def Qe(a:Int)(b:(Ŀ (Ĳ×Bool)))(c:Zb):Cq ((Int×Int×(Ŀ (Ĳ×Bool)))⊕(Bool⊕Unit)):=
 Cq.bind (yO c.q) λd=>Cq.next (Kf b c d 0) λf=>match f with|.inl e=>Cq.ret (.inr (.inl e))|.inr ()=>Zqn a b c
def Ke(b:Ze):(Int×Int×(Ŀ (Ĳ×Bool)))->Cq (Bool⊕Unit):=
 Cq.loop λh=>match h with|(f,a,d)=>if a<(b.t.length:Int)then(Cq.Γ b.t a λc=>if c.id<=f then(Cq.ret (.inr (.inl false)))else(if b.next<=c.id then(Cq.ret (.inr (.inl false)))else(Cq.bind (KK c) λg=>match g with|false=>(Cq.ret (.inr (.inl false)))|true=>(Cq.bind (tG c.k c.q) λe=>Cq.é (e.size<=1000000) (if((fi d e).getD false)=true then(Cq.ret (.inr (.inl false)))else(Qe a d c))))))else(Cq.ret (.inr (.inr ())))
def Qf(a:Ze):Cq Bool:=
 Cq.next (Ke a (0,0,[])) λc=>match c with|.inl b=>Cq.ret b|.inr ()=>Zqm
def AQ(a:Ze):Cq Bool:=
 if a.next<1 then(Cq.ret false)else(if 1000000<a.next then(Cq.ret false)else(if 100<(a.t.length:Int)then(Cq.ret false)else(Qf a)))
def Kc(d:Zc)(b:(Ŀ (Ĳ×Bool)))(c:Zb):Cq Bool:=
 Cq.bind (tG c.k d) λa=>Cq.é (a.size<=1000000) (Cq.ret (!((fi b a).getD false)))
def ZS(a:(Ŀ Zb)):Cq (Ŀ Zb):=
 Cq.bind (tV (u64.wrap (a.length:Int))) λb=>Cq.bind (Pq a 0 (a.length:Int) b) λc=>Cq.ret c
def Zaz:Cq Int:=
 Cq.ret (-1)
def Zay(d:(Ŀ Zc))(b:(Ŀ (Ĳ×Bool)))(c:Zb):Int->Cq (Int⊕Unit):=
 Cq.loop λf=>match f with|a=>if a<(d.length:Int)then(Cq.Γ d a λg=>Cq.bind (Kc g b c) λe=>if e=true then(Cq.ret (.inr (.inl a)))else(Cq.ret (.inl (i64.wrap (a+1)))))else(Cq.ret (.inr (.inr ())))
def ZX(d:(Ŀ Zc))(a:(Ŀ (Ĳ×Bool)))(b:Zb):Cq Int:=
 Cq.next (Zay d a b 0) λe=>match e with|.inl c=>Cq.ret c|.inr ()=>Zaz
def ZG(d:(Ŀ Zc))(a:(Ŀ (Ĳ×Bool)))(b:Zb):Cq Bool:=
 Cq.bind (ZX d a b) λc=>Cq.ret (decide (0<=c))
def Zqj(a:(Ŀ Int)):Cq (Ŀ Int):=
 Cq.ret a
def Zqh(c:(Ŀ Zb)):((Ŀ Int)×Int)->Cq (Ŀ Int):=
 Cq.loop λe=>match e with|(a,b)=>if b<(c.length:Int)then(Cq.Γ c b λd=>Cq.é ((a++[d.id]).length<=small) (Cq.ret (.inl ((a++[d.id]),i64.wrap (b+1)))))else(Cq.ret (.inr a))
def Zqk(b:(Ŀ Zb)):Cq (Ŀ Int):=
 Cq.bind (ZS b) λc=>Cq.next (Zqh c ([],0)) λd=>match d with|a=>Zqj a
def Zqi(d:Ze)(e:(Ŀ (Ĳ×Bool))):((Ŀ Zb)×Int)->Cq (Ŀ Zb):=
 Cq.loop λh=>match h with|(b,a)=>if a<(d.t.length:Int)then(Cq.Γ d.t a λc=>if c.done=true then(Cq.ret (.inl (b,i64.wrap (a+1))))else(if c.η<=12 then(Cq.bind (yO c.q) λf=>Cq.bind (ZG f e c) λg=>if(!g)=true then(Cq.é ((b++[c]).length<=small) (Cq.ret (.inl ((b++[c]),i64.wrap (a+1)))))else(Cq.ret (.inl (b,i64.wrap (a+1)))))else(Cq.ret (.inl (b,i64.wrap (a+1))))))else(Cq.ret (.inr b))
def Zql(a:Ze)(c:(Ŀ (Ĳ×Bool))):Cq (Ŀ Int):=
 Cq.next (Zqi a c ([],0)) λd=>match d with|b=>Zqk b
def Em(c:Ze):(Int×(Ŀ (Ĳ×Bool)))->Cq (((Ŀ (Ĳ×Bool)))):=
 Cq.loop λf=>match f with|(a,b)=>if a<(c.t.length:Int)then(Cq.Γ c.t a λe=>if e.done=true then(Cq.bind (tG e.k e.q) λd=>Cq.é ((d.size<=1000000)/\(eV b d true).length<=small) (Cq.ret (.inl (i64.wrap (a+1),(eV b d true)))))else(Cq.ret (.inl (i64.wrap (a+1),b))))else(Cq.ret (.inr b))
def KN(a:Ze):Cq (Ŀ Int):=
 Cq.next (Em a (0,[])) λc=>match c with|b=>Zql a b
def Jo(i:(Ŀ Za)×Int)(j:Ze×Int×Int):Cq Bool:=
 Cq.bind (Bf 5) λd=>Cq.bind (xI j.1 (Zd.mk 1 [i.1] []) d) λa=>if ¬a.2.2=0 then(Cq.ret false)else(Cq.bind (xn a.1 a.2.1 [(Zk.mk 12 [] 5 0 0 [] [] [] []),(Zk.mk 12 [] 7 0 0 [] [] [] [])] 0) λc=>Cq.bind (A1 c.1 a.2.1) λb=>if c.2=0 then(if b.2=true then(if b.1.high=5 then(if b.1.low=0 then(if b.1.done=true then(Cq.ret false)else(Cq.bind (F8) λe=>Cq.bind (AQ e) λf=>match f with|false=>(Cq.ret false)|true=>(Cq.bind (F8) λg=>Cq.bind (KN g) λh=>Cq.ret (decide ((h.length:Int)=0)))))else(Cq.ret false))else(Cq.ret false))else(Cq.ret false))else(Cq.ret false))
def JP:Cq Bool:=
 Cq.bind (Ms 0) λc=>Cq.bind (F8) λk=>Cq.bind (Bf 4) λl=>Cq.bind (xI k (Zd.mk 1 [c.1] []) l) λa=>Cq.bind (Bf 4) λm=>Cq.bind (xI a.1 (Zd.mk 1 [c.1] []) m) λd=>Cq.bind (xn a.1 a.2.1 [(Zk.mk 5 [] 1 0 0 [] [] [] [])] 3) λe=>Cq.bind (Bf 11) λf=>Cq.bind (xI a.1 (Zd.mk 1 [c.1] []) f) λg=>Cq.bind (xn a.1 a.1.next [] 3) λh=>Cq.bind (xn a.1 a.2.1 [] 13) λi=>Cq.bind (A1 e.1 a.2.1) λb=>if ¬a.2.2=0 then(Cq.ret false)else(if ¬d.2.2=0 then(Cq.ret false)else(if ¬e.2=0 then(Cq.ret false)else(if ¬g.2.2=1 then(Cq.ret false)else(if ¬h.2=380 then(Cq.ret false)else(if ¬i.2=1 then(Cq.ret false)else(if ¬a.2.1=d.2.1 then(Cq.ret false)else(Cq.bind (FX a.1 d.1) λj=>match j with|false=>(Cq.ret false)|true=>(if b.2=true then(if b.1.done=true then(if ¬b.1.η=4 then(Cq.ret false)else(if ¬b.1.high=(-1)then(Cq.ret false)else(Jo c a)))else(Cq.ret false))else(Cq.ret false)))))))))
def Va:Cq Ze:=
 Cq.ret (Ze.mk [] 1)
def Gt(a:Int):Cq Int:=
 if a<0 then(Cq.ret (i64.wrap (0-(i64.wrap a))))else(Cq.ret (i64.wrap a))
def Lp(b:Zf)(c:(Ŀ Za)):Cq (Ŀ Za):=
 Cq.bind (FN b (λ_=>0) c) λa=>Cq.ret a.1
def Ztp(a:(Ŀ Za)):Cq (Ŀ Za):=
 Cq.ret a
def Ztq(b:Zw)(c:(Ŀ Za))(a:Int)(d:(Fin 8->Int)):Cq (((Ŀ Za)×Int)⊕(Ŀ Za)):=
 Cq.Γ b.t a λi=>Cq.bind (ZY (i64.wrap (Int.tmod (Ζ i 0) 4))) λe=>Cq.bind (ZY 1) λf=>Cq.bind (Lp e [(Za.mk f d)]) λg=>Cq.bind (Bx c g) λh=>Cq.ret (.inl (h,i64.wrap (a+1)))
def RC(f:Zw)(g:Int)(d:Int):(Int×Int×(Fin 8->Int))->Cq (Fin 8->Int):=
 Cq.loop λh=>match h with|(b,a,c)=>if a<g then(if a<4 then(Cq.Γ f.t d λi=>Cq.é (0<=i64.wrap (1+a)/\(i64.wrap (1+a))<5) (Cq.bind (Gt (Ζ i (i64.wrap (1+a)))) λe=>Cq.é ((i64.wrap (b+1))≠0) (Cq.é (0<=a/\a<8) (Cq.é (0<=a/\a<8) (Cq.ret (.inl (i64.wrap (b-(Ζ (ε c a.toNat (Int.tmod e (i64.wrap (b+1)))) a)),i64.wrap (a+1),ε c a.toNat (Int.tmod e (i64.wrap (b+1))))))))))else(Cq.ret (.inr c)))else(Cq.ret (.inr c))
def RD(b:Zw)(c:Int)(d:Int)(e:(Ŀ Za))(a:Int):Cq (((Ŀ Za)×Int)⊕(Ŀ Za)):=
 Cq.next (RC b c a (d,0,(λ_=>0))) λg=>match g with|f=>Ztq b e a f
def Zto(c:Zw)(d:Int)(e:Int)(f:Int):((Ŀ Za)×Int)->Cq (Ŀ Za):=
 Cq.loop λg=>match g with|(b,a)=>if a<(c.t.length:Int)then(if a<f then(RD c d e b a)else(Cq.ret (.inr b)))else(Cq.ret (.inr b))
def Bj(a:Zw)(b:Int)(c:Int)(d:Int):Cq (Ŀ Za):=
 Cq.next (Zto a b c d ([],0)) λf=>match f with|e=>Ztp e
def Kn(a:(Ŀ Ĳ))(d:(Ŀ Zo))(b:(Ŀ Zo))(c:Int):Cq Zy:=
 Cq.ret (Zy.mk a d b c)
def EW(h:ZB)(f:Int)(e:(Ŀ Ĳ))(d:(Ŀ Zo))(b:(Ŀ Zo))(a:Int)(c:Int):Cq ((Int×(Ŀ Ĳ)×(Ŀ Zo)×(Ŀ Zo)×Int)⊕(((Ŀ Ĳ)×(Ŀ Zo)×(Ŀ Zo)×Int))):=
 Cq.Γ h.l f λi=>Cq.bind (Bj i (i64.wrap (Int.tmod h.n 4)) 2 3) λg=>if(Int.tmod f 3)=2 then(Cq.é ((b++[(Zo.mk (i64.wrap (a+c)) g)]).length<=small) (Cq.ret (.inl (i64.wrap (f+1),e,d,(b++[(Zo.mk (i64.wrap (a+c)) g)]),i64.wrap ((i64.wrap (a+c))+1)))))else(Cq.é ((d++[(Zo.mk (i64.wrap (a+c)) g)]).length<=small) (Cq.ret (.inl (i64.wrap (f+1),e,(d++[(Zo.mk (i64.wrap (a+c)) g)]),b,i64.wrap ((i64.wrap (a+c))+1)))))
def EX(a:ZB)(f:Int)(b:(Ŀ Ĳ))(e:(Ŀ Zo))(c:(Ŀ Zo))(d:Int):Cq ((Int×(Ŀ Ĳ)×(Ŀ Zo)×(Ŀ Zo)×Int)⊕(((Ŀ Ĳ)×(Ŀ Zo)×(Ŀ Zo)×Int))):=
 if 0<(a.iT.length:Int)then(Cq.é ((a.iT.length:Int)≠0) (Cq.Γ a.iT (Int.tmod f (a.iT.length:Int)) λg=>EW a f b e c d (i64.wrap (Int.tmod g 4))))else(EW a f b e c d 0)
def ZtC(f:ZB):(Int×(Ŀ Ĳ)×(Ŀ Zo)×(Ŀ Zo)×Int)->Cq (((Ŀ Ĳ)×(Ŀ Zo)×(Ŀ Zo)×Int)):=
 Cq.loop λg=>match g with|(e,a,d,b,c)=>if e<(f.l.length:Int)then(if e<6 then(EX f e a d b c)else(Cq.ret (.inr (a,d,b,c))))else(Cq.ret (.inr (a,d,b,c)))
def FV(a:ZB):Cq Zy:=
 Cq.é (0<=(0:Int)/\(0:Int)<=(i64.wrap (Int.tmod a.n 4))/\(i64.wrap (Int.tmod a.n 4))<=([AN,AM,AL].length:Int)) (Cq.next (ZtC a (0,(([AN,AM,AL].take (i64.wrap (Int.tmod a.n 4)).toNat).drop (0:Int).toNat),[],[],1)) λf=>match f with|(b,e,c,d)=>Kn b e c d)
def ZtG:Cq Bool:=
 Cq.ret true
def ZtF(b:(Ŀ Zo))(d:Int)(c:Int):Int->Cq (Bool⊕Unit):=
 Cq.loop λg=>match g with|a=>if a<(b.length:Int)then(Cq.Γ b a λh=>if h.id<1 then(Cq.ret (.inr (.inl false)))else(Cq.Γ b a λi=>if c<=i.id then(Cq.ret (.inr (.inl false)))else(if 0<a then(Cq.Γ b (i64.wrap (a-1)) λj=>Cq.Γ b a λk=>if k.id<=j.id then(Cq.ret (.inr (.inl false)))else(Cq.Γ b a λl=>Cq.bind (yY l.p d) λe=>if(!e)=true then(Cq.ret (.inr (.inl false)))else(Cq.ret (.inl (i64.wrap (a+1))))))else(Cq.Γ b a λm=>Cq.bind (yY m.p d) λf=>if(!f)=true then(Cq.ret (.inr (.inl false)))else(Cq.ret (.inl (i64.wrap (a+1))))))))else(Cq.ret (.inr (.inr ())))
def Bl(b:(Ŀ Zo))(d:Int)(a:Int):Cq Bool:=
 if 12<(b.length:Int)then(Cq.ret false)else(Cq.next (ZtF b d a 0) λe=>match e with|.inl c=>Cq.ret c|.inr ()=>ZtG)
def AV(a:Int):Cq Bool:=
 if 65<=a then(if a<=90 then(Cq.ret true)else(if 97<=a then(Cq.ret (decide (a<=122)))else(Cq.ret false)))else(if 97<=a then(Cq.ret (decide (a<=122)))else(Cq.ret false))
def ZtE:Cq Bool:=
 Cq.ret true
def ZtD(b:Ĳ):Int->Cq (Bool⊕Unit):=
 Cq.loop λd=>match d with|a=>if a<(b.size:Int)then(Cq.é (0<=(a:Int)/\a<(b.size:Int)) (Cq.bind (AV (eS b a)) λc=>match c with|false=>(Cq.é (0<=(a:Int)/\a<(b.size:Int)) (if 48<=(eS b a)then(Cq.é (0<=(a:Int)/\a<(b.size:Int)) (if(eS b a)<=57 then(Cq.ret (.inl (i64.wrap (a+1))))else(Cq.é (0<=(a:Int)/\a<(b.size:Int)) (if ¬(eS b a)=95 then(Cq.ret (.inr (.inl false)))else(Cq.ret (.inl (i64.wrap (a+1))))))))else(Cq.é (0<=(a:Int)/\a<(b.size:Int)) (if ¬(eS b a)=95 then(Cq.ret (.inr (.inl false)))else(Cq.ret (.inl (i64.wrap (a+1))))))))|true=>(Cq.ret (.inl (i64.wrap (a+1))))))else(Cq.ret (.inr (.inr ())))
def RF(b:Ĳ):Cq Bool:=
 Cq.next (ZtD b 1) λc=>match c with|.inl a=>Cq.ret a|.inr ()=>ZtE
def FW(a:Ĳ):Cq Bool:=
 if(a.size:Int)<1 then(Cq.ret false)else(if 12<(a.size:Int)then(Cq.ret false)else(Cq.é (0<=(0:Int)/\0<(a.size:Int)) (Cq.bind (AV (eS a 0)) λb=>if(!b)=true then(Cq.ret false)else(RF a))))
def Zrg:Cq Bool:=
 Cq.ret true
def Zrh(a:Int):Cq (Int⊕(Bool⊕Unit)):=
 Cq.ret (.inl (i64.wrap (a+1)))
def Zrd(a:Zy)(c:Int):Int->Cq (Bool⊕Unit):=
 Cq.loop λd=>match d with|b=>if b<(a.neqs.length:Int)then(Cq.Γ a.eqs c λe=>Cq.Γ a.neqs b λf=>if e.id=f.id then(Cq.ret (.inr (.inl false)))else(Cq.ret (.inl (i64.wrap (b+1)))))else(Cq.ret (.inr (.inr ())))
def Zrc(b:Zy):Int->Cq (Bool⊕Unit):=
 Cq.loop λd=>match d with|a=>if a<(b.eqs.length:Int)then(Cq.next (Zrd b a 0) λe=>match e with|.inl c=>Cq.ret (.inr (.inl c))|.inr ()=>Zrh a)else(Cq.ret (.inr (.inr ())))
def Qv(a:Zy):Cq Bool:=
 Cq.next (Zrc a 0) λc=>match c with|.inl b=>Cq.ret b|.inr ()=>Zrg
def Qw(b:Zy)(a:Int):Cq (Int⊕(Bool⊕Unit)):=
 Cq.Γ b.vars a λd=>Cq.bind (FW d) λc=>if(!c)=true then(Cq.ret (.inr (.inl false)))else(Cq.ret (.inl (i64.wrap (a+1))))
def Zrf(b:Zy)(c:Int):Int->Cq (Bool⊕Unit):=
 Cq.loop λd=>match d with|a=>if a<c then(Cq.Γ b.vars c λe=>Cq.Γ b.vars a λf=>if e=f then(Cq.ret (.inr (.inl false)))else(Cq.ret (.inl (i64.wrap (a+1)))))else(Cq.ret (.inr (.inr ())))
def Zre(a:Zy):Int->Cq (Bool⊕Unit):=
 Cq.loop λd=>match d with|b=>if b<(a.vars.length:Int)then(Cq.next (Zrf a b 0) λe=>match e with|.inl c=>Cq.ret (.inr (.inl c))|.inr ()=>Qw a b)else(Cq.ret (.inr (.inr ())))
def Qx(a:Zy):Cq Bool:=
 Cq.next (Zre a 0) λc=>match c with|.inl b=>Cq.ret b|.inr ()=>Qv a
def Fu(a:Zy):Cq Bool:=
 if 4<(a.vars.length:Int)then(Cq.ret false)else(if a.next<1 then(Cq.ret false)else(if 1000000<a.next then(Cq.ret false)else(Cq.bind (Bl a.eqs (a.vars.length:Int) a.next) λb=>match b with|false=>(Cq.ret false)|true=>(Cq.bind (Bl a.neqs (a.vars.length:Int) a.next) λc=>if(!c)=true then(Cq.ret false)else(Qx a)))))
def Zrb(a:(Ŀ (Ŀ Za))):Cq ((Ŀ (Ŀ Za))):=
 Cq.ret a
def Zra(c:(Ŀ Zo)):((Ŀ (Ŀ Za))×Int)->Cq (((Ŀ (Ŀ Za)))):=
 Cq.loop λe=>match e with|(a,b)=>if b<(c.length:Int)then(Cq.Γ c b λd=>Cq.é ((a++[d.p]).length<=small) (Cq.ret (.inl ((a++[d.p]),i64.wrap (b+1)))))else(Cq.ret (.inr a))
def Ft(b:(Ŀ Zo)):Cq ((Ŀ (Ŀ Za))):=
 Cq.next (Zra b ([],0)) λc=>match c with|a=>Zrb a
def LC(a:Zy):Cq (Zd×Int):=
 Cq.bind (Fu a) λc=>if(!c)=true then(Cq.ret ((Zd.mk 0 [] []),320))else(Cq.bind (Ft a.eqs) λd=>Cq.bind (Ft a.neqs) λe=>Cq.bind (Fo (if 1<(a.vars.length:Int)then(a.vars.length:Int)else 1) d e) λb=>Cq.ret (b.1,b.2))
def Bn(d:Zv):Cq Zd:=
 Cq.bind (FV d.c) λa=>Cq.bind (LC a) λb=>Cq.ret b.1
def U9:Cq ((Ŀ (Fin 8->Int))):=
 Cq.ret []
def Fh:Cq ((Ŀ (Fin 8->Int))):=
 Cq.ret [ε (ε (ε (ε (ε (ε (ε (ε (λ_=>0) 0 1) 1 1) 2 1) 3 1) 4 1) 5 1) 6 1) 7 1]
def Zn6(a:(Ŀ (Fin 8->Int))):Cq ((Ŀ (Fin 8->Int))):=
 Cq.ret a
def Zn5:((Ŀ (Fin 8->Int))×Int)->Cq (((Ŀ (Fin 8->Int)))):=
 Cq.loop λd=>match d with|(b,c)=>if 0<c then(Cq.bind (F2 c (-1)) λa=>Cq.é ((b++[a]).length<=small) (Cq.ret (.inl ((b++[a]),i64.wrap (c-1)))))else(Cq.ret (.inr b))
def EU:Cq ((Ŀ (Fin 8->Int))):=
 Cq.bind (Fh) λa=>Cq.next (Zn5 (a,7)) λb=>match b with|c=>Zn6 c
def VT(a:Int)(b:Int):Cq Bool:=
 Cq.é (0<=(u64.wrap b)) (Cq.ret (decide ((u8.wrap (BitVec.ofInt u8.bits (Int.fdiv a (2 ^ (min (u64.wrap b).toNat u8.bits))) &&& BitVec.ofInt u8.bits 1).toNat)=1)))
def Zjq(a:(Fin 8->Int)):Cq ((Ŀ (Fin 8->Int))):=
 Cq.bind (EU) λb=>Cq.é (([a]++b).length<=small) (Cq.ret ([a]++b))
def Zjp(c:Int):(Int×(Fin 8->Int))->Cq (Fin 8->Int):=
 Cq.loop λe=>match e with|(a,b)=>if a<8 then(Cq.bind (VT c a) λd=>if d=true then(Cq.é (0<=a/\a<8) (Cq.ret (.inl (i64.wrap (a+1),ε b a.toNat 1))))else(Cq.ret (.inl (i64.wrap (a+1),b))))else(Cq.ret (.inr b))
def Ju(a:Int):Cq ((Ŀ (Fin 8->Int))):=
 Cq.next (Zjp a (0,(λ_=>0))) λc=>match c with|b=>Zjq b
def EV(b:Int)(a:Bool):Cq ((Ŀ (Fin 8->Int))):=
 if a=true then(Cq.bind (EU) λc=>Cq.ret c)else(if(Int.tmod b 8)=4 then(Cq.ret [ε (ε (ε (ε (ε (ε (ε (ε (λ_=>0) 0 2) 1 3) 2 1) 3 1) 4 1) 5 1) 6 1) 7 1])else(if(Int.tmod b 8)=5 then(Cq.ret [ε (ε (ε (ε (ε (ε (ε (ε (λ_=>0) 0 1) 1 1) 2 0) 3 0) 4 0) 5 0) 6 0) 7 0,ε (ε (ε (ε (ε (ε (ε (ε (λ_=>0) 0 1) 1 0) 2 2) 3 1) 4 1) 5 1) 6 1) 7 1])else(Cq.bind (Ju (Int.tmod (u8.wrap (Int.tdiv b 8)) 16)) λd=>Cq.ret d)))
def xD(a:Int):Cq ((Ŀ (Fin 8->Int))):=
 if(Int.tmod a 8)=0 then(Cq.bind (U9) λb=>Cq.ret b)else(if(Int.tmod a 8)=1 then(Cq.bind (Fh) λc=>Cq.ret c)else(if(Int.tmod a 8)=2 then(EV a (decide ((Int.tmod a 8)=2)))else(EV a (decide ((Int.tmod a 8)=3)))))
def EY(c:Zv)(a:Zc):Cq Zc:=
 if a.kind=3 then(Cq.bind (xD c.o) λb=>Cq.ret (Zc.mk a.kind a.p b))else(Cq.ret a)
def Bm(a:Zv)(b:Zd):Cq Zc:=
 Cq.bind (EB (i64.wrap (Int.tmod a.kind 12))) λc=>if c=true then(Cq.bind (Bj a.p (if 3<b.n then 3 else b.n) 2 3) λd=>EY a (Zc.mk (i64.wrap (Int.tmod a.kind 12)) d []))else(EY a (Zc.mk (i64.wrap (Int.tmod a.kind 12)) [] []))
def RB(a:(Ŀ (Ŀ Za))):Cq ((Ŀ (Ŀ Za))):=
 Cq.ret a
def Ztn(g:(Ŀ Zw))(h:Int)(f:Int)(b:Int)(c:Int):((Ŀ (Ŀ Za))×Int)->Cq (((Ŀ (Ŀ Za)))):=
 Cq.loop λi=>match i with|(a,d)=>if d<(g.length:Int)then(if d<c then(Cq.Γ g d λj=>Cq.bind (Bj j h f b) λe=>Cq.é ((a++[e]).length<=small) (Cq.ret (.inl ((a++[e]),i64.wrap (d+1)))))else(Cq.ret (.inr a)))else(Cq.ret (.inr a))
def LQ(e:(Ŀ Zw))(f:Int)(c:Int)(a:Int)(b:Int):Cq ((Ŀ (Ŀ Za))):=
 Cq.next (Ztn e f c a b ([],0)) λg=>match g with|d=>RB d
def ZtB(a:(Ŀ (Ŀ Za))):Cq ((Ŀ (Ŀ Za))):=
 Cq.ret a
def ZtA(b:(Ŀ (Ŀ Za)))(e:Int)(f:Int):((Ŀ (Ŀ Za))×Int)->Cq (((Ŀ (Ŀ Za)))):=
 Cq.loop λg=>match g with|(a,c)=>if c<f then(if(b.length:Int)=0 then(Cq.é ((a++[[]]).length<=small) (Cq.ret (.inl ((a++[[]]),i64.wrap (c+1)))))else(Cq.é ((b.length:Int)≠0) (Cq.Γ b (Int.tmod (i64.wrap (e+c)) (b.length:Int)) λd=>Cq.é ((a++[d]).length<=small) (Cq.ret (.inl ((a++[d]),i64.wrap (c+1)))))))else(Cq.ret (.inr a))
def xE(b:(Ŀ (Ŀ Za)))(c:Int)(d:Int):Cq ((Ŀ (Ŀ Za))):=
 Cq.next (ZtA b c d ([],0)) λe=>match e with|a=>ZtB a
def tY(a:(Ŀ Int))(b:Int):Cq Int:=
 if(a.length:Int)=0 then(Cq.ret 0)else(Cq.é ((a.length:Int)≠0) (Cq.Γ a (Int.tmod b (a.length:Int)) λc=>Cq.ret (i64.wrap c)))
def Zs8(d:vk)(a:Zg)(b:Zg):Cq Zf:=
 if(Int.tmod d.k 8)=6 then Cq.fail else(Cq.bind (AR b a) λc=>Cq.ret c)
def Ru(a:vk)(b:Zg)(c:Zg):Cq Zf:=
 Cq.bind (uk (i64.wrap (4611686018427387904+(i64.wrap a.k)))) λd=>if(Int.tmod a.k 8)=7 then Cq.fail else(Zs8 a c b)
def xz(a:vk):Cq Zf:=
 Cq.bind (uk (i64.wrap a.n)) λb=>Cq.bind (uk (i64.wrap a.d)) λc=>if a.d=0 then Cq.fail else(Ru a b c)
def Zvh(a:(Ŀ Zl)):Cq (Ŀ Zl):=
 Cq.ret a
def R4(d:(Ŀ Int))(e:Int):(Int×(Ŀ Zl))->Cq (Ŀ Zl):=
 Cq.loop λj=>match j with|(a,b)=>if a<2 then(Cq.bind (tY d (i64.wrap (e+a))) λf=>Cq.bind (xz (vk.mk (i8.wrap f) 3 0)) λc=>Cq.bind (tY d e) λg=>Cq.bind (xz (vk.mk (i8.wrap (i64.wrap (BitVec.ofInt i64.bits g &&& BitVec.ofInt i64.bits 7).toNat)) 2 0)) λh=>Cq.bind (vE c h) λi=>Cq.Γ b a λk=>Cq.ret (.inl (i64.wrap (a+1),b.set a.toNat (Zl.mk c i))))else(Cq.ret (.inr b))
def Zvi(c:(Ŀ Int))(d:Int)(a:(Ŀ Zl)):Cq (Ŀ Zl):=
 Cq.next (R4 c d (0,a)) λe=>match e with|b=>Zvh b
def R5:(Int×(Ŀ Zl))->Cq (Ŀ Zl):=
 Cq.loop λe=>match e with|(b,a)=>if b<8 then(Cq.bind (ZY 0) λc=>Cq.bind (ZY 0) λd=>Cq.Γ a b λf=>Cq.ret (.inl (i64.wrap (b+1),a.set b.toNat (Zl.mk c d))))else(Cq.ret (.inr a))
def Mt(b:(Ŀ Int))(c:Int):Cq (Ŀ Zl):=
 Cq.next (R5 (0,(List.replicate 8 (Zl.mk (Zf.mk (Zg.mk false []) (Zg.mk false [])) (Zf.mk (Zg.mk false []) (Zg.mk false [])))))) λd=>match d with|a=>Zvi b c a
def ZlZ(j:(Ŀ Za))(a:Int)(i:(Ŀ Za))(b:Int)(c:Int)(d:Int)(e:(Ŀ (Fin 8->Int)))(f:(Ŀ (Ŀ Za)))(g:(Ŀ Int))(h:(Ŀ (Ŀ Zl))):Cq Zk:=
 if a=8 then(Cq.ret (Zk.mk a j b c d e f g h))else(Cq.ret (Zk.mk a i b c d e f g h))
def Jz(k:ZN)(o:(Ŀ Za))(n:Int):(Int×Int×(Ŀ Za)×Int×Int×Int×(Ŀ (Fin 8->Int))×(Ŀ (Ŀ Za))×(Ŀ Int)×(Ŀ (Ŀ Zl)))->Cq ((Int×(Ŀ Za)×Int×Int×Int×(Ŀ (Fin 8->Int))×(Ŀ (Ŀ Za))×(Ŀ Int)×(Ŀ (Ŀ Zl)))):=
 Cq.loop λp=>match p with|(b,a,l,e,f,g,h,i,c,d)=>if b<(i64.wrap (BitVec.ofInt i64.bits (i64.wrap (BitVec.ofInt i64.bits n &&& BitVec.ofInt i64.bits 7).toNat) &&& BitVec.ofInt i64.bits 3).toNat)then(Cq.bind (Mt k.v b) λj=>Cq.é ((d++[j]).length<=small) (if a=8 then(Cq.bind (tY k.v b) λm=>Cq.é ((c++[i64.wrap ((Int.tmod (i64.wrap (BitVec.ofInt i64.bits m &&& BitVec.ofInt i64.bits 127).toNat) 3)-1)]).length<=small) (Cq.ret (.inl (i64.wrap (b+1),a,o,e,f,g,h,i,(c++[i64.wrap ((Int.tmod (i64.wrap (BitVec.ofInt i64.bits m &&& BitVec.ofInt i64.bits 127).toNat) 3)-1)]),(d++[j])))))else(Cq.ret (.inl (i64.wrap (b+1),a,l,e,f,g,h,i,c,(d++[j]))))))else(Cq.ret (.inr (a,l,e,f,g,h,i,c,d)))
def JA(a:ZN)(n:(Ŀ (Ŀ Za)))(o:(Ŀ Za))(b:Int)(d:Bool):Cq Zk:=
 if d=true then(Cq.next (Jz a o b (0,i64.wrap (1+(i64.wrap (Int.tmod a.kind 13))),[],0,0,0,[],[],[],[])) λp=>match p with|(c,e,f,g,h,i,j,k,l)=>ZlZ o c e f g h i j k l)else(if(i64.wrap (1+(i64.wrap (Int.tmod a.kind 13))))=11 then(Cq.bind (xE n 1 (i64.wrap (BitVec.ofInt i64.bits (i64.wrap (BitVec.ofInt i64.bits b &&& BitVec.ofInt i64.bits 7).toNat) &&& BitVec.ofInt i64.bits 3).toNat)) λm=>Cq.ret (Zk.mk (i64.wrap (1+(i64.wrap (Int.tmod a.kind 13)))) [] 0 0 0 [] m [] []))else(if(i64.wrap (1+(i64.wrap (Int.tmod a.kind 13))))=12 then(if(i64.wrap (1+(i64.wrap (Int.tmod a.kind 13))))=12 then(Cq.ret (Zk.mk (i64.wrap (1+(i64.wrap (Int.tmod a.kind 13)))) [] (i64.wrap (BitVec.ofInt i64.bits b &&& BitVec.ofInt i64.bits 7).toNat) 0 0 [] [] [] []))else(Cq.ret (Zk.mk (i64.wrap (1+(i64.wrap (Int.tmod a.kind 13)))) [] 0 0 0 [] [] [] [])))else(if(i64.wrap (1+(i64.wrap (Int.tmod a.kind 13))))=13 then(Cq.ret (Zk.mk (i64.wrap (1+(i64.wrap (Int.tmod a.kind 13)))) [] (i64.wrap (BitVec.ofInt i64.bits b &&& BitVec.ofInt i64.bits 7).toNat) 0 0 [] [] [] []))else(Cq.ret (Zk.mk (i64.wrap (1+(i64.wrap (Int.tmod a.kind 13)))) [] 0 0 0 [] [] [] [])))))
def xg(a:ZN)(c:(Ŀ (Ŀ Za)))(e:(Ŀ Za))(b:Int)(d:Bool):Cq Zk:=
 if d=true then(Cq.ret (Zk.mk (i64.wrap (1+(i64.wrap (Int.tmod a.kind 13)))) e 0 0 0 [] [] [] []))else(if(i64.wrap (1+(i64.wrap (Int.tmod a.kind 13))))=4 then(Cq.bind (tY a.v 2) λg=>Cq.bind (xD (u8.wrap g)) λh=>Cq.bind (xE c 1 (i64.wrap (BitVec.ofInt i64.bits (i64.wrap (BitVec.ofInt i64.bits b &&& BitVec.ofInt i64.bits 7).toNat) &&& BitVec.ofInt i64.bits 3).toNat)) λi=>Cq.ret (Zk.mk (i64.wrap (1+(i64.wrap (Int.tmod a.kind 13)))) [] 0 0 0 h i [] []))else(if(i64.wrap (1+(i64.wrap (Int.tmod a.kind 13))))=5 then(Cq.bind (tY a.v 3) λf=>Cq.ret (Zk.mk (i64.wrap (1+(i64.wrap (Int.tmod a.kind 13)))) [] (i64.wrap (BitVec.ofInt i64.bits f &&& BitVec.ofInt i64.bits 15).toNat) (i64.wrap ((i64.wrap (BitVec.ofInt i64.bits (i64.wrap (BitVec.ofInt i64.bits b &&& BitVec.ofInt i64.bits 7).toNat) &&& BitVec.ofInt i64.bits 3).toNat)-1)) 0 [] [] [] []))else(if(i64.wrap (1+(i64.wrap (Int.tmod a.kind 13))))=6 then(Cq.ret (Zk.mk (i64.wrap (1+(i64.wrap (Int.tmod a.kind 13)))) [] (i64.wrap (BitVec.ofInt i64.bits b &&& BitVec.ofInt i64.bits 7).toNat) (i64.wrap ((i64.wrap (BitVec.ofInt i64.bits b &&& BitVec.ofInt i64.bits 7).toNat)-(i64.wrap (Int.tdiv (i64.wrap (BitVec.ofInt i64.bits b &&& BitVec.ofInt i64.bits 7).toNat) 3)))) (i64.wrap (Int.tdiv (i64.wrap (BitVec.ofInt i64.bits b &&& BitVec.ofInt i64.bits 7).toNat) 2)) [] [] [] []))else(if(i64.wrap (1+(i64.wrap (Int.tmod a.kind 13))))=7 then(JA a c e b (decide ((i64.wrap (1+(i64.wrap (Int.tmod a.kind 13))))=7)))else(JA a c e b (decide ((i64.wrap (1+(i64.wrap (Int.tmod a.kind 13))))=8)))))))
def Ei(a:ZN):Cq Zk:=
 Cq.bind (LQ a.l 2 2 3 6) λb=>Cq.bind (xE b 2 1) λe=>Cq.Γ e 0 λd=>Cq.bind (tY a.v 1) λc=>if(i64.wrap (1+(i64.wrap (Int.tmod a.kind 13))))=1 then(xg a b d c (decide ((i64.wrap (1+(i64.wrap (Int.tmod a.kind 13))))=1)))else(if(i64.wrap (1+(i64.wrap (Int.tmod a.kind 13))))=2 then(xg a b d c (decide ((i64.wrap (1+(i64.wrap (Int.tmod a.kind 13))))=2)))else(xg a b d c (decide ((i64.wrap (1+(i64.wrap (Int.tmod a.kind 13))))=10))))
def ZpN(a:(Ŀ Zk)):Cq (Ŀ Zk):=
 Cq.ret a
def Qr(d:Zv):((Ŀ Zk)×Int)->Cq (Ŀ Zk):=
 Cq.loop λe=>match e with|(a,b)=>if b<(d.l.length:Int)then(if b<4 then(Cq.Γ d.l b λf=>Cq.bind (Ei f) λc=>Cq.é ((a++[c]).length<=small) (Cq.ret (.inl ((a++[c]),i64.wrap (b+1)))))else(Cq.ret (.inr a)))else(Cq.ret (.inr a))
def AW(a:Zv):Cq (Ŀ Zk):=
 Cq.next (Qr a ([],0)) λb=>match b with|c=>ZpN c
def Sp(d:Ze)(c:Zv):Cq (Ze×Int×Int):=
 if(Int.tmod c.fY 2)=0 then(Cq.bind (Bn c) λe=>Cq.bind (Bm c e) λf=>Cq.bind (xI d e f) λa=>if ¬a.2.2=0 then(Cq.ret (d,a.2.1,a.2.2))else(Cq.ret (a.1,a.2.1,a.2.2)))else(Cq.bind (AW c) λg=>Cq.bind (xn d c.id g c.Κ) λb=>if ¬b.2=0 then(Cq.ret (d,0,b.2))else(Cq.ret (b.1,0,b.2)))
def ZtH:Cq (Zb×Bool):=
 Cq.ret ((Zb.mk 0 (Zd.mk 0 [] []) (Zc.mk 0 [] []) 0 0 0 false),false)
def Ko(c:Ze)(d:Int):(Int×Zb)->Cq ((Zb×Bool)⊕Zb):=
 Cq.loop λe=>match e with|(a,b)=>if a<(c.t.length:Int)then(Cq.Γ c.t a λf=>if f.id=d then(Cq.Γ c.t a λg=>Cq.ret (.inr (.inl (g,true))))else(Cq.ret (.inl (i64.wrap (a+1),b))))else(Cq.ret (.inr (.inr b)))
def LG(c:Ze)(a:Int):Cq (Zb×Bool):=
 Cq.next (Ko c a (0,(Zb.mk 0 (Zd.mk 0 [] []) (Zc.mk 0 [] []) 0 0 0 false))) λd=>match d with|.inl b=>Cq.ret b|.inr e=>ZtH
def Ztz:Cq Bool:=
 Cq.ret true
def Zty(b:(Ŀ (Ŀ Za)))(d:Int):Int->Cq (Bool⊕Unit):=
 Cq.loop λe=>match e with|a=>if a<(b.length:Int)then(Cq.Γ b a λf=>Cq.bind (xl f d 64) λc=>if(!c)=true then(Cq.ret (.inr (.inl false)))else(Cq.ret (.inl (i64.wrap (a+1)))))else(Cq.ret (.inr (.inr ())))
def FU(b:(Ŀ (Ŀ Za)))(c:Int):Cq Bool:=
 Cq.next (Zty b c 0) λd=>match d with|.inl a=>Cq.ret a|.inr ()=>Ztz
def FR(a:Int):Cq Bool:=
 if 0<=a then(Cq.ret (decide (a<=1000000)))else(Cq.ret false)
def J1(a:Zl):Cq Bool:=
 Cq.bind (ug a.lo) λb=>match b with|false=>(Cq.ret false)|true=>(Cq.bind (ug a.hi) λc=>match c with|false=>(Cq.ret false)|true=>(Cq.bind (vF a.lo a.hi) λd=>Cq.ret (decide (d<=0))))
def vx(c:Zf):Cq Bool:=
 Cq.bind (ZY 0) λa=>Cq.bind (Bi c a) λb=>Cq.ret b
def ZqW:Cq Bool:=
 Cq.ret true
def ZqX(a:Int):Cq (Int⊕(Bool⊕Unit)):=
 Cq.ret (.inl (i64.wrap (a+1)))
def QO(b:(Ŀ (Ŀ Zl)))(g:Int)(c:Int):Int->Cq (Bool⊕Unit):=
 Cq.loop λh=>match h with|a=>if a<8 then(Cq.Γ b c λi=>Cq.Γ i a λj=>Cq.bind (J1 j) λd=>match d with|false=>(Cq.ret (.inr (.inl false)))|true=>(if g<=a then(Cq.Γ b c λk=>Cq.Γ k a λl=>Cq.bind (vx l.lo) λe=>match e with|false=>(Cq.ret (.inr (.inl false)))|true=>(Cq.Γ b c λm=>Cq.Γ m a λn=>Cq.bind (vx n.hi) λf=>if(!f)=true then(Cq.ret (.inr (.inl false)))else(Cq.ret (.inl (i64.wrap (a+1))))))else(Cq.ret (.inl (i64.wrap (a+1))))))else(Cq.ret (.inr (.inr ())))
def ZqV(b:(Ŀ (Ŀ Zl)))(d:Int):Int->Cq (Bool⊕Unit):=
 Cq.loop λe=>match e with|a=>if a<(b.length:Int)then(Cq.next (QO b d a 0) λf=>match f with|.inl c=>Cq.ret (.inr (.inl c))|.inr ()=>ZqX a)else(Cq.ret (.inr (.inr ())))
def FQ(a:(Ŀ (Ŀ Zl)))(c:Int):Cq Bool:=
 if 64<(a.length:Int)then Cq.fail else(Cq.next (ZqV a c 0) λd=>match d with|.inl b=>Cq.ret b|.inr ()=>ZqW)
def ZqZ:Cq Bool:=
 Cq.ret true
def ZqY(b:(Ŀ Int)):Int->Cq (Bool⊕Unit):=
 Cq.loop λc=>match c with|a=>if a<(b.length:Int)then(Cq.Γ b a λd=>if d<(-1)then(Cq.ret (.inr (.inl false)))else(Cq.Γ b a λe=>if 1<e then Cq.fail else(Cq.ret (.inl (i64.wrap (a+1))))))else(Cq.ret (.inr (.inr ())))
def Lr(b:(Ŀ Int)):Cq Bool:=
 Cq.next (ZqY b 0) λc=>match c with|.inl a=>Cq.ret a|.inr ()=>ZqZ
def EI(a:Zk)(c:Bool):Cq Bool:=
 if c=true then(if(a.p.length:Int)=0 then(if(a.l.length:Int)=0 then(if(a.o.length:Int)=0 then(if(a.s.length:Int)=0 then(if(a.b.length:Int)=0 then(if a.d=0 then(if a.r=0 then(Cq.bind (FR a.n) λe=>Cq.ret e)else(Cq.ret false))else(Cq.ret false))else(Cq.ret false))else(Cq.ret false))else(Cq.ret false))else(Cq.ret false))else(Cq.ret false))else(Cq.ret false)
def EJ(e:Zd)(a:Zk)(c:Bool)(h:Bool)(f:Bool):Cq Bool:=
 if f=true then(if(a.p.length:Int)=0 then(if(a.l.length:Int)=0 then(if(a.o.length:Int)=0 then(if(a.s.length:Int)=0 then(if(a.b.length:Int)=0 then(Cq.ret c)else(Cq.ret false))else(Cq.ret false))else(Cq.ret false))else(Cq.ret false))else(Cq.ret false))else(if a.kind=4 then(if(a.p.length:Int)=0 then(if(a.s.length:Int)=0 then(if(a.b.length:Int)=0 then(if c=true then(Cq.bind (yZ a.o) λi=>match i with|false=>(Cq.ret false)|true=>(if(a.l.length:Int)<=64 then(Cq.bind (FU a.l e.n) λj=>Cq.ret j)else(Cq.ret false)))else(Cq.ret false))else(Cq.ret false))else(Cq.ret false))else(Cq.ret false))else(if a.kind=5 then(if(a.p.length:Int)=0 then(if(a.l.length:Int)=0 then(if(a.o.length:Int)=0 then(if(a.s.length:Int)=0 then(if(a.b.length:Int)=0 then(if a.r=0 then(if(-1)<=a.d then(if a.d<=e.n then(Cq.bind (FR a.n) λk=>Cq.ret k)else(Cq.ret false))else(Cq.ret false))else(Cq.ret false))else(Cq.ret false))else(Cq.ret false))else(Cq.ret false))else(Cq.ret false))else(Cq.ret false))else(if a.kind=6 then(if(a.p.length:Int)=0 then(if(a.l.length:Int)=0 then(if(a.o.length:Int)=0 then(if(a.s.length:Int)=0 then(if(a.b.length:Int)=0 then(Cq.bind (FR a.n) λm=>match m with|false=>(Cq.ret false)|true=>(if 0<=a.r then(if a.r<=a.d then(Cq.ret (decide (a.d<=a.n)))else(Cq.ret false))else(Cq.ret false)))else(Cq.ret false))else(Cq.ret false))else(Cq.ret false))else(Cq.ret false))else(Cq.ret false))else(if a.kind=7 then(if(a.p.length:Int)=0 then(if(a.l.length:Int)=0 then(if(a.o.length:Int)=0 then(if(a.s.length:Int)=0 then(if c=true then(Cq.bind (FQ a.b e.n) λq=>Cq.ret q)else(Cq.ret false))else(Cq.ret false))else(Cq.ret false))else(Cq.ret false))else(Cq.ret false))else(if a.kind=8 then(if h=true then(if(a.l.length:Int)=0 then(if(a.o.length:Int)=0 then(if c=true then(Cq.bind (FQ a.b e.n) λt=>match t with|false=>(Cq.ret false)|true=>(if(a.s.length:Int)=(a.b.length:Int)then(Cq.bind (Lr a.s) λu=>Cq.ret u)else(Cq.ret false)))else(Cq.ret false))else(Cq.ret false))else(Cq.ret false))else(Cq.ret false))else(if a.kind=11 then(if(a.p.length:Int)=0 then(if(a.o.length:Int)=0 then(if(a.s.length:Int)=0 then(if(a.b.length:Int)=0 then(if c=true then(if(a.l.length:Int)<=64 then(Cq.bind (FU a.l e.n) λg=>Cq.ret g)else(Cq.ret false))else(Cq.ret false))else(Cq.ret false))else(Cq.ret false))else(Cq.ret false))else(Cq.ret false))else(if a.kind=12 then(EI a (decide (a.kind=12)))else(EI a (decide (a.kind=13))))))))))
def AI(d:Zd)(a:Zk)(c:Bool)(e:Bool)(f:Bool):Cq Bool:=
 if f=true then(if e=true then(if(a.l.length:Int)=0 then(if(a.o.length:Int)=0 then(if(a.s.length:Int)=0 then(if(a.b.length:Int)=0 then(Cq.ret c)else(Cq.ret false))else(Cq.ret false))else(Cq.ret false))else(Cq.ret false))else(Cq.ret false))else(if a.kind=3 then(EJ d a c e (decide (a.kind=3)))else(EJ d a c e (decide (a.kind=9))))
def wY(b:Zd)(a:Zk)(c:Bool):Cq Bool:=
 Cq.bind (xl a.p b.n 12) λd=>if a.kind=1 then(AI b a c d (decide (a.kind=1)))else(if a.kind=2 then(AI b a c d (decide (a.kind=2)))else(AI b a c d (decide (a.kind=10))))
def FP(b:Zd)(a:Zk):Cq Bool:=
 Cq.bind (y3 b) λc=>if(!c)=true then Cq.fail else(if a.n=0 then(if a.d=0 then(wY b a (decide (a.r=0)))else(wY b a false))else(wY b a false))
def Qo(a:Zk)(c:Bool)(b:Bool):Cq (Int×Int):=
 if b=true then(Cq.ret (0,0))else(if c=true then(if a.kind=13 then(Cq.ret (a.n,(-1)))else(Cq.ret (0,(-1))))else(Cq.ret (0,(-1))))
def Ew(a:Zk)(c:Bool)(d:Bool):Cq (Int×Int):=
 if d=true then(Cq.ret ((a.b.length:Int),(a.b.length:Int)))else(if c=true then(Qo a c (decide (a.kind=9)))else(Qo a c false))
def JI(a:Zk)(b:Bool)(c:Bool):Cq (Int×Int):=
 if c=true then(Cq.ret (a.r,a.r))else(if b=true then(if a.kind=7 then(Ew a b true)else(Ew a b (decide (a.kind=8))))else(Ew a b false))
def Eh(a:Zk)(b:Bool)(c:Bool):Cq (Int×Int):=
 if c=true then(Cq.ret (0,a.n))else(if b=true then(JI a b (decide (a.kind=6)))else(JI a b false))
def JJ(a:Zk)(d:Bool)(b:Bool)(c:Bool):Cq (Int×Int):=
 if c=true then(Cq.ret (a.n,a.n))else(if d=true then(Eh a b (decide (a.kind=12)))else(if b=true then(Eh a b (decide (a.kind=12)))else(Eh a b false)))
def yQ(a:Zk)(b:Bool)(c:Bool):Cq (Int×Int):=
 if b=true then(JJ a b c (decide (a.kind=6)))else(JJ a b c false)
def KE(a:Zc)(b:Zk):Cq (Int×Int):=
 if a.kind=8 then(yQ b (decide (a.kind=5)) true)else(yQ b (decide (a.kind=5)) (decide (a.kind=6)))
def Ztf:Cq Bool:=
 Cq.ret true
def Zte(b:(Ŀ (Fin 8->Int)))(c:(Ŀ (Fin 8->Int))):Int->Cq (Bool⊕Unit):=
 Cq.loop λd=>match d with|a=>if a<(b.length:Int)then(Cq.Γ b a λe=>Cq.Γ c a λf=>if ¬e=f then(Cq.ret (.inr (.inl false)))else(Cq.ret (.inl (i64.wrap (a+1)))))else(Cq.ret (.inr (.inr ())))
def F0(a:(Ŀ (Fin 8->Int)))(b:(Ŀ (Fin 8->Int))):Cq Bool:=
 if ¬(a.length:Int)=(b.length:Int)then(Cq.ret false)else(Cq.next (Zte a b 0) λd=>match d with|.inl c=>Cq.ret c|.inr ()=>Ztf)
def Km(d:Zd)(b:Zc)(a:Zk):Cq Bool:=
 Cq.bind (tX b.p a.p) λc=>if b.kind=1 then(if a.kind=1 then(Cq.ret c)else(if a.kind=2 then(Cq.ret c)else(Cq.ret false)))else(if b.kind=2 then(if a.kind=3 then(Cq.ret true)else(if(d.neqs.length:Int)=0 then(if a.kind=2 then(Cq.bind (ZY 1) λe=>Cq.bind (EG e) λf=>Cq.bind (tX a.p f) λg=>Cq.ret g)else(Cq.ret false))else(Cq.ret false)))else(if b.kind=3 then(if a.kind=4 then(Cq.bind (F0 b.o a.o) λh=>Cq.ret h)else(Cq.ret false))else(if b.kind=4 then(Cq.ret (decide (a.kind=5)))else(if b.kind=5 then(Cq.ret (decide (a.kind=6)))else(if b.kind=6 then(Cq.ret (decide (a.kind=7)))else(if b.kind=7 then(if a.kind=8 then(Cq.ret c)else(Cq.ret false))else(if b.kind=8 then(if a.kind=9 then(Cq.ret true)else(if a.kind=6 then(Cq.ret true)else(if a.kind=13 then(Cq.ret (decide (1<=a.n)))else(Cq.ret false))))else(if b.kind=9 then(if a.kind=10 then(Cq.ret c)else(Cq.ret false))else(if b.kind=10 then(Cq.ret (decide (a.kind=11)))else(Cq.ret false))))))))))
def EA(b:Int×Int)(a:Zb):Cq Zb:=
 if 0<=b.2 then(if a.high<0 then(Cq.ret (Zb.mk a.id a.k a.q a.η (if a.low<b.1 then b.1 else a.low) b.2 a.done))else(if b.2<a.high then(Cq.ret (Zb.mk a.id a.k a.q a.η (if a.low<b.1 then b.1 else a.low) b.2 a.done))else(Cq.ret (Zb.mk a.id a.k a.q a.η (if a.low<b.1 then b.1 else a.low) a.high a.done))))else(Cq.ret (Zb.mk a.id a.k a.q a.η (if a.low<b.1 then b.1 else a.low) a.high a.done))
def Kp(a:Zb)(c:Zk):Cq Zb:=
 Cq.bind (KE a.q c) λb=>if a.done=true then(EA b (Zb.mk a.id a.k a.q a.η a.low a.high true))else(Cq.bind (Km a.k a.q c) λd=>EA b (Zb.mk a.id a.k a.q a.η a.low a.high d))
def Zrm(b:(Ŀ Zb))(a:Int):Cq (Ze×Int):=
 Cq.ret ((Ze.mk b a),0)
def EO(c:Int)(b:(Ŀ Zb))(a:Int)(d:Zb):Cq ((Int×(Ŀ Zb)×Int)⊕(((Ŀ Zb)×Int))):=
 Cq.é ((b++[d]).length<=small) (Cq.ret (.inl (i64.wrap (c+1),(b++[d]),a)))
def JS(f:Int)(d:Int)(c:Int)(e:(Ŀ Zb))(b:Int)(a:Zb):Cq ((Int×(Ŀ Zb)×Int)⊕(((Ŀ Zb)×Int))):=
 if a.id=f then(EO c e b (Zb.mk a.id a.k a.q (if a.η<(i64.wrap (d+1))then(i64.wrap (d+1))else a.η) a.low a.high a.done))else(EO c e b a)
def QA(c:(Ŀ Zk))(d:Zb×Bool):(Int×Zb)->Cq Zb:=
 Cq.loop λg=>match g with|(a,b)=>if a<(c.length:Int)then(Cq.bind (yS b.k d.1.k) λe=>if e=true then(Cq.Γ c a λh=>Cq.bind (Kp b h) λf=>Cq.ret (.inl (i64.wrap (a+1),f)))else(Cq.ret (.inr b)))else(Cq.ret (.inr b))
def Zrk(c:Ze)(e:Int)(f:(Ŀ Zk))(g:Int)(h:Zb×Bool):(Int×(Ŀ Zb)×Int)->Cq (((Ŀ Zb)×Int)):=
 Cq.loop λj=>match j with|(b,d,a)=>if b<(c.t.length:Int)then(Cq.Γ c.t b λk=>Cq.next (QA f h (0,k)) λl=>match l with|i=>JS e g b d a i)else(Cq.ret (.inr (d,a)))
def Zrn(b:Ze)(c:Int)(d:(Ŀ Zk))(e:Int)(g:Zb×Bool):Cq (Ze×Int):=
 Cq.next (Zrk b c d e g (0,[],b.next)) λh=>match h with|(f,a)=>Zrm f a
def Zrl(b:(Ŀ Zk))(d:Zb×Bool):(Int×Ze)->Cq ((Ze×Int)⊕Ze):=
 Cq.loop λf=>match f with|(a,c)=>if a<(b.length:Int)then(Cq.Γ b a λg=>Cq.bind (FP d.1.k g) λe=>if(!e)=true then(Cq.ret (.inr (.inl ((Ze.mk [] 0),1))))else(Cq.ret (.inl (i64.wrap (a+1),c))))else(Cq.ret (.inr (.inr c)))
def QB(c:Ze)(d:Int)(a:(Ŀ Zk))(e:Int)(b:Zb×Bool)(f:Ze):Cq (Ze×Int):=
 Cq.next (Zrl a b (0,f)) λh=>match h with|.inl g=>Cq.ret g|.inr i=>Zrn c d a e b
def K9(b:Ze)(c:Int)(e:(Ŀ Zk))(a:Int):Cq (Ze×Int):=
 Cq.bind (LG b c) λd=>if(!d.2)=true then(Cq.ret ((Ze.mk [] 0),380))else(if a<0 then(Cq.ret ((Ze.mk [] 0),1))else(if 12<a then(Cq.ret ((Ze.mk [] 0),1))else(QB b c e a d (Ze.mk [] 0))))
def LD(f:Ze)(c:Zv):Cq (Ze×Int×Int):=
 if(Int.tmod c.fY 2)=0 then(Cq.bind (Bn c) λg=>Cq.bind (Bm c g) λh=>Cq.bind (A7 5 f g h) λa=>if ¬a.e=0 then(Cq.ret (f,0,a.e))else(Cq.ret (a.b,a.id,0)))else(Cq.bind (AW c) λi=>Cq.bind (K9 f c.id i c.Κ) λd=>if ¬d.2=0 then(Cq.ret (f,0,d.2))else(Cq.ret (d.1,0,0)))
def Zrp(a:(Ŀ Zc)):Cq (Ŀ Zc):=
 Cq.ret a
def Zro(e:Zb)(b:(Ŀ Zc)):((Ŀ Zc)×Int)->Cq (Ŀ Zc):=
 Cq.loop λf=>match f with|(a,d)=>if d<(b.length:Int)then(Cq.Γ b d λg=>Cq.bind (xA e.k g) λc=>Cq.é ((a++[c.q]).length<=small) (Cq.ret (.inl ((a++[c.q]),i64.wrap (d+1)))))else(Cq.ret (.inr a))
def La(b:Zb):Cq (Ŀ Zc):=
 Cq.bind (FT b.q) λc=>Cq.next (Zro b c ([],0)) λd=>match d with|a=>Zrp a
def ZtI(a:Ze):Cq Ze:=
 Cq.ret a
def RG(c:(Ŀ Zv)):(Int×Ze)->Cq Ze:=
 Cq.loop λe=>match e with|(b,a)=>if b<(c.length:Int)then(if b<6 then(Cq.Γ c b λf=>Cq.bind (LD a f) λd=>Cq.ret (.inl (i64.wrap (b+1),d.1)))else(Cq.ret (.inr a)))else(Cq.ret (.inr a))
def LH(c:(Ŀ Zv)):Cq Ze:=
 Cq.bind (Va) λa=>Cq.next (RG c (0,a)) λd=>match d with|b=>ZtI b
def Zrq:Cq Bool:=
 Cq.ret true
def Zrr(a:Int):Cq (Int⊕(Bool⊕Unit)):=
 Cq.ret (.inl (i64.wrap (a+1)))
def JV(d:Ze)(e:Int)(f:Zb)(b:(Ŀ Zc)):Int->Cq (Bool⊕Unit):=
 Cq.loop λg=>match g with|a=>if a<(b.length:Int)then(Cq.Γ b a λh=>Cq.bind (BB d f.k h) λc=>if c<0 then(Cq.ret (.inr (.inl false)))else(if e<=c then(Cq.ret (.inr (.inl false)))else(Cq.ret (.inl (i64.wrap (a+1))))))else(Cq.ret (.inr (.inr ())))
def QC(b:Ze)(a:Int)(c:Zb):Cq (Int⊕(Bool⊕Unit)):=
 Cq.bind (La c) λd=>Cq.next (JV b a c d 0) λf=>match f with|.inl e=>Cq.ret (.inr (.inl e))|.inr ()=>Zrr a
def AJ(b:Ze)(c:Int)(a:Zb):Cq (Int⊕(Bool⊕Unit)):=
 Cq.bind (xA a.k a.q) λd=>if ¬d.e=0 then(Cq.ret (.inr (.inl false)))else(Cq.bind (yS d.k a.k) λf=>match f with|false=>(Cq.ret (.inr (.inl false)))|true=>(Cq.bind (Ao d.q a.q) λg=>match g with|false=>(Cq.ret (.inr (.inl false)))|true=>(Cq.bind (BB b a.k a.q) λh=>if ¬h=c then(Cq.ret (.inr (.inl false)))else(QC b c a))))
def ER(a:Ze):Int->Cq (Bool⊕Unit):=
 Cq.loop λd=>match d with|b=>if b<(a.t.length:Int)then(Cq.Γ a.t b λc=>if c.id<1 then(Cq.ret (.inr (.inl false)))else(if a.next<=c.id then(Cq.ret (.inr (.inl false)))else(if 0<b then(Cq.Γ a.t (i64.wrap (b-1)) λe=>if c.id<=e.id then(Cq.ret (.inr (.inl false)))else(if c.η<0 then(Cq.ret (.inr (.inl false)))else(if 13<c.η then(Cq.ret (.inr (.inl false)))else(if c.low<0 then(Cq.ret (.inr (.inl false)))else(if c.high<(-1)then(Cq.ret (.inr (.inl false)))else(AJ a b c))))))else(if c.η<0 then(Cq.ret (.inr (.inl false)))else(if 13<c.η then(Cq.ret (.inr (.inl false)))else(if c.low<0 then(Cq.ret (.inr (.inl false)))else(if c.high<(-1)then(Cq.ret (.inr (.inl false)))else(AJ a b c))))))))else(Cq.ret (.inr (.inr ())))
def QD(a:Ze):Cq Bool:=
 Cq.next (ER a 0) λc=>match c with|.inl b=>Cq.ret b|.inr ()=>Zrq
def Ld(a:Ze):Cq Bool:=
 if 100<(a.t.length:Int)then(Cq.ret false)else(if a.next<1 then(Cq.ret false)else(if 1000000<a.next then(Cq.ret false)else(QD a)))
end Go.EL

namespace Go.EL
open Go.IntKind (i8 i16 i32 i64 u8 u16 u32 u64)
open Go
namespace Cq
variable {α β σ ρ:Type}
theorem wp_ret{a:α}{p:α->Prop}:(Cq.ret a).wp p↔p a:=Iff.rfl
theorem Zm{q:Prop}[Decidable q]{c d:Cq α}{p:α->Prop}:(if q then c else d).wp p↔if q then c.wp p else d.wp p:=by split<;>rfl
theorem Zzq{A:σ->Prop}{Φ:ρ->Prop}{s:σ}:Out A Φ (.inl s)↔A s:=Iff.rfl
theorem ω.then{c:Cq α}{a:α}(h:c.ω a){p:α->Prop}(hp:p a):c.wp p:=c.mono (λb e=>by rw[e];exact hp) h
end Cq
theorem wrap64{x:Int}(h:-9223372036854775808<=x/\x<=9223372036854775807):i64.wrap x=x:=IntWalk.i64_in _ h
theorem na{a:Fin 8->Int}{i:Int}(h:0<=i/\i<8):Ζ a i=a ⟨i.toNat,ŉ⟩:=zt a ŉ
theorem JC(a b:M):(yN a b).ω (Ü a b):=by
 unfold yN;by_cases h:a=b
 .rw[ą h];subst h;exact(A9 a).symm
 rw[ā h];have n:∀k:Nat,k<=8->(∀j:Fin 8,j.val<k->a j=b j)->k<8:=λk l g=>by
  rcases ş k 8 with q|q
  .exact q
  exact absurd (funext λj=>g j ŉ) h
 refine Cq.Mb (I:=λi:Int=>0<=i/\i<8/\∀j:Fin 8,(j.val:Int)<i->a j=b j) (m:=λi=>(8-i).toNat) (λi hi=>?_) 0 ⟨ŉ,ŉ,λj g=>by omega⟩;obtain⟨c,d,g⟩:=hi;refine⟨⟨c,d⟩,⟨c,d⟩,?_⟩;rw[Cq.Zm,na ⟨c,d⟩,na ⟨c,d⟩];split
 .rename_i e;have ki:∀j:Fin 8,(j.val:Int)<i+1->a j=b j:=λj f=>by
   by_cases h2:(j.val:Int)<i
   .exact g j h2
   have:j=⟨i.toNat,ŉ⟩:=abh ab0;rw[this];exact e
  have:=n (i+1).toNat ŉ (λj f=>ki j ŉ);rw[Cq.wp_ret,Cq.Zzq,wrap64 ŉ];exact⟨⟨ŉ,ŉ,ki⟩,ŉ⟩
 rename_i e;refine⟨⟨c,d⟩,⟨c,d⟩,?_⟩;rw[Cq.Zm,na ⟨c,d⟩,na ⟨c,d⟩];have l:i.toNat<8:=ŉ;split
 .rename_i p;exact(Vl a b l (λj f=>g j ŉ) p).symm
 rename_i p;exact(Vk a b l (λj f=>g j ŉ) ŉ).symm
end Go.EL

namespace Go.EL
open Go.IntKind (i8 i16 i32 i64 u8 u16 u32 u64)
open Go
instance Nd:DecidableEq Zg:=λ⟨a1,a2⟩ ⟨a,c⟩=>decidable_of_iff (a1=a/\a2=c) ß
instance Ng:DecidableEq Zf:=λ⟨a1,a2⟩ ⟨a,c⟩=>decidable_of_iff (a1=a/\a2=c) ß
def ü(n:Int):Zf:=⟨⟨decide (n<0),if n=0 then[]else[(n.natAbs:Int)]⟩,⟨false,[1]⟩⟩
def á(l h:Int)(p:Int->Bool):Bool:=(List.range (h-l+1).toNat).all λk=>p (l+(k:Int))
theorem Zs{l h:Int}{p:Int->Bool}(a:á l h p=true){x:Int}(c:l<=x)(h2:x<=h):p x=true:=by have:=Ć.1 a (x-l).toNat (Ľ.2 ŉ);rwa [show l+((x-l).toNat:Int)=x by omega]at this
def runs{α:Type}[DecidableEq α](n:Nat)(c:Cq α)(a:α):Bool:=decide (c.ev n=some a)
theorem Zu{α:Type}[DecidableEq α]{n:Nat}{c:Cq α}{a:α}(h:runs n c a=true):c.ω a:=Cq.ω.mj n (Ĥ h)
theorem ZxO:(á (-8) 8 λn=>runs 20 (ZY n) (ü n))=true:=by decide +kernel
theorem Zzt:(á (-12) 12 λa=>á (-3) 3 λb=>runs 30 (vE (ü a) (ü b)) (ü (a+b)))=true:=by decide +kernel
theorem Zz9:(á (-3) 3 λa=>runs 30 (rn (ü a) (ü 1)) (ü a))=true:=by decide +kernel
theorem F6:(á (-15) 15 λa=>runs 30 (oO (ü a)) (if a<0 then -1 else if a=0 then 0 else 1))=true:=by decide +kernel
theorem ZxK:(á (-15) 15 λa=>a == 0 || runs 30 (ug (ü a)) true)=true:=by decide +kernel
theorem Tl:(á (-12) 12 λa=>a == 0 || runs 30 (ZI (ü a)) (if a<0 then -1 else if a=0 then 0 else 1))=true:=by decide +kernel
theorem Zv5:(á (-12) 12 λa=>a == 0 || runs 30 (Z0 (ü a)) true)=true:=by decide +kernel
theorem ZyS:(á (-12) 12 λa=>a == 0 || á (-12) 12 λb=>b == 0 || runs 30 (vi (ü a) (ü b)) (if a<b then -1 else if a=b then 0 else 1))=true:=by decide +kernel
end Go.EL

namespace Go.EL
open Go.IntKind (i8 i16 i32 i64 u8 u16 u32 u64)
open Go Go.RowKit
def lU(k:Nat)(f a:M):M:=λi=>if i.val<k then f i else a i
theorem Uq{k:Nat}(f a:M)(h:k<8):ε (lU k f a) k (f ⟨k,h⟩)=lU (k+1) f a:=by
 funext i;unfold ε lU;by_cases e:i.val=k
 .have:i=⟨k,h⟩:=abh e;subst this;simp
 have c:(i.val<k+1)=(i.val<k):=by apply propext;omega
 simp[e,c]
theorem VX{k:Nat}(f a:M)(h:k<8):lU k f a ⟨k,h⟩=a ⟨k,h⟩:=by unfold lU;simp
theorem Ur(f a:M):lU 0 f a=a:=by funext i;simp[lU]
theorem UR{k:Nat}(f a:M)(h:¬k<8):lU k f a=f:=by funext i;have:i.val<k:=ŉ;simp[lU,this]
theorem Zx8{p:Fin 8->Prop}{k:Nat}(a:∀i:Fin 8,i.val<k->p i)(h:k<8)(c:p ⟨k,h⟩):∀i:Fin 8,i.val<k+1->p i:=λi hi=>by
 by_cases e:i.val=k
 .have:i=⟨k,h⟩:=abh e;rw[this];exact c
 exact a i ŉ
def Ok(a:M):Prop:=∀i,0<=a i/\a i<=65535
def p2:Nat->Int
 |0=>1
 |k+1=>2*p2 k
theorem ZBq:∀{k:Nat},k<=8->1<=p2 k/\p2 k<=256
 |0,_=>by decide
 |1,_=>by decide
 |2,_=>by decide
 |3,_=>by decide
 |4,_=>by decide
 |5,_=>by decide
 |6,_=>by decide
 |7,_=>by decide
 |8,_=>by decide
 |k+9,h=>by omega
theorem MP{k:Nat}(h:k<8):1<=p2 k/\p2 k<=128:=by have:=ZBq (k:=k+1) ŉ;simp only[p2]at this;omega
theorem ZyB{k:Nat}(h:k<8):u8.wrap (1*2 ^ (min (k:Int).toNat u8.bits))=p2 k:=by
 match k,h with
 |0,_=>decide|1,_=>decide|2,_=>decide|3,_=>decide|4,_=>decide|5,_=>decide|6,_=>decide|7,_=>decide
theorem ZAf{k:Nat}(h:k<8):u8.wrap (p2 k)=p2 k:=by
 match k,h with
 |0,_=>decide|1,_=>decide|2,_=>decide|3,_=>decide|4,_=>decide|5,_=>decide|6,_=>decide|7,_=>decide
def Û(a:M):Nat->Int
 |0=>0
 |k+1=>Û a k+(if h:k<8 then(if 0<a ⟨k,h⟩then p2 k else 0)else 0)
def jO(a:M):Int:=Û a 8
theorem A0(a:M):∀k:Nat,0<=Û a k/\Û a k<p2 k
 |0=>by simp[Û,p2]
 |k+1=>by
  have c:=A0 a k;simp only[Û,p2];split
  .split<;>omega
  omega
theorem Si(a:M){k:Nat}(h:k<8)(c:0<a ⟨k,h⟩):Û a k+p2 k=Û a (k+1):=by simp[Û,h,c]
theorem To(a:M){k:Nat}(h:k<8)(c:¬0<a ⟨k,h⟩):Û a k=Û a (k+1):=by simp[Û,h,c]
theorem Zxj:∀k:Fin 8,∀s:Fin 128,s.val<2 ^ k.val->u8.wrap (BitVec.ofInt u8.bits (s.val:Int) ||| BitVec.ofInt u8.bits (p2 k.val)).toNat=s.val+p2 k.val:=by decide +kernel
theorem zw:∀k:Nat,p2 k=((2 ^ k:Nat):Int)
 |0=>rfl
 |k+1=>by rw[p2,zw k,Nat.pow_succ];omega
theorem ZBp{k:Nat}(h:k<8){s:Int}(a:0<=s)(c:s<p2 k):u8.wrap (BitVec.ofInt u8.bits s ||| BitVec.ofInt u8.bits (p2 k)).toNat=s+p2 k:=by obtain⟨n,rfl⟩:=aav a;have h2:=MP h;rw[zw]at c;exact Zxj ⟨k,h⟩ ⟨n,by rw[zw]at h2;omega⟩ ab0
theorem YL{k:Nat}(h:k<8){s:Int}(a:0<=s)(c:s<p2 k):u8.wrap (s+p2 k)=s+p2 k:=by have h2:=MP h;simp only[IntKind.wrap,IntKind.bits,IntKind.signed,Ŷ,Ŝ,aaN];omega
theorem Cq.Zn{σ ρ:Type}{step:σ->Cq (σ⊕ρ)}{Φ:ρ->Prop}(n:Nat)(I:Nat->σ->Prop)(h:∀k s,k<n->I k s->(step s).wp (Out (λs'=>I (k+1) s') Φ))(a:∀s,I n s->(step s).wp (Out (λ_=>False) Φ)):
  ∀{s:σ},I 0 s->(Cq.loop step s).wp Φ:=by
 have key:∀d k s,k+d=n->I k s->(Cq.loop step s).wp Φ:=by
  intro d;induction d with
  |zero=>intro k s e c;rw[dV]at e;subst e;exact Cq.Zt ((step s).mono (Out.mono (λ_ h=>h.elim) (λ_ x=>x)) (a s c))
  |succ d f=>intro k s e c;exact Cq.Zt ((step s).mono (Out.mono (λs' h'=>f (k+1) s' ŉ h') (λ_ x=>x)) (h k s ŉ c))
 exact λ{s} c=>key n 0 s ŉ c
theorem χ{k:Nat}(h:k<1000000000000):i64.wrap ((k:Int)+1)=((k+1:Nat):Int):=by rw[wrap64 ŉ];simp
theorem Λ{α:Type}{l:Ŀ α}{k:Nat}(h:k<l.length):(0:Int)<=(k:Int)/\l[(k:Int).toNat]?=some l[k]:=⟨ŉ,by simp[h]⟩
theorem Õ{a:M}{k:Nat}(h:k<8):Ζ a (k:Int)=a ⟨k,h⟩:=by rw[na ŉ];rfl
theorem ZtP(m:M):(JD m).ω (jO m):=by
 show(Cq.loop _ _).wp _;refine Cq.Zn 8 (λk s=>s=(Û m k,(k:Int))) (λk s a c=>?_) (λs c=>?_) rfl
 .subst c;refine Cq.wp.yes (p:=(k:Int)<8) ŉ ?_;refine⟨ŉ,?_⟩;rw[Cq.Zm,Õ a];have d:=A0 m k;split
  .rename_i h;refine⟨ŉ,?_⟩;show _=_;rw[χ ŉ,ZyB a,ZBp a d.1 d.2,Si m a h]
  rename_i h;show _=_;rw[χ ŉ,To m a h]
 subst c;refine Cq.wp.no (p:=((8:Nat):Int)<8) ŉ ?_;rfl
theorem AA(a b:M):(xN a b).ω (Ü a b):=by
 refine Cq.Zn 8 (λk s=>s=(k:Int)/\∀i:Fin 8,i.val<k->a i=b i) (λk s c d=>?_) (λs d=>?_) ⟨rfl,λi hi=>by omega⟩
 .obtain⟨rfl,hi⟩:=d;rw[Cq.Zm,ą ŉ];refine⟨ŉ,ŉ,?_⟩;rw[Cq.Zm,Õ c,Õ c];split
  .rename_i h;show _=_;exact(Vl a b c hi h).symm
  rename_i h;refine⟨ŉ,ŉ,?_⟩;rw[Cq.Zm];split
  .rename_i h2;show _=_;exact(Vk a b c hi h2).symm
  exact⟨χ ŉ,Zx8 hi c ŉ⟩
 obtain⟨rfl,hi⟩:=d;rw[Cq.Zm,ā ŉ];show _=_;exact(Vj a b (λi=>hi i i.isLt)).symm
theorem Ztb{i:Nat}(hi:i<8):(Mn (i:Int)).ω (p2 i):=by
 refine Cq.Zn i (λk s=>s=(p2 k,(k:Int))) (λk s c a=>?_) (λs a=>?_) rfl
 .subst a;show(if(k:Int)<(i:Int)then _ else _:Cq _).wp _;have:=MP (k:=k) ŉ;rw[Cq.Zm,ą ŉ];show _=_;rw[χ ŉ,wrap64 ŉ];rfl
 subst a;refine Cq.wp.no (p:=(i:Int)<(i:Int)) ŉ ?_;exact ZAf hi
theorem ZmO(m:M):(Kj m).ω (jO m):=by
 refine Cq.Zn 8 (λk s=>s=(Û m k,(k:Int))) (λk s a c=>?_) (λs c=>?_) rfl
 .subst c;have d:=A0 m k;refine Cq.wp.yes (p:=(k:Int)<8) ŉ ?_;refine⟨ŉ,?_⟩;rw[Cq.Zm,Õ a];split
  .rename_i hp;refine⟨_,Ztb a,?_⟩;show _=_;rw[χ ŉ,YL a d.1 d.2,Si m a hp]
  rename_i hp;show _=_;rw[χ ŉ,To m a hp]
 subst c;refine Cq.wp.no (p:=((8:Nat):Int)<8) ŉ ?_;rfl
theorem Ql{m:M}(h:Ok m):(FM m).ω true:=by
 refine Cq.Zn 8 (λk s=>s=(k:Int)) (λk s c a=>?_) (λs a=>?_) rfl
 .subst a;have:=h ⟨k,c⟩;rw[Cq.Zm,ą ŉ];refine⟨ŉ,?_⟩;rw[Cq.Zm,Õ c,ā ŉ];refine⟨ŉ,?_⟩;rw[Cq.Zm,ā ŉ];exact χ ŉ
 subst a;rw[Cq.Zm,ā ŉ];rfl
theorem S0{m:M}(h:Ok m):(Es m).ω true:=by
 refine Cq.Zn 8 (λk s=>s=(k:Int)) (λk s c a=>?_) (λs a=>?_) rfl
 .subst a;have:=h ⟨k,c⟩;refine Cq.wp.yes (p:=(k:Int)<8) ŉ ?_;refine⟨ŉ,?_⟩;rw[Cq.Zm,Õ c,ā ŉ,Cq.Zm,ā ŉ];exact χ ŉ
 subst a;refine Cq.wp.no (p:=((8:Nat):Int)<8) ŉ ?_;rfl
def fE(m:M):Nat->Int
 |0=>0
 |k+1=>fE m k+(if h:k<8 then m ⟨k,h⟩else 0)
def fH(m:M):Int:=fE m 8
theorem Gb{m:M}(h:Ok m):∀k:Nat,0<=fE m k/\fE m k<=65535*k
 |0=>by simp[fE]
 |k+1=>by
  have c:=Gb h k;simp only[fE];split
  .rename_i a;have:=h ⟨k,a⟩;omega
  omega
theorem ZnY{m:M}(h:Ok m):(KB m).ω (fH m):=by
 refine Cq.Zn 8 (λk s=>s=(fE m k,(k:Int))) (λk s a c=>?_) (λs c=>?_) rfl
 .subst c;have d:=Gb h k;have h2:=h ⟨k,a⟩;refine Cq.wp.yes (p:=(k:Int)<8) ŉ ?_;refine⟨ŉ,?_⟩;show _=_;rw[χ ŉ,Õ a,wrap64 ŉ,fE,ŷ a]
 subst c;refine Cq.wp.no (p:=((8:Nat):Int)<8) ŉ ?_;rfl
theorem Zu7{m:M}(h:Ok m):(Jy m).ω (fH m):=by
 refine Cq.Zn 8 (λk s=>s=(fE m k,(k:Int))) (λk s a c=>?_) (λs c=>?_) rfl
 .subst c;have d:=Gb h k;have h2:=h ⟨k,a⟩;refine Cq.wp.yes (p:=(k:Int)<8) ŉ ?_;refine⟨ŉ,?_⟩;show _=_;rw[χ ŉ,Õ a,wrap64 ŉ,fE,ŷ a]
 subst c;refine Cq.wp.no (p:=((8:Nat):Int)<8) ŉ ?_;rfl
def mulM(a b:M):M:=λi=>a i+b i
theorem Rw{a b:M}(f:Ok a)(g:Ok b)(d:Ok (mulM a b)):(Mo a b).ω (mulM a b,0):=by
 show(Cq.next _ _).wp _;refine Cq.Zn 8 (λk s=>s=((k:Int),lU k (mulM a b) a)) (λk s c e=>?_) (λs e=>?_) (by rw[Ur];rfl)
 .subst e;have h:=f ⟨k,c⟩;have h2:=g ⟨k,c⟩;rw[Cq.Zm,ą ŉ];refine⟨ŉ,ŉ,ŉ,?_⟩;show _=_;rw[χ ŉ,Õ c,Õ c,VX,wrap64 ŉ];exact Ē (Prod.mk _) (Uq (mulM a b) a c)
 subst e;rw[Cq.Zm,ā ŉ,UR _ _ ŉ];exact⟨true,Ql d,rfl⟩
end Go.EL

namespace Go.EL
open Go.IntKind (i8 i16 i32 i64 u8 u16 u32 u64)
open Go Go.RowKit
theorem ub{c:Zf}(h:fp c=true):∃n:Int,c=ü n/\n≠0/\-12<=n/\n<=12:=by
 obtain⟨⟨e,i⟩,⟨f,dm⟩⟩:=c;unfold fp at h;dsimp only at h;split at h
 .rename_i w d;simp only[ĉ,Ř,Ě]at h;obtain⟨⟨⟨a,h2⟩,h3⟩,g⟩:=h;subst a h2;cases e with
  |true=>
   refine⟨-w,?_,ŉ,ŉ,ŉ⟩;unfold ü;rw[ā ŉ,ă ŉ,show((-w).natAbs:Int)=w by omega]
  |false=>
   refine⟨w,?_,ŉ,ŉ,ŉ⟩;unfold ü;rw[ā ŉ,Ĉ ŉ,show((w).natAbs:Int)=w by omega]
 cases h
theorem pH(n:Int):Î (ü n)=n:=by
 unfold Î ü;by_cases h:n<0
 .rw[ă h,ą rfl,ā ŉ];simp;omega
 rw[Ĉ h];by_cases a:n=0
 .subst a;rfl
 simp[a];omega
theorem ZvG{n:Int}(a:n≠0)(c:-12<=n)(h2:n<=12):fp (ü n)=true:=by unfold fp ü;rw[ā a];simp;omega
def hN(a b:Zf):Int:=if Î a<Î b then -1 else if Î a=Î b then 0 else 1
theorem TV{a b:Zf}(e:fp a=true)(f:fp b=true):(vi a b).ω (hN a b):=by
 obtain⟨m,rfl,g,i,j⟩:=ub e;obtain⟨n,rfl,k,l,p⟩:=ub f;have h:=Zs ZyS i j;have c:(m == 0)=false:=by simpa using g
 rw[c,Ł]at h;have h':=Zs h l p;have d:(n == 0)=false:=by simpa using k
 rw[d,Ł]at h';have:=Zu h';unfold hN;rw[pH,pH];exact this
theorem Zwv{a b:Zf}(c:fp a=true)(d:fp b=true)(h:hN a b=0):a=b:=by
 obtain⟨m,rfl,_⟩:=ub c;obtain⟨n,rfl,_⟩:=ub d;unfold hN at h;rw[pH,pH]at h;split at h
 .omega
 split at h
 .rename_i e;rw[e]
 omega
theorem Zye(a b:Zf):hN b a = - hN a b:=by unfold hN;split<;>split<;>(try split)<;>omega
theorem Zzw{a b:Zf}:hN a b<=0↔Î a<=Î b:=by unfold hN;split<;>(try split)<;>constructor<;>intro h<;>omega
theorem Zzx{a b:Zf}:hN a b<0↔Î a<Î b:=by unfold hN;split<;>(try split)<;>constructor<;>intro h<;>omega
theorem Zvy{a b c:Zf}(d:hN a b<=0)(h2:hN b c<=0):hN a c<=0/\((hN a b<0\/hN b c<0)->hN a c<0):=by rw[Zzw]at *;simp only[Zzx];omega
theorem Ga(s t:Za):fC t s = - fC s t:=by
 unfold fC;by_cases h:s.m=t.m
 .rw[ą h,ą h.symm];exact Zye s.c t.c
 rw[ā h,ā (λe=>h e.symm)];exact tZ _ _
theorem E7(a b c:Za)(g:fC a b<=0)(h2:fC b c<=0):fC a c<=0/\((fC a b<0\/fC b c<0)->fC a c<0):=by
 have j:∀{x y:Za},x.m≠y.m->Ü x.m y.m<=0->Ü x.m y.m<0:=λh h'=>by
  rcases Int.lt_or_eq_of_le h' with h'|h'
  .exact h'
  exact absurd (uh h') h
 unfold fC at *;by_cases d:a.m=b.m
 .by_cases f:b.m=c.m
  .rw[ą d]at g⊢;rw[ą f]at h2⊢;rw[ą (d.trans f)];exact Zvy g h2
  rw[ą d]at g⊢;rw[ā f]at h2⊢;rw[ā (λe=>f (d.symm.trans e))];have:=j f h2;rw[d];exact⟨h2,λ_=>this⟩
 by_cases f:b.m=c.m
 .rw[ā d]at g⊢;rw[ą f]at h2⊢;rw[ā (λe=>d (e.trans f.symm))];have:=j d g;rw[<-f];exact⟨g,λ_=>this⟩
 rw[ā d]at g⊢;rw[ā f]at h2⊢;have i:=j d g;have h3:=J7 g h2 (.inl i);have:a.m≠c.m:=λe=>by rw[e,A9]at h3;omega
 rw[ā this];exact⟨Int.le_of_lt h3,λ_=>h3⟩
theorem Zwx{s t:Za}(a:fp s.c=true)(c:fp t.c=true)(h:fC s t=0):s=t:=by
 unfold fC at h;have key:s.m=t.m/\s.c=t.c:=by
  by_cases e:s.m=t.m
  .rw[ą e]at h;exact⟨e,Zwv a c h⟩
  rw[ā e]at h;exact absurd (uh h) e
 cases s;cases t;simp only at key;rw[key.1,key.2]
theorem qK:∀p q:Ŀ Za,ê q p = - ê p q
 |[],[]=>rfl
 |[],_::_=>rfl
 |_::_,[]=>rfl
 |s::p,t::q=>by
  unfold ê;rw[Ga s t,qK p q];by_cases h:fC s t=0
  .rw[ą h,ą ŉ]
  rw[ā h,ā ŉ]
theorem yU:∀a b c:Ŀ Za,ê a b<=0->ê b c<=0->ê a c<=0/\((ê a b<0\/ê b c<0)->ê a c<0)
 |[],[],[],d,h2=>⟨ĳ,λh=>by rcases h with h|h<;>exact absurd h ĳ⟩
 |[],[],_::_,d,h2=>⟨by simp[ê],λ_=>by simp[ê]⟩
 |[],_::_,[],d,h2=>by simp[ê]at h2
 |[],_::_,_::_,d,h2=>⟨by simp[ê],λ_=>by simp[ê]⟩
 |_::_,[],_,d,h2=>by simp[ê]at d
 |_::_,_::_,[],d,h2=>by simp[ê]at h2
 |s::a,t::b,u::c,d,h2=>by
  have l:=Ga s t;have i:=yU a b c;have tr:=E7 s t u;have j:=E7 t s u;have k:=E7 s u t;have m:=Ga t u;have n3:=Ga s u;simp only[ê]at *;by_cases g:fC s t=0
  .rw[ą g]at d⊢;by_cases e:fC t u=0
   .rw[ą e]at h2⊢;have h3:fC s u=0:=by
     have f:=(tr ŉ ŉ).1;have n:=(E7 u t s ŉ ŉ).1;omega
    rw[ą h3];exact i d h2
   rw[ā e]at h2⊢;have f:=(tr ŉ h2).2 (.inr ŉ);rw[ā ŉ];exact⟨ŉ,λ_=>f⟩
  rw[ā g]at d⊢;have e:fC t u<=0:=by
   by_cases e:fC t u=0
   .omega
   rw[ā e]at h2;exact h2
  have f:=(tr d e).2 (.inl ŉ);rw[ā ŉ];exact⟨ŉ,λ_=>f⟩
theorem xB(p:Ŀ Za):ê p p=0:=by have:=qK p p;omega
theorem RX{t:Za}{p:Ŀ Za}(h:Ò (t::p)=true):fp t.c=true/\Ò p=true:=by unfold Ò at *;simp only[ĉ,Ě,Ę,abo]at h⊢;exact⟨h.2.1,ŉ,h.2.2⟩
theorem Ba:∀{p q:Ŀ Za},Ò p=true->Ò q=true->ê p q=0->p=q
 |[],[],_,_,_=>rfl
 |[],_::_,_,_,h=>by simp[ê]at h
 |_::_,[],_,_,h=>by simp[ê]at h
 |s::p,t::q,hp,a,h=>by
  obtain⟨p1,p2⟩:=RX hp;obtain⟨c,d⟩:=RX a;simp only[ê]at h;by_cases e:fC s t=0
  .rw[ą e]at h;rw[Zwx p1 c e,Ba p2 d h]
  rw[ā e]at h;exact absurd h e
abbrev mM:={ p:Ŀ Za // Ò p=true }
theorem OJ:Go.Sort.SWO (Go.Proofs.ltOf λa b:mM=>ê a.1 b.1) where
 irrefl x:=by show decide (ê x.1 x.1<0)=false;rw[xB];rfl
 trans x y z c h2:=by simp only[Go.Proofs.ltOf,Ě]at *;exact(yU x.1 y.1 z.1 ŉ ŉ).2 (.inl c)
 ntrans x y z c h2:=by simp only[Go.Proofs.ltOf,aau,aaK]at *;have d:=qK x.1 y.1;have e:=qK y.1 z.1;have n3:=qK x.1 z.1;have:=(yU z.1 y.1 x.1 ŉ ŉ).1;omega
theorem L9(x:Ŀ Za):∀l,(zT x l).Perm (x::l)
 |[]=>eH _
 |y::l=>by
  unfold zT;split
  .exact ((L9 x l).cons y).trans (List.Perm.swap x y l)
  exact eH _
theorem vt:∀l,(jI l).Perm l
 |[]=>eH _
 |x::l=>(L9 x (jI l)).trans ((vt l).cons x)
theorem Sn(x:Ŀ Za):∀l,l.Pairwise (λa b=>ê a b<=0)->(zT x l).Pairwise (λa b=>ê a b<=0)
 |[],_=>ū _ _
 |y::l,h=>by
  unfold zT;obtain⟨d,h2⟩:=ı.1 h;have n:=qK x y;split
  .refine ı.2 ⟨λz c=>?_,Sn x l h2⟩;rcases Ď.1 ((L9 x l).mem_iff.1 c)with rfl|c
   .omega
   exact d z c
  refine ı.2 ⟨λz c=>?_,h⟩;rcases Ď.1 c with rfl|c
  .omega
  exact(yU x y z ŉ (d z c)).1
theorem KH:∀l,(jI l).Pairwise (λa b=>ê a b<=0)
 |[]=>List.Pairwise.nil
 |x::l=>Sn x _ (KH l)
theorem Rk:∀{l m:Ŀ (Ŀ Za)},l.Perm m->(∀p∈l,Ò p=true)->l.Pairwise (λa b=>ê a b<=0)->m.Pairwise (λa b=>ê a b<=0)->l=m
 |[],m,h,_,_,_=>(List.Perm.nil_eq h)
 |x::l,[],h,_,_,_=>by have:=h.length_eq;simp at this
 |x::l,y::m,h,d,j,h2=>by
  obtain⟨a1,a2⟩:=ı.1 j;obtain⟨g,i⟩:=ı.1 h2;have e:x=y:=by
   have f:x∈y::m:=h.mem_iff.1 ß;have c:y∈x::l:=h.mem_iff.2 ß;have k:ê x y<=0:=by
    rcases Ď.1 c with rfl|c
    .rw[xB];exact ŝ 0
    exact a1 y c
   have q:ê y x<=0:=by
    rcases Ď.1 f with rfl|f
    .rw[xB];exact ŝ 0
    exact g x f
   have n:=qK x y;exact Ba (d x ß) (d y c) ŉ
  subst e;rw[Rk (List.Perm.cons_inv h) (λp hp=>d p (by simp[hp])) a2 i]
theorem ZxW{s t:Za}(a:fp s.c=true)(c:fp t.c=true):(Eg s t).ω (fC s t):=by
 unfold Eg fC;by_cases h:s.m=t.m
 .rw[ą h];exact Cq.wp.no (by simpa using h) ⟨_,TV a c,rfl⟩
 rw[ā h];exact Cq.wp.yes h ⟨_,JC _ _,rfl⟩
theorem tF{p:Ŀ Za}(h:Ò p=true){k:Nat}(a:k<p.length):fp p[k].c=true:=by unfold Ò at h;simp only[ĉ]at h;exact Ć.1 h.2 _ (Ă a)
theorem vr{p:Ŀ Za}(h:Ò p=true):p.length<=1000:=by unfold Ò at h;simp only[ĉ,Ě]at h;exact h.1
theorem Fx(p q:Ŀ Za){k:Nat}(hp:k<p.length)(a:k<q.length):ê (p.drop k) (q.drop k)=if fC p[k] q[k]=0 then ê (p.drop (k+1)) (q.drop (k+1))else fC p[k] q[k]:=by rw[į hp,į a];rfl
theorem Tv{p q:Ŀ Za}(hp:Ò p=true)(g:Ò q=true):(Eu p q).ω (ê p q):=by
 have j:=vr hp;have l:=vr g;refine⟨ê p q,?_,rfl⟩;unfold ZC;refine(ZJ p q 0).mono (p:=λo=>match o with|.inl v=>v=ê p q|.inr ()=>q.length ≥ p.length/\ê p q=ê [] (q.drop p.length)) (λo h=>?_) (Cq.Zn p.length (λk s=>s=(k:Int)/\k<=p.length/\k<=q.length/\ê p q=ê (p.drop k) (q.drop k)) ?_ ?_ ⟨rfl,Ĝ _,Ĝ _,rfl⟩)
 .match o,h with
  |.inl v,h=>exact h
  |.inr (),⟨f,h2⟩=>
   show(ZA p q).ω _;unfold ZA;by_cases i:p.length<q.length
   .refine Cq.wp.yes ŉ ?_;show(-1:Int)=_;rw[h2,į i];rfl
   refine Cq.wp.no ŉ ?_;show(0:Int)=_;rw[h2,Ĺ ŉ];rfl
 .rintro k s d ⟨rfl,f,h2,h3⟩;refine Cq.wp.yes ŉ ⟨_,Λ d,?_⟩;by_cases a:k<q.length
  .refine Cq.wp.no ŉ ⟨_,Λ a,_,ZxW (tF hp d) (tF g a),?_⟩;have c:=Fx p q d a;by_cases e:fC p[k] q[k]=0
   .rw[ą e]at c;refine Cq.wp.no ŉ ?_;exact⟨χ ŉ,ŉ,ŉ,h3.trans c⟩
   rw[ā e]at c;refine Cq.wp.yes e ?_;exact(h3.trans c).symm
  refine Cq.wp.yes ŉ ?_;show(1:Int)=_;rw[h3,į d,Ĺ (show q.length<=k by omega)];rfl
 rintro s ⟨rfl,f,h2,h3⟩;refine Cq.wp.no ŉ ?_;refine⟨h2,?_⟩;rw[h3,Ĺ (Ċ _)]
theorem SE(y:Ŀ Za):∀(x:Ŀ Za) (l:Ŀ (Ŀ Za)),jW x (l++[y])=jW x l++(if ê y (l.getLastD x)=0 then[]else[y])
 |x,[]=>by
  show jW x [y]=_;unfold jW;by_cases h:ê y x=0
  .rw[ą h];simp[h,jW]
  rw[ā h];simp[h,jW]
 |x,z::l=>by
  have a:=SE y z l;show jW x (z::(l++[y]))=_;have e:(z::l).getLastD x=l.getLastD z:=by cases l<;>simp[List.getLastD]
  rw[e];simp only[jW];split
  .exact a
  rw[a];rfl
theorem SG{xs:Ŀ (Ŀ Za)}{j:Nat}(c:1<=j)(a:j<xs.length):gh (xs.take (j+1))=if ê xs[j] xs[j-1]=0 then gh (xs.take j)else gh (xs.take j)++[xs[j]]:=by
 match xs,a with
 |x::l,a=>
  obtain⟨i,rfl⟩:∃i,j=i+1:=⟨j-1,ŉ⟩;have hi:i<l.length:=by simpa using a
  rw[č a];simp only[List.take_succ_cons,Ļ,gh,SE,x5,Nat.add_sub_cancel];have e:(l.take i).getLastD x=(x::l)[i]:=by
   cases i with
   |zero=>rfl
   |succ i=>
    rw[List.getLastD_eq_getLast?,List.getLast?_eq_getElem?,Č];rw[show min (i+1) l.length-1=i by omega,Ŵ ŉ,Ą ŉ];rfl
  rw[e];split<;>simp
theorem TN:∀{xs:Ŀ (Ŀ Za)},(gh xs).length<=xs.length
 |[]=>Ċ _
 |x::l=>by
  have key:∀(x:Ŀ Za) (l:Ŀ (Ŀ Za)),(jW x l).length<=l.length:=by
   intro x l;induction l generalizing x with
   |nil=>exact Ċ _
   |cons y l a=>
    unfold jW;split
    .exact aaz (a y)
    simpa using a y
  simpa[gh]using key x l
theorem RU{xs:Ŀ (Ŀ Za)}(h:xs.length<2):gh xs=xs:=by
 match xs,h with
 |[],_=>rfl
 |[x],_=>rfl
theorem Zwq{s t:Za}(a:fp s.c=true)(c:fp t.c=true):(Ef s t).ω (decide (fC s t=0)):=by
 unfold Ef fC;by_cases h:s.m=t.m
 .simp only[ą h];exact⟨_,TV a c,rfl⟩
 simp only[ā h];show false=_;have:¬Ü s.m t.m=0:=λe=>h (uh e);simp[this]
theorem LM:∀{p q:Ŀ Za},ê p q=0->p.length=q.length
 |[],[],_=>rfl
 |[],_::_,h=>by simp[ê]at h
 |_::_,[],h=>by simp[ê]at h
 |s::p,t::q,h=>by
  simp only[ê]at h;split at h
  .simp[LM h]
  rename_i h';exact absurd h h'
theorem Fp{p q:Ŀ Za}(hp:Ò p=true)(f:Ò q=true):(ZV p q).ω (decide (ê p q=0)):=by
 have j:=vr hp;have l:=vr f;refine⟨decide (ê p q=0),?_,rfl⟩;unfold ZD;by_cases i:p.length=q.length
 .refine Cq.wp.no ŉ ?_;refine(ZK p q 0).mono (p:=λo=>match o with|.inl v=>v=decide (ê p q=0)|.inr ()=>ê p q=0) (λo h=>?_) (Cq.Zn p.length (λk s=>s=(k:Int)/\k<=p.length/\ê p q=ê (p.drop k) (q.drop k)) ?_ ?_ ⟨rfl,Ĝ _,rfl⟩)
  .match o,h with
   |.inl v,h=>exact h
   |.inr (),h=>show true=_;rw[ă h]
  .rintro k s d ⟨rfl,g,h3⟩;have a:k<q.length:=ŉ;refine Cq.wp.yes ŉ ⟨_,Λ d,_,Λ a,_,Zwq (tF hp d) (tF f a),?_⟩;have c:=Fx p q d a;by_cases e:fC p[k] q[k]=0
   .rw[ą e]at c;rw[ă e];exact⟨χ ŉ,ŉ,h3.trans c⟩
   rw[ā e]at c;rw[Ĉ e];show false=_;rw[h3,c,Ĉ e]
  rintro s ⟨rfl,g,h3⟩;refine Cq.wp.no ŉ ?_;show ê p q=0;rw[h3,Ĺ (Ċ _),Ĺ ŉ];rfl
 refine Cq.wp.yes ŉ ?_;show false=_;rw[Ĉ (λh=>i (LM h))]
theorem Zyc:(á 0 100 λn=>match(tV (u64.wrap n)).ev 30 with|some v=>decide (0<=v/\v<1000000)|none=>false)=true:=by decide +kernel
theorem TJ{n:Nat}(h:n<=100):∃v,(tV (u64.wrap (n:Int))).ω v/\0<=v/\v<1000000:=by
 have:=Zs Zyc (show(0:Int)<=(n:Int) by omega) (show(n:Int)<=100 by omega);cases a:(tV (u64.wrap (n:Int))).ev 30 with
 |none=>rw[a]at this;cases this
 |some v=>rw[a]at this;exact⟨v,Cq.ω.mj 30 a,Ĥ this⟩
end Go.EL

namespace Go.EL
open Go.IntKind (i8 i16 i32 i64 u8 u16 u32 u64)
open Go Go.RowKit
structure ix (t:Za):Prop where
 c:∃c:Int,t.c=ü c/\c≠0/\-12<=c/\c<=12
 m:Ok t.m
structure ψ (p:Ŀ Za):Prop where
 ord:p.Pairwise λx y=>0<Ü x.m y.m
 tm:∀t∈p,ix t
 len:p.length<=100
theorem ix.rv{t:Za}(h:ix t):(ug t.c).ω true:=by obtain⟨⟨c,e,a,d,h2⟩,_⟩:=h;have:=Zs ZxK (x:=c) ŉ ŉ;rw[e];exact Zu (by simpa[a]using this)
theorem ix.rs{t:Za}(h:ix t):∃s,(oO t.c).ω s/\s≠0:=by obtain⟨⟨c,e,a,d,h2⟩,_⟩:=h;have:=Zs F6 (x:=c) ŉ ŉ;rw[e];exact⟨_,Zu this,by split<;>omega⟩
theorem ix.pv{t:Za}(h:ix t):(Z0 t.c).ω true:=by obtain⟨⟨c,e,a,d,h2⟩,_⟩:=h;have:=Zs Zv5 (x:=c) ŉ ŉ;rw[e];exact Zu (by simpa[a]using this)
theorem ix.ps{t:Za}(h:ix t):∃s,(ZI t.c).ω s/\s≠0:=by
 obtain⟨⟨c,e,a,d,h2⟩,_⟩:=h;have:=Zs Tl (x:=c) ŉ ŉ;rw[e];refine⟨_,Zu (by simpa[a]using this),?_⟩;split<;>first|omega|(split<;>omega)
theorem ψ.at{p:Ŀ Za}(h:ψ p){k:Nat}(a:k<p.length):ix p[k]:=h.tm _ (Ă a)
theorem ψ.step{p:Ŀ Za}(h:ψ p){k:Nat}(a:k+1<p.length):0<Ü p[k].m p[k+1].m:=Ī.1 h.ord k (k+1) ŉ a ŉ
theorem As{p:Ŀ Za}(h:ψ p):(A5 p).ω true:=by
 have i:=h.len;refine Cq.Zn p.length (λk s=>s=(k:Int)) (λk s a c=>?_) (λs c=>?_) rfl
 .subst c;have d:=h.at a;obtain⟨s,e,h2⟩:=d.rs;rw[Cq.Zm,ą ŉ];refine⟨p[k],Λ a,true,d.rv,p[k],Λ a,s,e,?_⟩;rw[Cq.Zm,ā h2];refine⟨p[k],Λ a,true,Ql d.m,?_⟩;rw[Cq.Zm,ā ĳ];show(J0 p (k:Int)).wp _;unfold J0;rw[Cq.Zm];split
  .rename_i g;obtain⟨j,rfl⟩:∃j,k=j+1:=⟨k-1,ŉ⟩;have f:i64.wrap (((j+1:Nat):Int)-1)=(j:Int):=by rw[wrap64 ŉ];omega
   rw[f];refine⟨p[j],Λ ŉ,p[j+1],Λ a,_,AA _ _,?_⟩;have:=h.step a;rw[Cq.Zm,ā ŉ];exact χ ŉ
  exact χ ŉ
 subst c;rw[Cq.Zm,ā ŉ];rfl
theorem Eb{p:Ŀ Za}(h:ψ p):(Ap p).ω true:=by
 have i:=h.len;refine Cq.Zn p.length (λk s=>s=(k:Int)) (λk s a c=>?_) (λs c=>?_) rfl
 .subst c;have d:=h.at a;obtain⟨s,e,h2⟩:=d.ps;refine Cq.wp.yes (p:=(k:Int)<(p.length:Int)) ŉ ?_;refine⟨p[k],Λ a,true,d.pv,s,e,?_⟩;rw[Cq.Zm,ā h2];refine⟨true,S0 d.m,?_⟩;rw[Cq.Zm,ā ĳ];show(Jk p (k:Int) p[k]).wp _;unfold Jk;rw[Cq.Zm];split
  .rename_i g;obtain⟨j,rfl⟩:∃j,k=j+1:=⟨k-1,ŉ⟩;have f:i64.wrap (((j+1:Nat):Int)-1)=(j:Int):=by rw[wrap64 ŉ];omega
   rw[f];refine⟨p[j],Λ ŉ,_,JC _ _,?_⟩;have:=h.step a;rw[Cq.Zm,ā ŉ];exact χ ŉ
  exact χ ŉ
 subst c;refine Cq.wp.no (p:=((p.length:Nat):Int)<(p.length:Int)) ŉ ?_;rfl
def ic(p:Ŀ Za):Nat->Int
 |0=>0
 |k+1=>u8.wrap (BitVec.ofInt u8.bits (ic p k) ||| BitVec.ofInt u8.bits (match p[k]? with|some t=>jO t.m|none=>0)).toNat
def ð(p:Ŀ Za):Int:=ic p p.length
def fI(p:Ŀ Za):Nat->Int
 |0=>-1
 |k+1=>match p[k]? with|some t=>if fI p k<fH t.m then fH t.m else fI p k|none=>fI p k
def gi(p:Ŀ Za):Int:=fI p p.length
theorem AH{p:Ŀ Za}(d:p.length<=100):(Bk p).ω (ð p):=by
 refine Cq.Zn p.length (λk s=>s=(ic p k,(k:Int))) (λk s c a=>?_) (λs a=>?_) rfl
 .subst a;refine Cq.wp.yes (p:=(k:Int)<(p.length:Int)) ŉ ?_;refine⟨p[k],Λ c,_,ZmO _,?_⟩;show _=_;rw[χ ŉ];simp only[ic,Ą c]
 subst a;refine Cq.wp.no (p:=((p.length:Nat):Int)<(p.length:Int)) ŉ ?_;rfl
theorem FY{p:Ŀ Za}(d:p.length<=100):(Aw p).ω (ð p):=by
 refine Cq.Zn p.length (λk s=>s=(ic p k,(k:Int))) (λk s c a=>?_) (λs a=>?_) rfl
 .subst a;refine Cq.wp.yes (p:=(k:Int)<(p.length:Int)) ŉ ?_;refine⟨p[k],Λ c,_,ZtP _,?_⟩;show _=_;rw[χ ŉ];simp only[ic,Ą c]
 subst a;refine Cq.wp.no (p:=((p.length:Nat):Int)<(p.length:Int)) ŉ ?_;rfl
theorem wZ{p:Ŀ Za}(h:ψ p):(xj p).ω (gi p):=by
 have d:=h.len;refine Cq.Zn p.length (λk s=>s=(fI p k,(k:Int))) (λk s a c=>?_) (λs c=>?_) rfl
 .subst c;refine Cq.wp.yes (p:=(k:Int)<(p.length:Int)) ŉ ?_;refine⟨p[k],Λ a,_,ZnY (h.at a).m,?_⟩;show _=_;rw[χ ŉ];simp only[fI,Ą a]
 subst c;refine Cq.wp.no (p:=((p.length:Nat):Int)<(p.length:Int)) ŉ ?_;rfl
theorem yK{p:Ŀ Za}(h:ψ p):(xf p).ω (gi p):=by
 have d:=h.len;refine Cq.Zn p.length (λk s=>s=(fI p k,(k:Int))) (λk s a c=>?_) (λs c=>?_) rfl
 .subst c;refine Cq.wp.yes (p:=(k:Int)<(p.length:Int)) ŉ ?_;refine⟨p[k],Λ a,_,Zu7 (h.at a).m,?_⟩;show _=_;rw[χ ŉ];simp only[fI,Ą a]
 subst c;refine Cq.wp.no (p:=((p.length:Nat):Int)<(p.length:Int)) ŉ ?_;rfl
end Go.EL

namespace Go.EL
open Go.IntKind (i8 i16 i32 i64 u8 u16 u32 u64)
open Go Go.RowKit
def Ð(p:Ŀ Za)(n:Int):Bool:=if(Int.fdiv (i64.wrap (ð p)) (2 ^ (min (n).toNat i64.bits)))=0 then decide (gi p<=12)else false
theorem ZnK{p:Ŀ Za}(h:ψ p){n:Int}(a:0<=n):(KJ p n).ω (Ð p n):=by
 refine⟨true,Eb h,_,FY h.len,a,?_⟩;unfold Ð;rw[Cq.Zm];split
 .exact⟨_,yK h,rfl⟩
 rfl
theorem Sh(a:M):∀k:Nat,k<=8->∀i:Fin 8,(Û a k).toNat.testBit i.val=(decide (i.val<k)&&decide (0<a i))
 |0,_,i=>by simp[Û]
 |k+1,g,i=>by
  have f:=Sh a k ŉ i;have c:=A0 a k;have iu:k<8:=ŉ;rw[zw]at c;simp only[Û,ŷ iu];by_cases hi:i.val=k
  .have e:i=⟨k,iu⟩:=abh hi;subst e;by_cases hp:0<a ⟨k,iu⟩
   .rw[ą hp,zw,show(Û a k+((2 ^ k:Nat):Int)).toNat=2 ^ k+(Û a k).toNat by omega,Nat.testBit_two_pow_add_eq,dz ŉ];simp[hp]
   rw[ā hp,aaE];show(Û a k).toNat.testBit k=_;rw[dz ŉ];simp[hp]
  have d:(decide (i.val<k+1))=decide (i.val<k):=by
   by_cases h:i.val<k
   .simp[h,show i.val<k+1 by omega]
   simp[h,show ¬i.val<k+1 by omega]
  rw[d,<-f];by_cases hp:0<a ⟨k,iu⟩
  .rw[ą hp,zw,show(Û a k+((2 ^ k:Nat):Int)).toNat=2 ^ k+(Û a k).toNat by omega];by_cases h:i.val<k
   .rw[Nat.testBit_two_pow_add_gt h]
   rw[dz (x:=(Û a k).toNat) (aaq (by omega:(Û a k).toNat<2 ^ k) (aaQ ŉ ŉ))];refine dz (aaq (by have:=c.2;omega:2 ^ k+(Û a k).toNat<2 ^ (k+1)) (aaQ ŉ ŉ))
  rw[ā hp,aaE]
theorem ZxG(a:M)(i:Fin 8):(jO a).toNat.testBit i.val=decide (0<a i):=by unfold jO;rw[Sh a 8 ŉ];simp[i.isLt]
theorem Ud(a:M):0<=jO a/\jO a<256:=A0 a 8
theorem V0{a b:Nat}(c:a<256)(d:b<256):u8.wrap (BitVec.ofInt u8.bits (a:Int) ||| BitVec.ofInt u8.bits (b:Int)).toNat=((a ||| b:Nat):Int):=by
 have h:(BitVec.ofInt u8.bits (a:Int) ||| BitVec.ofInt u8.bits (b:Int)).toNat=a ||| b:=by rw[BitVec.toNat_or];simp only[IntKind.bits,BitVec.toNat_ofInt];rw[show(((a:Int) % ((2 ^ 8:Nat):Int)).toNat)=a by omega,show(((b:Int) % ((2 ^ 8:Nat):Int)).toNat)=b by omega]
 have h2:a ||| b<256:=Nat.or_lt_two_pow (n:=8) c d
 rw[h];simp only[IntKind.wrap,IntKind.bits,IntKind.signed,Ŷ,Ŝ,aaN];omega
def jP(p:Ŀ Za):Nat->Nat
 |0=>0
 |k+1=>jP p k ||| (match p[k]? with|some t=>(jO t.m).toNat|none=>0)
theorem LY(p:Ŀ Za):∀k,jP p k<256
 |0=>by simp[jP]
 |k+1=>by
  refine Nat.or_lt_two_pow (n:=8) (LY p k) ?_;split
  .rename_i t _;have h:(jO t.m).toNat<256:=by have:=Ud t.m;omega
   exact h
  decide
theorem Sj(p:Ŀ Za):∀k,ic p k=(jP p k:Int)
 |0=>rfl
 |k+1=>by
  have a:=LY p k;unfold ic jP;rw[Sj p k];cases p[k]? with
  |none=>exact V0 (b:=0) a ŉ
  |some t=>
   have h:=Ud t.m;obtain⟨n,c⟩:=aav h.1;show u8.wrap (BitVec.ofInt u8.bits (jP p k:Int) ||| BitVec.ofInt u8.bits (jO t.m)).toNat=((jP p k ||| (jO t.m).toNat:Nat):Int);rw[c];exact V0 a ŉ
theorem Tq(p:Ŀ Za)(i:Fin 8):∀k,(jP p k).testBit i.val=(p.take k).any λt=>decide (0<t.m i)
 |0=>by simp[jP]
 |k+1=>by
  simp only[jP,Nat.testBit_or,Tq p i k];cases h:p[k]? with
  |none=>
   have:p.length<=k:=aaj.1 h;simp[ě this,ě (show p.length<=k+1 by omega)]
  |some t=>
   rw[List.take_add_one,h];simp[ZxG]
theorem Ts(p:Ŀ Za):ð p=(jP p p.length:Int):=Sj p _
theorem Tr(p:Ŀ Za)(i:Fin 8):(ð p).toNat.testBit i.val=p.any λt=>decide (0<t.m i):=by rw[Ts,Ĕ,Tq,ĥ]
theorem uf(p:Ŀ Za):0<=ð p/\ð p<256:=by have:=LY p p.length;rw[Ts];omega
theorem Zyl(u n:Nat):Int.fdiv (u:Int) ((2:Int) ^ n)=((u >>> n:Nat):Int):=by rw[Ű,show((2:Int) ^ n)=((2 ^ n:Nat):Int) by simp,aah _ (Int.natCast_nonneg _)];simp
theorem Zv7(p:Ŀ Za){n:Int}(c:0<=n)(d:n<=8):Int.fdiv (i64.wrap (ð p)) (2 ^ (min (n).toNat i64.bits))=(((ð p).toNat >>> n.toNat:Nat):Int):=by have:=uf p;rw[wrap64 ŉ,show min n.toNat i64.bits=n.toNat by simp only[IntKind.bits];omega];obtain⟨u,a⟩:=aav this.1;rw[a];exact Zyl u _
theorem SH(p:Ŀ Za)(d:Int)(c:-1<=d):∀k,k<=p.length->(fI p k<=d↔∀i (h:i<p.length),i<k->fH p[i].m<=d)
 |0,_=>by simp[fI,c]
 |k+1,j=>by
  have f:=SH p d c k ŉ;have iu:k<p.length:=ŉ;simp only[fI,Ą iu];constructor
  .intro h i hi a;by_cases e:i=k
   .subst e;split at h<;>omega
   refine f.1 ?_ i hi ŉ;split at h<;>omega
  intro h;have g:=h k iu ŉ;have h2:=f.2 λi hi a=>h i hi ŉ;split<;>omega
theorem tD{p:Ŀ Za}{d:Int}(a:-1<=d):gi p<=d↔∀t∈p,fH t.m<=d:=by
 unfold gi;rw[SH p d a p.length ŉ];constructor
 .intro h t c;obtain⟨i,hi,rfl⟩:=Ń.1 c;exact h i hi hi
 intro h i hi _;exact h _ (Ă hi)
def lI(n:Nat)(p:Ŀ Za):Prop:=∀t∈p,∀i:Fin 8,n<=i.val->¬0<t.m i
theorem yW{p:Ŀ Za}{n:Nat}:((ð p).toNat >>> n=0)↔lI n p:=by
 have e:=uf p;constructor
 .intro h t a i hi hp;have c:=Tr p i;rw[show(p.any λt=>decide (0<t.m i))=true from dI.2 ⟨t,a,ă hp⟩]at c;have h2:((ð p).toNat >>> n).testBit (i.val-n)=true:=by rw[Nat.testBit_shiftRight,show n+(i.val-n)=i.val by omega];exact c
  rw[h]at h2;simp at h2
 intro h;refine Nat.eq_of_testBit_eq λj=>?_;rw[Nat.testBit_shiftRight,Nat.zero_testBit];by_cases d:n+j<8
 .rw[Tr p ⟨n+j,d⟩];refine List.any_eq_false.2 λt a=>?_;simp only[Ě];exact h t a _ ß
 exact dz (aaq (show(ð p).toNat<2 ^ 8 by omega) (aaQ ŉ ŉ))
theorem pI{p:Ŀ Za}{n:Nat}(a:n<=8):Ð p (n:Int)=true↔lI n p/\∀t∈p,fH t.m<=12:=by
 unfold Ð;rw[Zv7 p ŉ ŉ,Ĕ];by_cases h:(ð p).toNat >>> n=0
 .rw[ą (by rw[h];rfl),Ě,tD ŉ];exact⟨λk=>⟨yW.1 h,k⟩,λk=>k.2⟩
 rw[ā ŉ];exact⟨λk=>absurd k ĳ,λk=>absurd (yW.2 k.1) h⟩
end Go.EL

namespace Go.EL
open Go.IntKind (i8 i16 i32 i64 u8 u16 u32 u64)
open Go Go.RowKit
def jt(r:Zf):Int:=if r.num.neg=true then -(r.num.υ.headD 0)else r.num.υ.headD 0
theorem Lt(c:Int):jt (ü c)=c:=by
 unfold jt ü;by_cases h:c<0
 .simp[h,show ¬c=0 by omega];omega
 by_cases a:c=0
 .simp[a]
 simp[h,a];omega
def gd:Ŀ Za->Za->Ŀ Za
 |[],t=>[t]
 |x::xs,t=>if 0<Ü x.m t.m then x::gd xs t else if Ü x.m t.m<0 then t::x::xs else if jt x.c+jt t.c=0 then xs else⟨ü (jt x.c+jt t.c),x.m⟩::xs
theorem RN:∀(p:Ŀ Za) (t:Za),(gd p t).length<=p.length+1
 |[],_=>by simp[gd]
 |x::xs,t=>by
  have a:=RN xs t;simp only[gd];split
  .simp;omega
  split
  .simp
  split<;>simp;omega
theorem Lf:∀(k:Nat) (p:Ŀ Za) (t:Za),k<=p.length->(∀x∈p.take k,0<Ü x.m t.m)->gd p t=p.take k++gd (p.drop k) t
 |0,p,t,_,_=>by simp
 |k+1,[],t,h,_=>by simp at h
 |k+1,x::xs,t,h,a=>by have c:0<Ü x.m t.m:=a x ß;rw[gd,ą c,Lf k xs t (by simpa using h) (λy d=>a y (by simp[d]))];simp
def wT(p:Ŀ Za)(t:Za):Prop:=∀x∈p,x.m=t.m->∃a b,x.c=ü a/\t.c=ü b/\-12<=a/\a<=12/\-3<=b/\b<=3
theorem Zyx{p:Ŀ Za}{t x:Za}(h:wT p t)(i:x∈p)(g:x.m=t.m):(vE x.c t.c).ω (ü (jt x.c+jt t.c))/\∃s,(oO (ü (jt x.c+jt t.c))).ω s/\(s=0↔jt x.c+jt t.c=0):=by
 obtain⟨a,b,c,d,e,h2,h3,f⟩:=h x i g;rw[c,d,Lt,Lt];have j:=Zs (Zs Zzt e h2) h3 f;have k2:=Zs F6 (x:=a+b) ŉ ŉ;refine⟨Zu j,_,Zu k2,?_⟩;split
 .omega
 split<;>omega
theorem Ztm{p:Ŀ Za}(d:p.length<=100):(Bx p []).ω p:=by
 show(Cq.next _ _).wp _;refine Cq.Zn p.length (λk s=>s=(p.take k,(k:Int),0)) (λk s c a=>?_) (λs a=>?_) ß
 .subst a;refine Cq.wp.yes (p:=(k:Int)<(p.length:Int)) ŉ ?_;unfold xi;rw[Cq.Zm,ą ß];unfold vu;rw[Cq.Zm,ą rfl];refine⟨p[k],Λ c,by simp[small];omega,?_⟩;show _=_;rw[χ ŉ,Ţ c]
 subst a;show(if((p.length:Nat):Int)<(p.length:Int)then _ else _:Cq _).wp _;rw[Cq.Zm,ā ŉ,Cq.Zm,ā ß];exact ĥ
theorem RA{p:Ŀ Za}{t:Za}(y:p.length<=100)(u:wT p t):(Bx p [t]).ω (gd p t):=by
 show(Cq.next _ _).wp _;refine Cq.Mb (λs=>(∃i:Nat,i<=p.length/\s=(p.take i,(i:Int),0)/\∀x∈p.take i,0<Ü x.m t.m)\/(∃i:Nat,∃f:Ŀ Za,i<=p.length/\s=(f,(i:Int),1)/\f++p.drop i=gd p t/\f.length<=i+1))
  (λs=>(p.length-s.2.1.toNat)+(1-s.2.2.toNat)) (λs v=>?_) _ (.inl ⟨0,ŉ,ß,ß⟩)
 have m:i64.wrap 1=1:=ĳ;rcases v with ⟨i,hi,rfl,k⟩|⟨i,f,hi,rfl,l,q⟩
 .by_cases a:i<p.length
  .refine Cq.wp.yes (p:=(i:Int)<(p.length:Int)) ŉ ?_;unfold xi;rw[Cq.Zm,ā ß,Cq.Zm,ą ŉ];refine⟨p[i],Λ a,t,⟨ŉ,rfl⟩,_,AA _ _,?_⟩;unfold vu;rw[Cq.Zm];have d:gd p t=p.take i++gd (p.drop i) t:=Lf i p t hi k;have c:p.drop i=p[i]::p.drop (i+1):=į a;by_cases g:0<Ü p[i].m t.m
   .rw[ą (ă g)];refine⟨p[i],Λ a,by simp[small];omega,?_⟩;rw[χ ŉ,Ţ a];refine⟨.inl ⟨i+1,ŉ,rfl,λx qe=>?_⟩,ab0⟩;rw[<-Ţ a]at qe;rcases Ħ.1 qe with h|h
    .exact k x h
    rw[đ]at h;subst h;exact g
   rw[ā (by simpa using g)];show(AT p [t] 0 (p.take i) (i:Int)).wp _;unfold AT;rw[Cq.Zm,ā ŉ];refine⟨p[i],Λ a,t,⟨ŉ,rfl⟩,_,AA _ _,?_⟩;unfold AS;rw[Cq.Zm];by_cases e:Ü p[i].m t.m<0
   .rw[ą (ă e)];refine⟨t,⟨ŉ,rfl⟩,by simp[small];omega,?_⟩;refine⟨.inr ⟨i,_,hi,rfl,?_,ab0⟩,by simp[m]⟩;rw[d,c,gd,ā g,ą e];simp
   rw[ā (by simpa using e)];have r:p[i].m=t.m:=uh ŉ;obtain⟨n,s,h2,h3⟩:=Zyx u (Ă a) r;unfold KC;refine⟨p[i],Λ a,t,⟨ŉ,rfl⟩,_,n,s,h2,?_⟩;rw[Cq.Zm];by_cases j:jt p[i].c+jt t.c=0
   .rw[ā (by simpa using h3.2 j)];rw[χ ŉ];refine⟨.inr ⟨i+1,_,ŉ,rfl,?_,ab0⟩,ab0⟩;rw[d,c,gd,ā g,ā e,ą j]
   rw[ą (λh=>j (h3.1 h))];refine⟨p[i],Λ a,by simp[small];omega,?_⟩;rw[χ ŉ];refine⟨.inr ⟨i+1,_,ŉ,rfl,?_,ab0⟩,ab0⟩;rw[d,c,gd,ā g,ā e,ā j];simp
  obtain rfl:i=p.length:=ŉ;show(if((p.length:Nat):Int)<(p.length:Int)then _ else _:Cq _).wp _;rw[Cq.Zm,ā ŉ,Cq.Zm,ą ß];unfold xi;rw[Cq.Zm,ā ß,Cq.Zm,ā ŉ];unfold vu;rw[Cq.Zm,ā ĳ];unfold AT;rw[Cq.Zm,ą rfl];unfold AS;rw[Cq.Zm,ą rfl];refine⟨t,⟨ŉ,rfl⟩,by simp[small];omega,?_⟩;refine⟨.inr ⟨p.length,_,ŉ,rfl,?_,ß⟩,by simp[m]⟩;rw[Lf p.length p t ŉ k,aai];simp[gd]
 by_cases a:i<p.length
 .refine Cq.wp.yes (p:=(i:Int)<(p.length:Int)) ŉ ?_;unfold xi;rw[Cq.Zm,ą ß];unfold vu;rw[Cq.Zm,ą rfl];refine⟨p[i],Λ a,by simp[small];omega,?_⟩;rw[χ ŉ];refine⟨.inr ⟨i+1,_,ŉ,rfl,?_,ab0⟩,ab0⟩;rw[<-l,į a];simp
 obtain rfl:i=p.length:=ŉ;show(if((p.length:Nat):Int)<(p.length:Int)then _ else _:Cq _).wp _;rw[Cq.Zm,ā ŉ,Cq.Zm,ā ß];show _=_;rw[<-l,aai,ę]
end Go.EL

namespace Go.EL
open Go.IntKind (i8 i16 i32 i64 u8 u16 u32 u64)
open Go Go.RowKit
structure Ì (π:M):Prop where
 oI:∀i,0<=π i/\π i<8
 inj:∀i j,π i=π j->i=j
def ep(π m:M):Nat->M
 |0=>λ_=>0
 |k+1=>if h:k<8 then ε (ep π m k) (π ⟨k,h⟩).toNat (m ⟨k,h⟩)else ep π m k
def fx(π m:M):M:=ep π m 8
theorem Td{π:M}(h:Ì π)(m:M):∀k,k<=8->∀i:Fin 8,i.val<k->∀j:Fin 8,(j.val:Int)=π i->ep π m k j=m i
 |0,_,i,hi,_,_=>by omega
 |k+1,f,i,hi,j,c=>by
  have iu:k<8:=ŉ;simp only[ep,ŷ iu,ε];have r:=h.oI ⟨k,iu⟩;by_cases e:i.val=k
  .have:i=⟨k,iu⟩:=abh e;subst this;rw[ą ŉ]
  have d:π i≠π ⟨k,iu⟩:=λa=>e (Ē Fin.val (h.inj _ _ a));rw[ā ŉ];exact Td h m k ŉ i ŉ j c
theorem Rg{π:M}(h:Ì π)(m:M):∀k,k<=8->∀j:Fin 8,(∀i:Fin 8,i.val<k->π i≠(j.val:Int))->ep π m k j=0
 |0,_,_,_=>rfl
 |k+1,c,j,a=>by have iu:k<8:=ŉ;have r:=h.oI ⟨k,iu⟩;have:=a ⟨k,iu⟩ ß;simp only[ep,ŷ iu,ε];rw[ā ŉ];exact Rg h m k ŉ j λi hi=>a i ŉ
theorem LB{π m:M}(a:Ok m):∀k,Ok (ep π m k)
 |0=>λ_=>by simp[ep]
 |k+1=>λj=>by
  simp only[ep];split
  .rename_i c;simp only[ε];split
   .exact a _
   exact LB a k j
  exact LB a k j
theorem T1{π m:M}(a:Ok m):Ok (fx π m):=LB a 8
theorem ue{π:M}(h:Ì π)(m:M)(i j:Fin 8)(a:(j.val:Int)=π i):fx π m j=m i:=Td h m 8 ŉ i i.isLt j a
theorem LA{π:M}(h:Ì π){a b:M}(e:fx π a=fx π b):a=b:=by funext i;have r:=h.oI i;have c:=ue h a i ⟨(π i).toNat,ŉ⟩ ab0;have h2:=ue h b i ⟨(π i).toNat,ŉ⟩ ab0;rw[<-c,<-h2,e]
theorem K4(f:M)(x:Int)(q:Nat):∀k,k<=8->fE (ε f q x) k=fE f k+(if h:q<8 then(if q<k then x-f ⟨q,h⟩else 0)else 0)
 |0,_=>by simp[fE]
 |k+1,d=>by
  have iu:k<8:=ŉ;simp only[fE,ŷ iu,K4 f x q k ŉ,ε];by_cases e:k=q
  .subst e;simp[iu];omega
  rw[ā e];by_cases a:q<8
  .simp only[ŷ a];by_cases c:q<k
   .rw[ą c,ą ŉ];omega
   rw[ā c,ā ŉ];omega
  simp only[dif_neg a];omega
theorem Lk{π:M}(h:Ì π)(m:M):fH (fx π m)=fH m:=by
 have key:∀k,k<=8->fH (ep π m k)=fE m k:=by
  intro k;induction k with
  |zero=>intro _;simp[ep,fH,fE]
  |succ k c=>
   intro e;have iu:k<8:=ŉ;have r:=h.oI ⟨k,iu⟩;have a:(π ⟨k,iu⟩).toNat<8:=ŉ;simp only[ep,ŷ iu,fE];unfold fH at c⊢;rw[K4 _ _ _ 8 ŉ,ŷ a,ą a,c ŉ];have:ep π m k ⟨(π ⟨k,iu⟩).toNat,a⟩=0:=Rg h m k ŉ _ λi hi d=>by
    have:π i=π ⟨k,iu⟩:=by simp at d;omega
    have:=Ē Fin.val (h.inj _ _ this);simp at this;omega
   rw[this];omega
 exact key 8 ŉ
theorem Zxm{π:M}(h:Ì π)(x:Za):(Pv π x (0,λ_=>0)).ω (fx π x.m):=by
 refine Cq.Zn 8 (λk s=>s=((k:Int),ep π x.m k)) (λk s a c=>?_) (λs c=>?_) rfl
 .subst c;have r:=h.oI ⟨k,a⟩;refine Cq.wp.yes (p:=(k:Int)<8) ŉ ?_;refine⟨ŉ,ŉ,by rw[Õ a];exact r,?_⟩;show _=_;rw[χ ŉ,Õ a,Õ a];simp only[ep,ŷ a]
 subst c;refine Cq.wp.no (p:=((8:Nat):Int)<8) ŉ ?_;rfl
theorem ZvY{π:M}(h:Ì π){p:Ŀ Za}{k:Nat}(d:k<p.length):(P0 p π (k:Int) (0,λ_=>0)).ω (fx π p[k].m):=by
 refine Cq.Zn 8 (λj s=>s=((j:Int),ep π p[k].m j)) (λj s a c=>?_) (λs c=>?_) rfl
 .subst c;have r:=h.oI ⟨j,a⟩;refine Cq.wp.yes (p:=(j:Int)<8) ŉ ?_;refine⟨ŉ,p[k],Λ d,ŉ,by rw[Õ a];exact r,?_⟩;show _=_;rw[χ ŉ,Õ a,Õ a];simp only[ep,ŷ a]
 subst c;refine Cq.wp.no (p:=((8:Nat):Int)<8) ŉ ?_;rfl
theorem GC{π:M}(h:Ì π){k:Nat}(a:k<8){c:Fin 8->Bool}(d:∀j,c j=true->∃i:Fin 8,i.val<k/\(j.val:Int)=π i):¬Ζ c (π ⟨k,a⟩)=true:=by
 have r:=h.oI ⟨k,a⟩;rw[zt c (show(π ⟨k,a⟩).toNat<8 by omega)];intro e;obtain⟨i,f,h2⟩:=d _ e;have:π i=π ⟨k,a⟩:=by simp at h2;omega
 have:=Ē Fin.val (h.inj _ _ this);simp at this;omega
theorem FG{π:M}(h:Ì π){k:Nat}(c:k<8){d:Fin 8->Bool}(e:∀j,d j=true->∃i:Fin 8,i.val<k/\(j.val:Int)=π i):∀j,ε d (π ⟨k,c⟩).toNat true j=true->∃i:Fin 8,i.val<k+1/\(j.val:Int)=π i:=by
 intro j a;have r:=h.oI ⟨k,c⟩;simp only[ε]at a;split at a
 .exact⟨⟨k,c⟩,ß,ŉ⟩
 obtain⟨i,f,h2⟩:=e j a;exact⟨i,ŉ,h2⟩
theorem Zk4{π:M}(h:Ì π):(Jn π).ω true:=by
 show(Cq.next _ _).wp _;refine Cq.Zn 8 (λk s=>∃a:Fin 8->Bool,s=((k:Int),a)/\∀j,a j=true->∃i:Fin 8,i.val<k/\(j.val:Int)=π i) (λk s c e=>?_) (λs e=>?_) ⟨_,rfl,λj f=>by cases f⟩
 .obtain⟨a,rfl,d⟩:=e;have r:=h.oI ⟨k,c⟩;refine Cq.wp.yes (p:=(k:Int)<8) ŉ ?_;refine⟨ŉ,?_⟩;rw[Õ c,Cq.Zm,ā ŉ];refine⟨ŉ,?_⟩;rw[Cq.Zm,ā ŉ];refine⟨ŉ,r,?_⟩;rw[Cq.Zm,ā (GC h c d)];refine⟨ŉ,r,?_⟩;rw[χ ŉ];exact⟨_,rfl,FG h c d⟩
 obtain⟨a,rfl,d⟩:=e;refine Cq.wp.no (p:=((8:Nat):Int)<8) ŉ ?_;rfl
end Go.EL

namespace Go.EL
open Go.IntKind (i8 i16 i32 i64 u8 u16 u32 u64)
open Go Go.RowKit
def jl(π:M)(t:Za):Za:=⟨t.c,fx π t.m⟩
def gB(π:M)(l:Ŀ Za):Ŀ Za:=l.foldl (λa t=>gd a (jl π t)) []
def à(π:M)(p:Ŀ Za):Ŀ Za:=gB π p
theorem Zx6{p:Ŀ Za}{t:Za}:(∀x∈p,x.m≠t.m)->(gd p t).Perm (t::p):=by
 induction p with
 |nil=>intro _;exact eH _
 |cons x xs d=>
  intro h;have a:=h x ß;simp only[gd];split
  .exact ((d λy c=>h y (by simp[c])).cons x).trans (List.Perm.swap _ _ _)
  split
  .exact eH _
  exact absurd (uh ŉ) a
theorem ZpX{a b c:M}(d:0<Ü a b)(h2:0<Ü b c):0<Ü a c:=by have e:=tZ a b;have k2:=tZ b c;have k3:=tZ a c;have:=J7 (a:=c) (b:=b) (c:=a) ŉ ŉ (.inl ŉ);omega
abbrev jw(p:Ŀ Za):Prop:=p.Pairwise λx y=>0<Ü x.m y.m
theorem S2{p:Ŀ Za}{t:Za}:jw p->jw (gd p t)/\∀z,(∀x∈p,0<Ü z x.m)->0<Ü z t.m->∀y∈gd p t,0<Ü z y.m:=by
 induction p with
 |nil=>intro _;exact⟨by simp[gd],λz _ h y a=>by simp[gd]at a;subst a;exact h⟩
 |cons x xs l=>
  intro g;obtain⟨e,h2⟩:=ı.1 g;obtain⟨k,i⟩:=l h2;simp only[gd];split
  .rename_i f;refine⟨ı.2 ⟨i _ e f,k⟩,λz c d y a=>?_⟩;rcases Ď.1 a with rfl|a
   .exact c _ ß
   exact i z (λw j=>c w (by simp[j])) d y a
  split
  .rename_i f;have nP:0<Ü t.m x.m:=by have:=tZ x.m t.m;omega
   refine⟨ı.2 ⟨λy a=>?_,g⟩,λz c d y a=>?_⟩
   .rcases Ď.1 a with rfl|a
    .exact nP
    exact ZpX nP (e y a)
   rcases Ď.1 a with rfl|a
   .exact d
   exact c y a
  split
  .exact⟨h2,λz c _ y a=>c y (by simp[a])⟩
  refine⟨ı.2 ⟨e,h2⟩,λz c _ y a=>?_⟩;rcases Ď.1 a with rfl|a
  .exact c x ß
  exact c y (by simp[a])
theorem QV(π:M)(l:Ŀ Za)(t:Za):gB π (l++[t])=gd (gB π l) (jl π t):=by simp[gB,abj]
theorem E8{p:Ŀ Za}(h:jw p):p.Pairwise λx y=>x.m≠y.m:=h.imp λhp e=>by rw[e,A9]at hp;omega
theorem K2{π:M}(h:Ì π){p:Ŀ Za}(d:jw p):∀k,k<=p.length->(gB π (p.take k)).Perm ((p.take k).map (jl π))/\jw (gB π (p.take k))
 |0,_=>by simp[gB]
 |k+1,l=>by
  obtain⟨c,h2⟩:=K2 h d k ŉ;have iu:k<p.length:=ŉ;rw[<-Ţ iu,QV];refine⟨?_,(S2 h2).1⟩;have a:∀x∈gB π (p.take k),x.m≠(jl π p[k]).m:=by intro x g e;obtain⟨y,j,rfl⟩:=ğ.1 (c.mem_iff.1 g);have f:=LA h e;obtain⟨i,hi,rfl⟩:=Ń.1 j;simp only[Č]at hi;rw[aag]at f;exact Ī.1 (E8 d) i k ŉ iu ŉ f
  refine(Zx6 a).trans ?_;rw[Ĭ];exact(c.cons _).trans (List.perm_append_comm (l₁:=[jl π p[k]]))
theorem rk{π:M}(h:Ì π){p:Ŀ Za}(a:jw p):(à π p).Perm (p.map (jl π))/\jw (à π p):=by have:=K2 h a p.length ŉ;rwa [ĥ]at this
theorem oQ{π:M}(h:Ì π){p:Ŀ Za}(hp:ψ p):ψ (à π p):=by obtain⟨a,h2⟩:=rk h hp.ord;refine⟨h2,λt d=>?_,by rw[a.length_eq,ć];exact hp.len⟩;obtain⟨y,c,rfl⟩:=ğ.1 (a.mem_iff.1 d);exact⟨(hp.tm y c).c,T1 (hp.tm y c).m⟩
theorem Jw{π:M}(h:Ì π){p:Ŀ Za}(hp:ψ p):(AB p π).ω (à π p,0):=by
 have l:=hp.len;refine⟨true,Zk4 h,?_⟩;show(Cq.next _ _).wp _;refine Cq.Zn p.length (λk s=>s=(gB π (p.take k),(k:Int))) (λk s a c=>?_) (λs c=>?_) (by simp[gB])
 .subst c;obtain⟨d,h2⟩:=K2 h hp.ord k ŉ;refine Cq.wp.yes (p:=(k:Int)<(p.length:Int)) ŉ ?_;refine(ZvY h a).then ?_;refine⟨p[k],Λ a,_,RA (by rw[d.length_eq,ć,Č];omega) (λx g e=>?_),?_⟩
  .obtain⟨y,j,rfl⟩:=ğ.1 (d.mem_iff.1 g);have f:=LA h e;obtain⟨i,hi,rfl⟩:=Ń.1 j;simp only[Č]at hi;rw[aag]at f;exact absurd f (Ī.1 (E8 hp.ord) i k ŉ a ŉ)
  show _=_;rw[χ ŉ,<-Ţ a,QV];rfl
 subst c;refine Cq.wp.no (p:=((p.length:Nat):Int)<(p.length:Int)) ŉ ?_;show _=_;rw[ĥ];rfl
end Go.EL

namespace Go.EL
open Go.IntKind (i8 i16 i32 i64 u8 u16 u32 u64)
open Go Go.RowKit
theorem Zz3:(á 0 100 λn=>match(tV (u64.wrap n)).ev 30 with|some v=>decide (0<=v/\v<1000000)|none=>false)=true:=by decide +kernel
theorem Zz4{n:Nat}(h:n<=100):∃v,(tV (u64.wrap (n:Int))).ω v/\0<=v/\v<1000000:=by
 have:=Zs Zz3 (x:=(n:Int)) ŉ ŉ;split at this
 .rename_i v a;have:=Ĥ this;exact⟨v,Cq.ω.mj 30 a,this.1,this.2⟩
 cases this
theorem ZzC{p:Ŀ Za}(h:jw p){x y:Za}(d:x∈p)(f:y∈p)(e:x.m=y.m):x=y:=by
 obtain⟨i,hi,rfl⟩:=Ń.1 d;obtain⟨j,c,rfl⟩:=Ń.1 f;have key:=Ī.1 (E8 h);rcases aay i j with a|a|a
 .exact absurd e (key i j hi c a)
 .subst a;rfl
 exact absurd e.symm (key j i c hi a)
theorem SI{p:Ŀ Za}(h:jw p):p.Pairwise λx y=>¬Ü x.m y.m<0:=h.imp λhp=>by omega
theorem Sg{p ys:Ŀ Za}(c:jw p)(hp:ys.Perm p)(f:ys.Pairwise λx y=>¬Ü x.m y.m<0):ys=p:=
 abp (le:=λx y:Za=>¬Ü x.m y.m<0) (λa b d e g h2=>by
  have:=tZ a.m b.m;exact ZzC c (hp.mem_iff.1 d) e (uh ŉ)) f (SI c) hp
theorem ZrB{p l:Ŀ Za}(c:jw p)(f:p.length<=100)(hp:l.Perm p):(ZL l).ω p:=by have e:=hp.length_eq;obtain⟨v,a,h2,h3⟩:=Zz4 (n:=l.length) ŉ;refine⟨v,a,p,?_,rfl⟩;refine⟨⟨rfl,rfl,⟨h2,h3⟩,ŉ⟩,λys ⟨d,k2⟩=>?_⟩;exact Sg c (d.trans hp) k2
def kX(q:M×Zf):Za:=⟨q.2,q.1⟩
theorem Zv9{p:Ŀ Za}(hp:ψ p){D:Ŀ (M×Zf)}(j:(D.map kX).Perm p):(Jp D).ω p:=by
 have l:=hp.len;have e:=j.length_eq;rw[ć]at e;refine⟨⟨ŉ,ŉ⟩,?_⟩;show(Cq.next _ _).wp _;refine Cq.Mb (λs=>(s.1++s.2.map kX).Perm p) (λs=>s.2.length) (λs d=>?_) _ (by simpa using j);obtain⟨rv,R⟩:=s;simp only at d;have c:=d.length_eq;simp only[Ā,ć]at c;refine⟨λi=>?_,λg q h i=>?_⟩
 .subst i;rw[Ŕ,ę]at d;exact⟨_,ZrB hp.ord l d,rfl⟩
 subst i;have f:kX q∈p:=d.mem_iff.1 ß;obtain⟨s,k,h2⟩:=(hp.tm _ f).ps;refine⟨s,k,?_⟩;rw[Cq.Zm,ą h2];simp only[Ā,Ę]at c;refine⟨by simp[small];omega,?_,?_⟩
 .refine List.Perm.trans ?_ d;simp only[Ĭ,ġ,ď,List.singleton_append];refine List.Perm.append_left rv ?_;exact(List.perm_middle (a:=kX q) (l₁:=g.map kX) (l₂:=h.map kX)).symm
 show(g++h).length<(g++q::h).length;simp
theorem ZBv{m:M}(h:Ok m):∀i,(Lit.int i64 (m i)).wf=true:=λi=>by have:=h i;simp only[Lit.wf,ĉ,Ě];exact⟨aab ĳ this.1,aab this.2 ĳ⟩
def sN(π:M)(t:Za):M×Zf:=(fx π t.m,t.c)
theorem Rs{π:M}(h:Ì π){p:Ŀ Za}(hp:ψ p):(Ee p π).ω (à π p,0):=by
 have u:=hp.len;show(Cq.next _ _).wp _;refine Cq.Zn 8 (λk s=>∃f:Fin 8->Bool,s=((k:Int),f)/\∀j,f j=true->∃i:Fin 8,i.val<k/\(j.val:Int)=π i) (λk s a d=>?_) (λs d=>?_) ⟨_,rfl,λj m=>by cases m⟩
 .obtain⟨f,rfl,g⟩:=d;have r:=h.oI ⟨k,a⟩;refine Cq.wp.yes (p:=(k:Int)<8) ŉ ?_;refine⟨ŉ,?_⟩;rw[Õ a,Cq.Zm,ā ŉ,Cq.Zm,ā ŉ];refine⟨r,?_⟩;rw[Cq.Zm,ā (GC h a g)];refine⟨r,?_⟩;rw[χ ŉ];exact⟨_,rfl,FG h a g⟩
 obtain⟨f,rfl,g⟩:=d;refine Cq.wp.no (p:=((8:Nat):Int)<8) ŉ ?_;show(Pt p π).wp _;show(Cq.next _ _).wp _;refine Cq.Zn p.length (λk s=>s=((k:Int),(p.take k).map (sN π))) (λk s a d=>?_) (λs d=>?_) ß
 .subst d;refine Cq.wp.yes (p:=(k:Int)<(p.length:Int)) ŉ ?_;refine⟨p[k],Λ a,?_⟩;refine(Zxm h p[k]).then ?_;have c:eV ((p.take k).map (sN π)) (fx π p[k].m) p[k].c=(p.take (k+1)).map (sN π):=by
   rw[Gg,<-Ţ a,Ĭ]
   .rfl
   intro q n e;obtain⟨y,t,rfl⟩:=ğ.1 n;have l:=LA h e;obtain⟨i,hi,rfl⟩:=Ń.1 t;simp only[Č]at hi;rw[aag]at l;exact Ī.1 (E8 hp.ord) i k ŉ a ŉ l
  refine⟨⟨ZBv (T1 (hp.at a).m),?_⟩,?_⟩
  .rw[c,ć,Č];simp only[small];omega
  show _=_;rw[c,χ ŉ]
 subst d;refine Cq.wp.no (p:=((p.length:Nat):Int)<(p.length:Int)) ŉ ?_;refine⟨à π p,Zv9 (oQ h hp) ?_,rfl⟩;rw[ĥ,aac];exact(rk h hp.ord).1.symm
end Go.EL

namespace Go.EL
open Go.IntKind (i8 i16 i32 i64 u8 u16 u32 u64)
open Go Go.RowKit
theorem Tt{n:Int}(a:-8<=n)(h2:n<=8):(ZY n).ω (ü n):=Zu (Zs ZxO a h2)
theorem mul_zero(m:M):mulM (λ_=>0) m=m:=by funext i;simp[mulM]
theorem Zws{c:Int}(g:-3<=c)(h2:c<=3){m:M}(f:Ok m):(Lp (ü c) [⟨ü 1,m⟩]).ω (if c=0 then[]else[⟨ü c,m⟩]):=by
 have d:=Zu (Zs F6 (x:=c) ŉ ŉ);by_cases e:c=0
 .subst e;rw[ą rfl];refine⟨([],0),⟨_,d,?_⟩,rfl⟩;rw[Cq.Zm,ą ĳ];rfl
 rw[ā e];refine⟨([⟨ü c,m⟩],0),⟨_,d,?_⟩,rfl⟩;rw[Cq.Zm,ā (by split<;>first|omega|(split<;>omega))];show(Cq.next _ _).wp _;refine Cq.Zn 1 (λk s=>s=((if k=0 then[]else[⟨ü c,m⟩]),(k:Int))) (λk s i d=>?_) (λs d=>?_) rfl
 .obtain rfl:k=0:=ŉ;subst d;refine⟨⟨ü 1,m⟩,⟨ŉ,rfl⟩,(m,0),?_,?_⟩
  .have:=Rw (a:=λ_=>0) (b:=m) (λ_=>⟨ŝ 0,show(0:Int)<=65535 by decide⟩) f (by rw[mul_zero];exact f);rwa [mul_zero]at this
  rw[Cq.Zm,ā (λh=>h rfl)];exact⟨⟨ü 1,m⟩,⟨ŉ,rfl⟩,_,Zu (Zs Zz9 g h2),by simp[small],rfl⟩
 subst d;rfl
def jf(x:Zw):Prop:=∀v∈x.t,∀j:Fin 5,-128<=v j/\v j<=127
structure gP (K:Int) (n:Nat) (d:Int) (k:Nat) (p:Ŀ Za):Prop where
 ord:jw p
 BU:∀t∈p,∃c:Int,t.c=ü c/\c≠0/\-K<=c/\c<=K
 yl:∀t∈p,(∀i,0<=t.m i)/\(∀i:Fin 8,n<=i.val->t.m i=0)/\fH t.m<=d
 len:p.length<=k
theorem LZ{m:M}(h:∀i,0<=m i):∀k,k<=8->0<=fE m k/\∀i:Fin 8,i.val<k->m i<=fE m k
 |0,_=>by simp[fE]
 |k+1,c=>by
  obtain⟨a,h2⟩:=LZ h k ŉ;have iu:k<8:=ŉ;have:=h ⟨k,iu⟩;simp only[fE,ŷ iu];refine⟨ŉ,λi hi=>?_⟩;by_cases e:i.val=k
  .have:i=⟨k,iu⟩:=abh e;subst this;omega
  have:=h2 i ŉ;omega
theorem SM{m:M}(h:∀i,0<=m i){d:Int}(a:fH m<=d)(h2:d<=65535):Ok m:=λi=>by have:=(LZ h 8 ŉ).2 i i.isLt;unfold fH at a;exact⟨h i,ŉ⟩
theorem gP.hU{K:Int}{n:Nat}{d:Int}{k:Nat}{p:Ŀ Za}(h:gP K n d k p)(i:K<=12)(j:d<=100)(l:k<=100):ψ p:=
 ⟨h.ord,λt a=>⟨by obtain⟨c,e,f,g,h2⟩:=h.BU t a;exact⟨c,e,f,ŉ,ŉ⟩,SM (h.yl t a).1 (h.yl t a).2.2 ŉ⟩,by have:=h.len;omega⟩
theorem TH{p:Ŀ Za}{t y:Za}:y∈gd p t->y∈p\/y=t\/∃x∈p,x.m=t.m/\jt x.c+jt t.c≠0/\y=⟨ü (jt x.c+jt t.c),x.m⟩:=by
 induction p with
 |nil=>intro h;simp[gd]at h;exact .inr (.inl h)
 |cons x xs e=>
  intro h;simp only[gd]at h;split at h
  .rcases Ď.1 h with rfl|h
   .exact .inl ß
   rcases e h with h|h|⟨z,c,h2⟩
   .exact .inl (by simp[h])
   .exact .inr (.inl h)
   exact .inr (.inr ⟨z,by simp[c],h2⟩)
  split at h
  .rcases Ď.1 h with rfl|h
   .exact .inr (.inl rfl)
   exact .inl h
  have d:x.m=t.m:=uh ŉ;split at h
  .exact .inl (by simp[h])
  rename_i a;rcases Ď.1 h with rfl|h
  .exact .inr (.inr ⟨x,ß,d,a,rfl⟩)
  exact .inl (by simp[h])
theorem gP.add{K:Int}{n:Nat}{d:Int}{k:Nat}{p:Ŀ Za}(h:gP K n d k p){c:Int}{m:M}(y:0<=K)(r:c≠0)(v:-3<=c)(h2:c<=3)(s:(∀i,0<=m i)/\(∀i:Fin 8,n<=i.val->m i=0)/\fH m<=d):
  gP (K+3) n d (k+1) (gd p ⟨ü c,m⟩):=by
 refine⟨(S2 h.ord).1,λt g=>?_,λt g=>?_,by have:=RN p ⟨ü c,m⟩;have:=h.len;omega⟩
 .rcases TH g with g|rfl|⟨x,j,l,f,rfl⟩
  .obtain⟨a,e,q,u,k2⟩:=h.BU t g
   exact⟨a,e,q,ŉ,ŉ⟩
  .exact⟨c,rfl,r,ŉ,ŉ⟩
  obtain⟨a,e,q,u,k2⟩:=h.BU x j
  simp only[Lt,e]at f⊢
  exact⟨a+c,rfl,f,ŉ,ŉ⟩
 rcases TH g with g|rfl|⟨x,j,l,f,rfl⟩
 .exact h.yl t g
 .exact s
 exact h.yl x j
theorem gP.grow{K K':Int}{n:Nat}{d:Int}{k k':Nat}{p:Ŀ Za}(h:gP K n d k p)(g:K<=K')(h2:k<=k'):gP K' n d k' p:=
 ⟨h.ord,λt c=>by obtain⟨a,e,f,i,k2⟩:=h.BU t c;exact⟨a,e,f,ŉ,ŉ⟩,h.yl,by have:=h.len;omega⟩
theorem gP.Ov{K:Int}{n:Nat}{d:Int}{k:Nat}{p:Ŀ Za}(h:gP K n d k p)(i:K<=12){c:Int}{m:M}(f:-3<=c)(h2:c<=3):wT p ⟨ü c,m⟩:=λx g _=>by obtain⟨a,e,j,l,k2⟩:=h.BU x g;exact⟨a,c,e,rfl,ŉ,ŉ,f,h2⟩
def n0(n:Int):Int:=if n<0 then -n else n
theorem Zzs{n:Int}(a:-128<=n)(h2:n<=127):(Gt n).ω (n0 n):=by
 unfold Gt n0;by_cases h:n<0
 .rw[ą h,ą h];show _=_;simp(disch:=omega) only[wrap64];omega
 rw[ā h,ā h];exact wrap64 ŉ
theorem Bw{a b:Int}(c:0<=a)(d:0<b):0<=Int.tmod a b/\Int.tmod a b<b:=by rw[ŏ c];exact⟨abG _ ŉ,Int.emod_lt_of_pos _ d⟩
theorem DQ{a:Int}(c:-128<=a)(h2:a<=127):-3<=Int.tmod a 4/\Int.tmod a 4<=3:=by
 by_cases h:0<=a
 .have:=Bw (b:=4) h ŉ;omega
 have:=Bw (a:=-a) (b:=4) ŉ ŉ;rw[Int.neg_tmod]at this;omega
def gm(v:Fin 5->Int)(d:Int):Nat->Int×M
 |0=>(d,λ_=>0)
 |j+1=>((gm v d j).1-Int.tmod (n0 (Ζ v ((j+1:Nat):Int))) ((gm v d j).1+1),ε (gm v d j).2 j (Int.tmod (n0 (Ζ v ((j+1:Nat):Int))) ((gm v d j).1+1)))
theorem LS{v:Fin 5->Int}{d:Int}(a:0<=d):∀j,j<=4->0<=(gm v d j).1/\(∀i,0<=(gm v d j).2 i)/\(∀i:Fin 8,j<=i.val->(gm v d j).2 i=0)/\fH (gm v d j).2+(gm v d j).1=d
 |0,_=>⟨a,λ_=>ŝ 0,λ_ _=>rfl,by simp[gm,fH,fE]⟩
 |j+1,h=>by
  obtain⟨g,c,h2,h3⟩:=LS (v:=v) a j ŉ;have e:0<=n0 (Ζ v ((j+1:Nat):Int)):=by unfold n0;split<;>omega
  have f:=Bw e (show 0<(gm v d j).1+1 by omega);simp only[gm];refine⟨ŉ,λi=>?_,λi hi=>?_,?_⟩
  .simp only[ε];split
   .exact f.1
   exact c i
  .simp only[ε];rw[ā ŉ];exact h2 i ŉ
  unfold fH at h3⊢;rw[K4 _ _ _ 8 ŉ,ŷ ŉ,ą ŉ,h2 _ ß];omega
def q0(v:Fin 5->Int)(d:Int)(n:Nat):M:=(gm v d n).2
theorem U2{v:Fin 5->Int}{d:Int}(c:0<=d){n:Nat}(e:n<=4):(∀i,0<=q0 v d n i)/\(∀i:Fin 8,n<=i.val->q0 v d n i=0)/\fH (q0 v d n)<=d:=by obtain⟨f,a,h2,h3⟩:=LS (v:=v) c n e;exact⟨a,h2,by unfold q0;omega⟩
theorem Zwf{x:Zw}(t:jf x){n:Nat}(D:n<=4){d:Int}(c:0<=d)(A:d<=100){k:Nat}(m:k<x.t.length):
  (RC x (n:Int) (k:Int) (d,0,λ_=>0)).ω (q0 x.t[k] d n):=by
 refine Cq.Zn n (λj s=>s=((gm x.t[k] d j).1,(j:Int),(gm x.t[k] d j).2)) (λj s B g=>?_) (λs g=>?_) rfl
 .subst g
  obtain⟨u,q,h2,h3⟩:=LS (v:=x.t[k]) c j ŉ
  have y:=(LZ q 8 ŉ).1
  have f:j<8:=ŉ
  have hr:=t _ (Ă m)
  show(if(j:Int)<(n:Int)then _ else _:Cq _).wp _
  rw[Cq.Zm,ą ŉ,Cq.Zm,ą ŉ]
  have r:i64.wrap (1+(j:Int))=((j+1:Nat):Int):=by rw[wrap64 ŉ];omega
  have i:i64.wrap ((gm x.t[k] d j).1+1)=(gm x.t[k] d j).1+1:=wrap64 (by unfold fH at h3;omega)
  rw[r,i]
  have l:Ζ x.t[k] ((j+1:Nat):Int)=x.t[k] ⟨j+1,ŉ⟩:=zt _ ab0
  have C:=Bw (a:=n0 (Ζ x.t[k] ((j+1:Nat):Int))) (b:=(gm x.t[k] d j).1+1) (by unfold n0;split<;>omega) ŉ
  refine⟨x.t[k],Λ m,ŉ,_,Zzs (by rw[l];exact(hr _).1) (by rw[l];exact(hr _).2),ŉ,ŉ,ŉ,?_⟩
  show _=_
  have h:∀e:Int,Ζ (ε (gm x.t[k] d j).2 (j:Int).toNat e) (j:Int)=e:=λe=>by rw[Õ f];simp[ε]
  rw[h,χ ŉ,wrap64 (by unfold fH at h3;omega)]
  rfl
 subst g
 refine Cq.wp.no (p:=(n:Int)<(n:Int)) ŉ ?_
 rfl
def gU(x:Zw)(n:Nat)(d:Int):Nat->Ŀ Za
 |0=>[]
 |k+1=>match x.t[k]? with
  |some v=>if Int.tmod (Ζ v 0) 4=0 then gU x n d k else gd (gU x n d k) ⟨ü (Int.tmod (Ζ v 0) 4),q0 v d n⟩
  |none=>gU x n d k
theorem Dm{x:Zw}(c:jf x){v:Fin 5->Int}(a:v∈x.t):-3<=Int.tmod (Ζ v 0) 4/\Int.tmod (Ζ v 0) 4<=3:=by have:=c v a 0;rw[zt v ĳ];exact DQ this.1 this.2
theorem Lw{x:Zw}(g:jf x){n:Nat}(f:n<=4){d:Int}(e:0<=d):∀k:Nat,gP (3*k) n d k (gU x n d k)
 |0=>⟨List.Pairwise.nil,λt a=>by simp[gU]at a,λt a=>by simp[gU]at a,by simp[gU]⟩
 |k+1=>by
  have c:=Lw g f e k;simp only[gU];split
  .rename_i v i;have hr:=Dm g (Ň i);split
   .exact c.grow ŉ ŉ
   rename_i h;exact(c.add ŉ h hr.1 hr.2 (U2 e f)).grow ŉ ŉ
  exact c.grow ŉ ŉ
def iG(x:Zw)(n:Nat)(d:Int)(k:Nat):Ŀ Za:=gU x n d (min k x.t.length)
theorem Zyv{x:Zw}(e:jf x){n:Nat}(c:n<=4){d:Int}(a:0<=d)(k:Nat):gP (3*k) n d k (iG x n d k):=(Lw e c a _).grow ŉ ŉ
theorem LN{x:Zw}(g:jf x){n:Nat}(e:n<=4){d:Int}(a:0<=d)(p:d<=100){k:Nat}(t:k<=4):(Bj x (n:Int) d (k:Int)).ω (iG x n d k):=by
 refine Cq.Zn (min k x.t.length) (λj s=>s=(gU x n d j,(j:Int))) (λj s r f=>?_) (λs f=>?_) rfl
 .subst f;have ki:j<x.t.length:=ŉ;have m:=Lw g e a j;have hr:=Dm g (Ă ki);show(if(j:Int)<(x.t.length:Int)then _ else _:Cq _).wp _;rw[Cq.Zm,ą ŉ,Cq.Zm,ą ŉ];show(Cq.next _ _).wp _;refine(Zwf g e a p ki).then ?_;have q:i64.wrap (Int.tmod (Ζ x.t[j] 0) 4)=Int.tmod (Ζ x.t[j] 0) 4:=wrap64 ŉ;have l:=U2 (v:=x.t[j]) a e;refine⟨x.t[j],Λ ki,_,(by rw[q];exact Tt ŉ ŉ),_,Tt ŉ ŉ,_,Zws hr.1 hr.2 (SM l.1 l.2.2 ŉ),?_⟩;have i:=m.len;by_cases c:Int.tmod (Ζ x.t[j] 0) 4=0
  .rw[ą c];refine⟨_,Ztm ŉ,?_⟩;show _=_;rw[χ ŉ];simp only[gU,Ą ki,ą c]
  rw[ā c];refine⟨_,RA ŉ (m.Ov ŉ hr.1 hr.2),?_⟩;show _=_;rw[χ ŉ];simp only[gU,Ą ki,ā c]
 subst f;show(if((min k x.t.length:Nat):Int)<(x.t.length:Int)then _ else _:Cq _).wp _;by_cases h:min k x.t.length<x.t.length
 .rw[Cq.Zm,ą ŉ,Cq.Zm,ā ŉ];rfl
 rw[Cq.Zm,ā ŉ];rfl
end Go.EL

namespace Go.EL
open Go.IntKind (i8 i16 i32 i64 u8 u16 u32 u64)
open Go Go.RowKit
theorem qL{x:Int}(h:0<=x/\x<18446744073709551616):u64.wrap x=x:=by simp only[IntKind.wrap,IntKind.bits,IntKind.signed,Ŷ,Ŝ,aaN];omega
def uP(x:Int):Ŀ Int:=if x=0 then[]else[x]
def â(n:Int):Zg:=⟨decide (n<0),uP (n.natAbs:Int)⟩
theorem ZyO(n:Int):ü n=⟨â n,⟨false,[1]⟩⟩:=by
 unfold ü â uP;by_cases h:n=0
 .subst h;rfl
 rw[ā h,ā ŉ]
end Go.EL

namespace Go.EL
open Go.IntKind (i8 i16 i32 i64 u8 u16 u32 u64)
open Go Go.RowKit
theorem ZxY{a b:M}(f:Ok a)(g:Ok b)(d:Ok (mulM a b)):(Kr a b).ω (mulM a b,0):=by
 show(Cq.next _ _).wp _;refine Cq.Zn 8 (λk s=>s=((k:Int),lU k (mulM a b) a)) (λk s c e=>?_) (λs e=>?_) (by rw[Ur];rfl)
 .subst e;have h:=f ⟨k,c⟩;have h2:=g ⟨k,c⟩;rw[Cq.Zm,ą ŉ];refine⟨ŉ,ŉ,ŉ,?_⟩;show _=_;rw[χ ŉ,Õ c,Õ c,VX,wrap64 ŉ];exact Ē (Prod.mk _) (Uq (mulM a b) a c)
 subst e;rw[Cq.Zm,ā ŉ,UR _ _ ŉ];exact⟨true,S0 d,rfl⟩
end Go.EL

namespace Go.EL
open Go.IntKind (i8 i16 i32 i64 u8 u16 u32 u64)
open Go Go.RowKit
def ó:Ŀ Za->Nat
 |[]=>0
 |t::p=>Nat.gcd (Î t.c).natAbs (ó p)
def jM(p:Ŀ Za):Int:=match p with
 |[]=>1
 |t::_=>if Î t.c<0 then -1 else 1
def fK(s:Int)(g:Nat)(c:Zf):Zf:=ü (s*(Î c / (g:Int)))
def Υ(p:Ŀ Za):Ŀ Za:=p.map λt=>⟨fK (jM p) (ó p) t.c,t.m⟩
theorem Zyt:(á 0 12 λa=>á (-12) 12 λb=>runs 60 (xu (â a) (â b)) (â (Nat.gcd a.natAbs b.natAbs:Nat)))=true:=by decide +kernel
theorem ZyU:(á 0 12 λa=>á (-12) 12 λb=>runs 60 (xM (â a) (â b)) (â (Nat.gcd a.natAbs b.natAbs:Nat)))=true:=by decide +kernel
theorem Zyu:(á 1 12 λg=>runs 60 (ED (â 1) (â g)) (⟨â 1,â g⟩,0)&&runs 60 (ED (â (-1)) (â g)) (⟨â (-1),â g⟩,0))=true:=by decide +kernel
theorem ZyV:(á 1 12 λg=>runs 60 (Gq (â 1) (â g)) (⟨â 1,â g⟩,0)&&runs 60 (Gp ⟨â 1,â g⟩) ⟨â (-1),â g⟩)=true:=by decide +kernel
theorem Zw5:(á 1 12 λg=>á (-12) 12 λn=>n == 0 || n % g != 0 || (runs 60 (Z9 ⟨â 1,â g⟩ (ü n)) (ü (1*(n / g)))&&runs 60 (Z9 ⟨â (-1),â g⟩ (ü n)) (ü (-1*(n / g)))))=true:=by decide +kernel
theorem Zxx:(á 1 12 λg=>á (-12) 12 λn=>n == 0 || n % g != 0 || (runs 60 (rn ⟨â 1,â g⟩ (ü n)) (ü (1*(n / g)))&&runs 60 (rn ⟨â (-1),â g⟩ (ü n)) (ü (-1*(n / g)))))=true:=by decide +kernel
theorem Gf:(xu (â 1) ⟨false,[1]⟩).ω (â 1)/\(Az ⟨false,[1]⟩ (â 1)).ω (â 1,â 0,0)/\(E2 (â 1) (â 1)).ω (â 1)/\(yL (â 1)).ω (â (-1)):=⟨Cq.ω.mj 60 (by decide +kernel),Cq.ω.mj 60 (by decide +kernel),Cq.ω.mj 60 (by decide +kernel),Cq.ω.mj 60 (by decide +kernel)⟩
theorem F4:(xM (â 1) ⟨false,[1]⟩).ω (â 1)/\(yX ⟨false,[1]⟩ (â 1)).ω (â 1,â 0,0)/\(rm (â 1) (â 1)).ω (â 1)/\(yX (â 1) ⟨false,[1]⟩).ω (â 1,â 0,0):=⟨Cq.ω.mj 60 (by decide +kernel),Cq.ω.mj 60 (by decide +kernel),Cq.ω.mj 60 (by decide +kernel),Cq.ω.mj 60 (by decide +kernel)⟩
theorem Zxw:(á (-12) 12 λn=>runs 60 (rm (â n) (â 1)) (â n))=true:=by decide +kernel
theorem Ub:(á 1 12 λg=>runs 60 (ZI ⟨â 1,â g⟩) 1&&runs 60 (ZI ⟨â (-1),â g⟩) (-1)&&runs 60 (oO ⟨â 1,â g⟩) 1&&runs 60 (oO ⟨â (-1),â g⟩) (-1))=true:=by decide +kernel
theorem ψ.num{p:Ŀ Za}(h:ψ p){t:Za}(d:t∈p):t.c=ü (Î t.c)/\Î t.c≠0/\-12<=Î t.c/\Î t.c<=12:=by
 obtain⟨⟨n,e,a,c,h2⟩,_⟩:=h.tm t d;have:Î t.c=n:=by rw[e,pH]
 rw[this];exact⟨e,a,c,h2⟩
theorem ψ.parts{p:Ŀ Za}(h:ψ p){t:Za}(a:t∈p):t.c.num=â (Î t.c)/\t.c.den=⟨false,[1]⟩:=by
 obtain⟨⟨n,e,_⟩,_⟩:=h.tm t a;have:Î t.c=n:=by rw[e,pH]
 rw[this,e,ZyO];exact⟨rfl,rfl⟩
theorem ψ.gq{p:Ŀ Za}(h:ψ p):Ò p=true:=by have f:=h.len;unfold Ò;rw[ĉ];refine⟨ă ŉ,Ć.2 λt d=>?_⟩;obtain⟨e,a,c,h2⟩:=h.num d;rw[e];exact ZvG a c h2
theorem FC:∀{p:Ŀ Za}{t:Za},t∈p->ó p ∣ (Î t.c).natAbs
 |x::p,t,h=>by
  rcases Ď.1 h with rfl|h
  .exact Nat.gcd_dvd_left _ _
  exact Nat.dvd_trans (Nat.gcd_dvd_right _ _) (FC h)
theorem xC{p:Ŀ Za}(h:ψ p)(a:p≠[]):1<=ó p/\ó p<=12:=by
 match p,a with
 |t::p,_=>
  have c:=FC (p:=t::p) (t:=t) ß;obtain⟨e,d,f,h2⟩:=h.num (t:=t) ß;have:=Nat.le_of_dvd ŉ c;have:=Nat.pos_of_dvd_of_pos c ŉ;omega
theorem xP{p:Ŀ Za}{t:Za}(a:t∈p):Î t.c % (ó p:Int)=0:=Int.emod_eq_zero_of_dvd (Int.ofNat_dvd_left.2 (FC a))
theorem Mp(p:Ŀ Za):jM p=1\/jM p = -1:=by
 unfold jM;split
 .exact .inl rfl
 split
 .exact .inr rfl
 exact .inl rfl
theorem TA(p:Ŀ Za)(k:Nat)(h:k<p.length):ó (p.take (k+1))=Nat.gcd (ó (p.take k)) (Î p[k].c).natAbs:=by
 rw[č h];generalize p.take k=l;generalize p[k]=t;induction l with
 |nil=>simp[ó]
 |cons x l a=>simp only[Ļ,ó,a];rw[Nat.gcd_assoc]
theorem Tz{p:Ŀ Za}(h:ψ p)(k:Nat):ó (p.take k)<=12:=by
 by_cases a:p.take k=[]
 .rw[a];exact Ĝ _
 have e:∃t,t∈p.take k:=abe _ a;obtain⟨t,c⟩:=e;have d:=FC c;obtain⟨_,f,g,h2⟩:=h.num (œ c);have:=Nat.le_of_dvd ŉ d;omega
theorem UT{m:M}(h:Ok m):Ok (mulM (λ_=>0) m):=by rw[mul_zero];exact h
theorem OB:Ok λ_=>0:=λ_=>⟨ŝ 0,(by decide:(0:Int)<=65535)⟩
theorem RY{c:Zf}{f:Zf->Zf}{p:Ŀ Za}(j:p.length<=100)(e:∀t∈p,Ok t.m){s:Int}(d:(ZI c).ω s)(g:s≠0)(i:∀t∈p,(Z9 c t.c).ω (f t.c)):
  (JE c (λ_=>0) p).ω (p.map λt=>⟨f t.c,t.m⟩,0):=by
 refine⟨s,d,Cq.wp.no g ⟨⟨ŉ,ŉ⟩,?_⟩⟩
 refine Cq.Zn p.length (λk s=>s=((p.take k).map λt=>⟨f t.c,t.m⟩,(k:Int))) (λk s a d=>?_) (λs d=>?_) rfl
 .subst d
  refine Cq.wp.yes ŉ ⟨p[k],Λ a,_,ZxY OB (e _ (Ă a)) (UT (e _ (Ă a))),Cq.wp.no (λh=>h rfl) ⟨_,i _ (Ă a),?_,?_⟩⟩
  .simp only[Ā,ć,Č,ė,small];omega
  show _=_
  rw[χ ŉ,mul_zero,č a,Ĭ]
  rfl
 subst d
 refine Cq.wp.no ŉ ?_
 show _=_
 rw[ě (Ċ _)]
theorem R8{c:Zf}{f:Zf->Zf}{p:Ŀ Za}(j:p.length<=100)(e:∀t∈p,Ok t.m){s:Int}(d:(oO c).ω s)(g:s≠0)(i:∀t∈p,(rn c t.c).ω (f t.c)):
  (FN c (λ_=>0) p).ω (p.map λt=>⟨f t.c,t.m⟩,0):=by
 refine⟨s,d,Cq.wp.no g ?_⟩
 refine Cq.Zn p.length (λk s=>s=((p.take k).map λt=>⟨f t.c,t.m⟩,(k:Int))) (λk s a d=>?_) (λs d=>?_) rfl
 .subst d
  refine Cq.wp.yes ŉ ⟨p[k],Λ a,_,Rw OB (e _ (Ă a)) (UT (e _ (Ă a))),Cq.wp.no (λh=>h rfl) ⟨p[k],Λ a,_,i _ (Ă a),?_,?_⟩⟩
  .simp only[Ā,ć,Č,ė,small];omega
  show _=_
  rw[χ ŉ,mul_zero,č a,Ĭ]
  rfl
 subst d
 refine Cq.wp.no ŉ ?_
 show _=_
 rw[ě (Ċ _)]
theorem ψ.mono{p:Ŀ Za}(h:ψ p):∀t∈p,Ok t.m:=λt a=>(h.tm t a).m
theorem TC{p:Ŀ Za}(a:0<p.length):(p[0]'a)∈p:=Ă a
theorem Tm{p:Ŀ Za}(a:0<p.length):jM p=if Î (p[0]'a).c<0 then -1 else 1:=by
 match p,a with
 |t::p,_=>rfl
theorem Kz{p:Ŀ Za}(h:ψ p)(f:p≠[]):(AE p).ω (Υ p):=by
 have u:=h.len;have m:0<p.length:=š.2 f;obtain⟨A,B⟩:=xC h f;refine Cq.wp.no ŉ ⟨â 0,Cq.ω.mj 20 (by decide +kernel),â 1,Cq.ω.mj 20 (by decide +kernel),?_⟩;show(P4 p (0,â 0,â 1)).wp _;refine Cq.Zn p.length (λk s=>s=((k:Int),â (ó (p.take k):Int),â 1)) (λk s l c=>?_) (λs c=>?_) rfl
 .subst c;obtain⟨e,g,i,j⟩:=h.num (Ă l);obtain⟨y,r⟩:=h.parts (Ă l);have C:=Tz h k;have hr:=Zs (Zs Zyt (x:=(ó (p.take k):Int)) ŉ ŉ) i j;refine Cq.wp.yes ŉ ⟨p[k],Λ l,â (Nat.gcd (ó (p.take k):Int).natAbs (Î p[k].c).natAbs:Nat),(by rw[y];exact Zu hr),â 1,(by rw[r];exact Gf.1),(â 1,â 0,0),(by rw[r];exact Gf.2.1),â 1,Gf.2.2.1,?_⟩;show _=_;rw[χ ŉ,TA p k l];simp only[aba]
 subst c;refine Cq.wp.no ŉ ?_;rw[ě (Ċ _)];show(JQ p (â (ó p:Int)) (â 1)).ω _;unfold JQ;obtain⟨e,g,i,j⟩:=h.num (TC m);have c:=Zs Tl i j;rw[show(Î p[0].c == 0)=false by simpa using g,Ł]at c;have n:=Zs Zyu (x:=(ó p:Int)) ŉ ŉ;have q:=Zs Ub (x:=(ó p:Int)) ŉ ŉ;simp only[ĉ]at n q;have v:∀t∈p,(Z9 ⟨â 1,â (ó p:Int)⟩ t.c).ω (fK 1 (ó p) t.c)/\(Z9 ⟨â (-1),â (ó p:Int)⟩ t.c).ω (fK (-1) (ó p) t.c):=λt d=>by obtain⟨e,g,i,j⟩:=h.num d;have:=Zs (Zs Zw5 (x:=(ó p:Int)) ŉ ŉ) i j;rw[show(Î t.c == 0)=false by simpa using g,show(Î t.c % (ó p:Int) != 0)=false by simpa using xP d,Ł,Ł,ĉ]at this;unfold fK;rw[e,pH];exact⟨Zu this.1,Zu this.2⟩
 refine⟨p[0],⟨ŉ,by simp[m]⟩,_,(by rw[e];exact Zu c),?_⟩;unfold Υ;rw[Tm m];by_cases a:Î p[0].c<0
 .rw[ą a,ą a];refine Cq.wp.yes ĳ ⟨_,Gf.2.2.2,?_⟩;exact⟨_,Zu n.2,_,RY u h.mono (Zu q.1.1.2) ĳ (λt d=>(v t d).2),rfl⟩
 rw[ā a,ā a,ā g];refine Cq.wp.no ĳ ?_;exact⟨_,Zu n.1,_,RY u h.mono (Zu q.1.1.1) ĳ (λt d=>(v t d).1),rfl⟩
theorem P1{p:Ŀ Za}(h:ψ p):(Fi p).ω (Υ p):=by
 have v:=h.len;by_cases f:p=[]
 .subst f;exact Cq.wp.yes rfl rfl
 have n:0<p.length:=š.2 f;obtain⟨A,B⟩:=xC h f;refine Cq.wp.no ŉ ⟨â 1,Cq.ω.mj 20 (by decide +kernel),â 0,Cq.ω.mj 20 (by decide +kernel),?_⟩;refine Cq.Zn p.length (λk s=>s=((k:Int),â 1)) (λk s c d=>?_) (λs d=>?_) rfl
 .subst d;obtain⟨e,l,i,j⟩:=h.num (Ă c);obtain⟨u,m⟩:=h.parts (Ă c);refine Cq.wp.yes ŉ ⟨p[k],Λ c,p[k],Λ c,â 1,(by rw[m];exact F4.1),(â 1,â 0,0),(by rw[m];exact F4.2.1),â 1,F4.2.2.1,?_⟩;show _=_;rw[χ ŉ]
 subst d;refine Cq.wp.no ŉ ?_;show(Qm p (â 0) (â 1)).ω _;refine Cq.Zn p.length (λk s=>s=((k:Int),â (ó (p.take k):Int))) (λk s c d=>?_) (λs d=>?_) rfl
 .subst d;obtain⟨e,l,i,j⟩:=h.num (Ă c);have C:=Tz h k;have hr:=Zs (Zs ZyU (x:=(ó (p.take k):Int)) ŉ ŉ) i j;obtain⟨u,m⟩:=h.parts (Ă c);refine Cq.wp.yes ŉ ⟨p[k],Λ c,(â 1,â 0,0),(by rw[m];exact F4.2.2.2),p[k],Λ c,â (Î p[k].c),(by rw[u];exact Zu (Zs Zxw i j)),â (Nat.gcd (ó (p.take k):Int).natAbs (Î p[k].c).natAbs:Nat),Zu hr,?_⟩;show _=_;rw[χ ŉ,TA p k c];simp only[aba]
 subst d;refine Cq.wp.no ŉ ?_;rw[ě (Ċ _)];show(JH p (â 1) (â (ó p:Int))).ω _;unfold JH;obtain⟨e,l,i,j⟩:=h.num (TC n);have d:=Zs F6 (x:=Î p[0].c) ŉ ŉ;have q:=Zs ZyV (x:=(ó p:Int)) ŉ ŉ;have r:=Zs Ub (x:=(ó p:Int)) ŉ ŉ;simp only[ĉ]at q r;have y:∀t∈p,(rn ⟨â 1,â (ó p:Int)⟩ t.c).ω (fK 1 (ó p) t.c)/\(rn ⟨â (-1),â (ó p:Int)⟩ t.c).ω (fK (-1) (ó p) t.c):=λt g=>by obtain⟨e,l,i,j⟩:=h.num g;have:=Zs (Zs Zxx (x:=(ó p:Int)) ŉ ŉ) i j;rw[show(Î t.c == 0)=false by simpa using l,show(Î t.c % (ó p:Int) != 0)=false by simpa using xP g,Ł,Ł,ĉ]at this;unfold fK;rw[e,pH];exact⟨Zu this.1,Zu this.2⟩
 refine⟨_,Zu q.1,p[0],⟨ŉ,by simp[n]⟩,_,(by rw[e];exact Zu d),?_⟩;unfold Υ;rw[Tm n];by_cases a:Î p[0].c<0
 .rw[ą a,ą a];refine Cq.wp.yes ĳ ⟨_,Zu q.2,?_⟩;exact⟨_,R8 v h.mono (Zu r.2) ĳ (λt g=>(y t g).2),rfl⟩
 rw[ā a,ā a,ā l];refine Cq.wp.no ĳ ?_;exact⟨_,R8 v h.mono (Zu r.1.2) ĳ (λt g=>(y t g).1),rfl⟩
end Go.EL

namespace Go.EL
open Go.IntKind (i8 i16 i32 i64 u8 u16 u32 u64)
open Go Go.RowKit
theorem Mf(s:Int)(g:Nat)(c:Zf):Î (fK s g c)=s*(Î c / (g:Int)):=pH _
theorem MK{n:Int}{g:Nat}(d:1<=g)(c:n % (g:Int)=0)(a:n≠0):n / (g:Int)≠0:=λh=>by have:=dU n g;rw[h,c]at this;simp at this;exact a this.symm
theorem YA{n:Int}{g:Nat}(c:1<=g)(a:-12<=n)(h2:n<=12):-12<=n / (g:Int)/\n / (g:Int)<=12:=by refine⟨(Int.le_ediv_iff_mul_le ŉ).2 ?_,aab (Int.ediv_le_ediv ŉ h2) (Int.ediv_le_self _ ĳ)⟩;have:(g:Int)*12 ≥ 12:=ŉ;omega
theorem Mj(p:Ŀ Za):(Υ p).length=p.length:=ć _
theorem Br{p:Ŀ Za}:Υ p=[]↔p=[]:=by unfold Υ;simp
theorem ZyK{p:Ŀ Za}{t:Za}(h:t∈Υ p):∃x∈p,t=⟨fK (jM p) (ó p) x.c,x.m⟩:=by obtain⟨x,a,h2⟩:=ğ.1 h;exact⟨x,a,h2.symm⟩
theorem vD{p:Ŀ Za}(h:ψ p):ψ (Υ p) where
 ord:=by unfold Υ;rw[ei];exact h.ord
 tm:=λt f=>by
  obtain⟨x,a,rfl⟩:=ZyK f;have c:p≠[]:=λe=>by rw[e]at a;cases a
  obtain⟨d,l⟩:=xC h c;obtain⟨e,i,j,k⟩:=h.num a;have m:=MK d (xP a) i;obtain⟨n,q⟩:=YA (g:=ó p) d j k;refine⟨⟨_,rfl,?_,?_,?_⟩,h.mono x a⟩;all_goals rcases Mp p with s|s<;>rw[s]<;>omega
 len:=by rw[Mj];exact h.len
theorem Sb(p:Ŀ Za):∀k,fI (Υ p) k=fI p k
 |0=>rfl
 |k+1=>by unfold fI;rw[Sb p k];unfold Υ;rw[aaD];cases p[k]?<;>rfl
theorem xH(p:Ŀ Za):gi (Υ p)=gi p:=by unfold gi;rw[Mj,Sb]
theorem Rh(p:Ŀ Za):∀k,ic (Υ p) k=ic p k
 |0=>rfl
 |k+1=>by unfold ic;rw[Rh p k];unfold Υ;rw[aaD];cases p[k]?<;>rfl
theorem Zxq(p:Ŀ Za):ð (Υ p)=ð p:=by unfold ð;rw[Mj,Rh]
theorem T2(p:Ŀ Za)(n:Int):Ð (Υ p) n=Ð p n:=by unfold Ð;rw[Zxq,xH]
theorem K5{s:Int}(c:s=1\/s = -1){g:Nat}(e:1<=g):∀{p:Ŀ Za},(∀t∈p,Î t.c % (g:Int)=0)->ó (p.map λt=>⟨fK s g t.c,t.m⟩)*g=ó p
 |[],_=>du _
 |t::p,h=>by
  have j:=K5 c e (p:=p) (λx i=>h x (by simp[i]));have f:=h t ß;simp only[ġ,ó];rw[<-j,<-Nat.gcd_mul_right,Mf];congr 1;have d:(s*(Î t.c / (g:Int))).natAbs=(Î t.c / (g:Int)).natAbs:=by rcases c with rfl|rfl<;>simp
  rw[d];have a:=dU (Î t.c) g;rw[f,aaE]at a;rw[<-a,Int.natAbs_mul,a,aba,abA]
theorem ZyJ{p:Ŀ Za}(h:ψ p)(a:p≠[]):ó (Υ p)=1:=by obtain⟨c,e⟩:=xC h a;have:=K5 (Mp p) c (p:=p) (λt d=>xP d);exact Nat.eq_of_mul_eq_mul_right c (by rw[Nat.one_mul];exact this)
theorem ZyL{p:Ŀ Za}(h:ψ p):jM (Υ p)=1:=by
 match p,h with
 |[],_=>rfl
 |t::q,h=>
  obtain⟨e,j,l,m⟩:=h.num (t:=t) ß;obtain⟨i,k⟩:=xC h ß;have c:=xP (p:=t::q) (t:=t) ß;show(if Î (fK _ _ t.c)<0 then(-1:Int)else 1)=1;rw[Mf,ā];have n:=MK i c j;have f:=dU (Î t.c) (ó (t::q));rw[c,aaE]at f;unfold jM;dsimp only;generalize ó (t::q)=g at *;generalize Î t.c / (g:Int)=z at *;by_cases d:Î t.c<0
  .rw[ą d];have:¬0<z:=λa=>by
    have:=Int.mul_pos (show(0:Int)<(g:Int) by omega) a;omega
   omega
  rw[ā d];have:¬z<0:=λa=>by have:=abf (show(0:Int)<(g:Int) by omega) a;omega
  omega
theorem ZAi{p:Ŀ Za}(h:ψ p){t:Za}(a:t∈p):fK 1 1 t.c=t.c:=by obtain⟨e,_⟩:=h.num a;unfold fK;rw[aaw,Int.natCast_one,Int.ediv_one];exact e.symm
theorem Th{p:Ŀ Za}(h:ψ p):Υ (Υ p)=Υ p:=by
 by_cases a:p=[]
 .subst a;rfl
 have c:=vD h;show(Υ p).map (λt=>(⟨fK (jM (Υ p)) (ó (Υ p)) t.c,t.m⟩:Za))=Υ p;rw[ZyJ h a,ZyL h];refine(ů λt d=>?_).trans (List.map_id _);rw[ZAi c d];rfl
def hV(l:Ŀ (Ŀ Za)):Prop:=l.Pairwise λa b=>ê a b<0
theorem Rl:∀{l m:Ŀ (Ŀ Za)},hV l->hV m->(∀x,x∈l↔x∈m)->l=m
 |[],[],_,_,_=>rfl
 |[],y::m,_,_,h=>by have:=(h y).2 ß;cases this
 |x::l,[],_,_,h=>by have:=(h x).1 ß;cases this
 |x::l,y::m,i,h2,h=>by
  obtain⟨a1,a2⟩:=ı.1 i;obtain⟨d,g⟩:=ı.1 h2;have e:x=y:=by
   rcases Ď.1 ((h x).1 ß)with e|n
   .exact e
   rcases Ď.1 ((h y).2 ß)with e|p
   .exact e.symm
   have q:=d x n;have r:=a1 y p;have:=qK x y;omega
  subst e;have f:∀{z:Ŀ Za}{k:Ŀ (Ŀ Za)},(∀a∈k,ê z a<0)->z ∉ k:=λj c=>by have:=j _ c;rw[xB]at this;omega
  rw[Rl a2 g λz=>⟨λc=>?_,λc=>?_⟩]
  .rcases Ď.1 ((h z).1 (by simp[c]))with e|tQ
   .subst e;exact absurd c (f a1)
   exact tQ
  rcases Ď.1 ((h z).2 (by simp[c]))with e|tQ
  .subst e;exact absurd c (f d)
  exact tQ
theorem TO:∀{l:Ŀ (Ŀ Za)}{x:Ŀ Za},(x::l).Pairwise (λa b=>ê a b<=0)->(∀p∈x::l,Ò p=true)->hV (x::jW x l)/\∀z,z∈x::jW x l↔z∈x::l
 |[],x,_,_=>⟨ū _ _,λ_=>Iff.rfl⟩
 |y::l,x,h,d=>by
  obtain⟨a1,a2⟩:=ı.1 h;obtain⟨f,g⟩:=TO a2 (λp hp=>d p (by simp at hp⊢;exact .inr hp));unfold jW;by_cases e:ê y x=0
  .rw[ą e];have:y=x:=Ba (d y ß) (d x ß) e;subst this;refine⟨f,λz=>?_⟩;rw[g z];simp
  rw[ā e];have c:ê x y<0:=by have:=a1 y ß;have:=qK x y;omega
  refine⟨ı.2 ⟨λz i=>?_,f⟩,λz=>?_⟩
  .rcases Ď.1 i with rfl|tQ
   .exact c
   exact(yU x y z ŉ (by have:=(ı.1 f).1 z tQ;omega)).2 (.inl c)
  have:=g z;simp only[Ď]at this⊢;rw[this]
def eA(l:Ŀ (Ŀ Za)):Ŀ (Ŀ Za):=gh (jI l)
theorem F7{l:Ŀ (Ŀ Za)}(d:∀p∈l,Ò p=true):hV (eA l)/\∀z,z∈eA l↔z∈l:=by
 have a:∀z,z∈jI l↔z∈l:=λz=>(vt l).mem_iff;have c:=KH l;unfold eA;generalize jI l=m at *;match m,a,c with
 |[],a,_=>exact⟨List.Pairwise.nil,a⟩
 |x::m,a,c=>
  obtain⟨e,f⟩:=TO c (λp hp=>d p ((a p).1 hp));exact⟨e,λz=>(f z).trans (a z)⟩
theorem VV{l m:Ŀ (Ŀ Za)}(a:∀p∈l,Ò p=true)(c:hV m)(h:∀z,z∈m↔z∈l):m=eA l:=by obtain⟨d,e⟩:=F7 a;exact Rl c d λz=>(h z).trans (e z).symm
theorem GF(l:Ŀ (Ŀ Za)):(eA l).length<=l.length:=ŋ TN (aaX (vt l).length_eq)
end Go.EL

namespace Go.EL
open Go.IntKind (i8 i16 i32 i64 u8 u16 u32 u64)
open Go Go.RowKit
theorem Zxu:(á (-12) 12 λa=>a == 0 || á (-12) 12 λb=>b == 0 || runs 40 (vF (ü a) (ü b)) (if a<b then -1 else if a=b then 0 else 1))=true:=by decide +kernel
theorem Zv3:(á (-12) 12 λa=>a == 0 || á (-12) 12 λb=>b == 0 || runs 40 (Bi (ü a) (ü b)) (decide (a=b)))=true:=by decide +kernel
theorem SS{a b:Zf}(c:fp a=true)(d:fp b=true):(vF a b).ω (hN a b):=by obtain⟨m,rfl,e,f,g⟩:=ub c;obtain⟨n,rfl,i,j,k⟩:=ub d;have h:=Zs Zxu f g;rw[show(m == 0)=false by simpa using e,Ł]at h;have h':=Zs h j k;rw[show(n == 0)=false by simpa using i,Ł]at h';unfold hN;rw[pH,pH];exact Zu h'
theorem Zvq{a b:Zf}(c:fp a=true)(d:fp b=true):(Bi a b).ω (decide (hN a b=0)):=by
 obtain⟨m,rfl,f,g,i⟩:=ub c;obtain⟨n,rfl,j,k,l⟩:=ub d;have h:=Zs Zv3 g i;rw[show(m == 0)=false by simpa using f,Ł]at h;have h':=Zs h k l;rw[show(n == 0)=false by simpa using j,Ł]at h';have e:decide (hN (ü m) (ü n)=0)=decide (m=n):=by
  unfold hN;rw[pH,pH];by_cases e:m=n
  .subst e;simp
  rw[Ĉ e,Ĉ];split
  .decide
  decide
 rw[e];exact Zu h'
theorem SV{p q:Ŀ Za}(hp:Ò p=true)(l:Ò q=true):(Gs p q).ω (ê p q):=by
 have t:=vr hp;have u:=vr l;refine(R1 p q 0).mono (p:=λo=>match o with|.inl v=>v=ê p q|.inr ()=>∃k,(k=p.length\/k=q.length)/\k<=p.length/\k<=q.length/\ê p q=ê (p.drop k) (q.drop k)) (λo h=>?_) (Cq.Zn p.length (λk s=>s=(k:Int)/\k<=p.length/\k<=q.length/\ê p q=ê (p.drop k) (q.drop k)) ?_ ?_ ⟨rfl,Ĝ _,Ĝ _,rfl⟩)
 .match o,h with
  |.inl v,h=>exact h
  |.inr (),⟨k,r,i,h2,h3⟩=>
   show(KD p q).ω _;unfold KD;rw[h3];by_cases m:p.length<q.length
   .refine Cq.wp.yes ŉ ?_;have:k=p.length:=ŉ;subst this;show(-1:Int)=_;rw[Ĺ (Ċ _),į m];rfl
   refine Cq.wp.no ŉ ?_;have:k=q.length:=ŉ;subst this;by_cases n:q.length<p.length
   .refine Cq.wp.yes ŉ ?_;show(1:Int)=_;rw[Ĺ (Ċ q.length),į n];rfl
   refine Cq.wp.no ŉ ?_;show(0:Int)=_;rw[Ĺ (Ċ q.length),Ĺ ŉ];rfl
 .rintro k s d ⟨rfl,i,h2,h3⟩;refine Cq.wp.yes ŉ ?_;by_cases a:k<q.length
  .refine Cq.wp.yes ŉ ?_;have c:=Fx p q d a;show(R3 p q (k:Int)).wp _;refine⟨_,Λ d,_,Λ a,_,AA _ _,?_⟩;by_cases g:p[k].m=q[k].m
   .refine Cq.wp.no (by rw[g,A9];simp) ⟨_,Λ d,_,Λ a,_,SS (tF hp d) (tF l a),?_⟩;have j:fC p[k] q[k]=hN p[k].c q[k].c:=ą g;rw[j]at c;by_cases e:hN p[k].c q[k].c=0
    .rw[ą e]at c;refine Cq.wp.no ŉ ?_;exact⟨χ ŉ,ŉ,ŉ,h3.trans c⟩
    rw[ā e]at c;refine Cq.wp.yes e ⟨_,Λ d,_,Λ a,_,SS (tF hp d) (tF l a),?_⟩;exact(h3.trans c).symm
   have f:¬Ü p[k].m q[k].m=0:=λe=>g (uh e);have j:fC p[k] q[k]=Ü p[k].m q[k].m:=ā g;rw[j,ā f]at c;refine Cq.wp.yes f ⟨_,Λ d,_,Λ a,_,AA _ _,?_⟩;exact(h3.trans c).symm
  refine Cq.wp.no ŉ ?_;exact⟨k,.inr ŉ,i,h2,h3⟩
 rintro s ⟨rfl,i,h2,h3⟩;refine Cq.wp.no ŉ ?_;exact⟨p.length,.inl rfl,i,h2,h3⟩
theorem Zvp{s t:Za}(a:fp s.c=true)(c:fp t.c=true):(EH s t).ω (decide (fC s t=0)):=by
 unfold EH fC;by_cases h:s.m=t.m
 .refine Cq.wp.yes h ?_;simp only[ą h];exact⟨_,Zvq a c,rfl⟩
 refine Cq.wp.no h ?_;simp only[ā h];show false=_;have:¬Ü s.m t.m=0:=λe=>h (uh e);simp[this]
theorem Kv{p q:Ŀ Za}(hp:Ò p=true)(f:Ò q=true):(tX p q).ω (decide (ê p q=0)):=by
 have j:=vr hp;have l:=vr f;by_cases i:p.length=q.length
 .refine Cq.wp.no ŉ ?_;refine(RE p q 0).mono (p:=λo=>match o with|.inl v=>v=decide (ê p q=0)|.inr ()=>ê p q=0) (λo h=>?_) (Cq.Zn p.length (λk s=>s=(k:Int)/\k<=p.length/\ê p q=ê (p.drop k) (q.drop k)) ?_ ?_ ⟨rfl,Ĝ _,rfl⟩)
  .match o,h with
   |.inl v,h=>exact h
   |.inr (),h=>show true=_;rw[ă h]
  .rintro k s d ⟨rfl,g,h3⟩;have a:k<q.length:=ŉ;refine Cq.wp.yes ŉ ⟨_,Λ d,_,Λ a,_,Zvp (tF hp d) (tF f a),?_⟩;have c:=Fx p q d a;by_cases e:fC p[k] q[k]=0
   .rw[ą e]at c;rw[ă e];refine Cq.wp.no ĳ ?_;exact⟨χ ŉ,ŉ,h3.trans c⟩
   rw[ā e]at c;rw[Ĉ e];refine Cq.wp.yes ĳ ?_;show false=_;rw[h3,c,Ĉ e]
  rintro s ⟨rfl,g,h3⟩;refine Cq.wp.no ŉ ?_;show ê p q=0;rw[h3,Ĺ (Ċ _),Ĺ ŉ];rfl
 refine Cq.wp.yes ŉ ?_;show false=_;rw[Ĉ (λh=>i (LM h))]
def hC(plain:Bool)(q:Ŀ Za):Bool:=!q.isEmpty&&!(plain&&decide (gi q=0))
theorem ZyH{v:Ŀ (Ŀ Za)}{y:Ŀ Za}(g:∀p∈v,Ò p=true)(j:Ò y=true)(l:v.length<=1000):
  (JK v y 0).wp (λo=>∃k:Nat,o=(k:Int)/\k<=v.length/\(∀i (h:i<v.length),i<k->ê v[i] y<0)/\(∀h:k<v.length,¬ê v[k] y<0)):=by
 refine Cq.Zn v.length (λk s=>s=(k:Int)/\k<=v.length/\∀i (h:i<v.length),i<k->ê v[i] y<0) ?_ ?_ ⟨rfl,Ĝ _,λi _ h=>absurd h (ĵ _)⟩
 .rintro k s d ⟨rfl,c,h2⟩
  refine Cq.wp.yes ŉ ⟨_,Λ d,_,SV (g _ (Ă d)) j,?_⟩
  by_cases a:ê v[k] y<0
  .refine Cq.wp.yes a ⟨χ ŉ,ŉ,λi hi f=>?_⟩
   by_cases e:i=k
   .subst e;exact a
   exact h2 i hi ŉ
  exact Cq.wp.no a ⟨k,rfl,c,h2,λ_=>a⟩
 rintro s ⟨rfl,c,h2⟩
 exact Cq.wp.no ŉ ⟨v.length,rfl,c,h2,λh=>absurd h (Nat.lt_irrefl _)⟩
theorem Zwa{v:Ŀ (Ŀ Za)}{y:Ŀ Za}(l:hV v){k:Nat}(t:k<=v.length)(m:∀i (h:i<v.length),i<k->ê v[i] y<0)(h2:∀h:k<v.length,0<ê v[k] y):
  hV (v.take k++([y]++v.drop k))/\∀z,z∈v.take k++([y]++v.drop k)↔z∈v\/z=y:=by
 have n:∀z∈v.drop k,0<ê z y:=λz f=>by
  obtain⟨j,d,rfl⟩:=ż f;rw[ľ]at d;have iu:k<v.length:=ŉ;rw[List.getElem_drop];have q:=h2 iu;by_cases e:j=0
  .subst e;exact q
  have:=Ī.1 l k (k+j) iu ŉ ŉ;have u:=qK v[k] y;have x:=qK v[k+j] y;have:=(yU y v[k] v[k+j] ŉ ŉ).2 (.inl ŉ);omega
 refine⟨?_,λz=>?_⟩
 .unfold hV
  rw[ej]
  have oH:((v.take k)++v.drop k).Pairwise λa b=>ê a b<0:=by rw[Ņ];exact l
  obtain⟨p,r,s⟩:=ej.1 oH
  refine⟨p,?_,λa g b c=>?_⟩
  .refine ı.2 ⟨λz f=>?_,r⟩
   have:=n z f
   have:=qK z y
   omega
  rcases Ď.1 c with rfl|c
  .obtain⟨j,d,rfl⟩:=ż g
   rw[Č]at d
   rw[aag]
   exact m j ŉ ŉ
  exact s a g b c
 have:z∈v↔z∈v.take k\/z∈v.drop k:=by rw[<-Ħ,Ņ]
 rw[this]
 simp only[Ħ,Ď,ĝ,ţ,List.singleton_append]
 constructor
 .rintro (h|h|h)
  .exact .inl (.inl h)
  .exact .inr h
  exact .inl (.inr h)
 rintro ((h|h)|h)
 .exact .inl h
 .exact .inr (.inr h)
 exact .inr (.inl h)
def kept(l:Ŀ (Ŀ Za))(plain:Bool):Ŀ (Ŀ Za):=(l.map Υ).filter (hC plain)
theorem FD{l:Ŀ (Ŀ Za)}(h:∀p∈l,ψ p){plain:Bool}:∀q∈kept l plain,ψ q:=λq a=>by obtain⟨p,hp,rfl⟩:=ğ.1 (Ő.1 a).1;exact vD (h p hp)
theorem Be(l:Ŀ (Ŀ Za))(plain:Bool){k:Nat}(a:k<l.length):kept (l.take (k+1)) plain=kept (l.take k) plain++(if hC plain (Υ l[k])=true then[Υ l[k]]else[]):=by unfold kept;rw[č a,Ĭ,abb];congr 1;simp only[ġ,Ŕ,ő,List.filter_nil]
structure kL (l:Ŀ (Ŀ Za)) (plain:Bool) (k:Nat) (v:Ŀ (Ŀ Za)):Prop where
 st:hV v
 mem:∀z,z∈v↔z∈kept (l.take k) plain
 len:v.length<=k
theorem kL.skip{l:Ŀ (Ŀ Za)}{plain:Bool}{k:Nat}{v:Ŀ (Ŀ Za)}(h:kL l plain k v)(a:k<l.length)(c:hC plain (Υ l[k])=false):kL l plain (k+1) v:=
 ⟨h.st,λz=>by rw[h.mem z,Be l plain a,c];simp,aaz h.len⟩
theorem kL.same{l:Ŀ (Ŀ Za)}{plain:Bool}{k:Nat}{v:Ŀ (Ŀ Za)}(h:kL l plain k v)(c:k<l.length)(d:Υ l[k]∈v):kL l plain (k+1) v:=
 ⟨h.st,(λz=>by
  rw[h.mem z,Be l plain c,Ħ];refine⟨.inl,λa=>?_⟩;rcases a with a|a
  .exact a
  split at a
  .rw[đ]at a;subst a;exact(h.mem _).1 d
  cases a),aaz h.len⟩
theorem kL.put{l:Ŀ (Ŀ Za)}{plain:Bool}{k:Nat}{v:Ŀ (Ŀ Za)}(h:kL l plain k v)(d:k<l.length)(e:hC plain (Υ l[k])=true){j:Nat}(c:j<=v.length)(a:∀i (h:i<v.length),i<j->ê v[i] (Υ l[k])<0)(h2:∀h:j<v.length,0<ê v[j] (Υ l[k])):
  kL l plain (k+1) (v.take j++([Υ l[k]]++v.drop j)):=by
 obtain⟨f,g⟩:=Zwa h.st c a h2
 refine⟨f,λz=>?_,?_⟩
 .rw[g z,h.mem z,Be l plain d,e,ą rfl,Ħ,đ]
 have:=h.len
 simp only[Ā,Č,ľ,ė]
 omega
theorem SB{l:Ŀ (Ŀ Za)}{plain:Bool}{k:Nat}{v:Ŀ (Ŀ Za)}(h:kL l plain k v)(C:l.length<=100)(g:k<l.length)(A:hC plain (Υ l[k])=true)(hp:∀p∈l,ψ p){j:Nat}(y:j<=v.length)(x:∀i (h:i<v.length),i<j->ê v[i] (Υ l[k])<0)(h2:∀h:j<v.length,¬ê v[j] (Υ l[k])<0)(q:∀p∈v,Ò p=true):
  (if(j:Int)<(v.length:Int)then(Cq.Γ v (j:Int) λB=>Cq.bind (tX B (Υ l[k])) λm=>if m=true then(Cq.ret (.inl (v,i64.wrap ((k:Int)+1))))else(tU v (k:Int) (Υ l[k]) (j:Int)))else(tU v (k:Int) (Υ l[k]) (j:Int))).wp (Out (λs=>∃f,s=(f,((k+1:Nat):Int))/\kL l plain (k+1) f) λr=>r=eA (kept l plain)):=by
 have n:=h.len
 have c:Ò (Υ l[k])=true:=(vD (hp _ (Ă g))).gq
 have d:(∀h:j<v.length,0<ê v[j] (Υ l[k]))->(tU v (k:Int) (Υ l[k]) (j:Int)).wp (Out (λs=>∃f,s=(f,((k+1:Nat):Int))/\kL l plain (k+1) f) λr=>r=eA (kept l plain)):=λh2=>by
  unfold tU;have t:(v.take (v.length:Int).toNat).drop (j:Int).toNat=v.drop j:=by rw[Ĕ,Ĕ,ě (Ċ _)]
  have u:((v.take (j:Int).toNat).drop (0:Int).toNat)=v.take j:=by rw[Ĕ];rfl
  rw[t,u];refine⟨⟨ŉ,ŉ,ŉ⟩,?_,⟨ŉ,ŉ,ŉ⟩,?_,_,?_,h.put g A y x h2⟩
  .simp only[Ā,ľ,ė,small];omega
  .simp only[Ā,Č,ľ,ė,small];omega
  rw[χ ŉ]
 by_cases a:j<v.length
 .refine Cq.wp.yes ŉ ⟨_,Λ a,_,Kv (q _ (Ă a)) c,?_⟩
  by_cases e:ê v[j] (Υ l[k])=0
  .refine Cq.wp.yes (ă e) ⟨_,by rw[χ ŉ],h.same g (by rw[<-Ba (q _ (Ă a)) c e];exact Ă a)⟩
  refine Cq.wp.no (by simpa using e) (d λ_=>?_)
  have:=h2 a
  omega
 exact Cq.wp.no ŉ (d λh=>absurd h a)
theorem P2{l:Ŀ (Ŀ Za)}(t:l.length<=100)(h:∀p∈l,ψ p)(plain:Bool):(Fl l plain).ω (eA (kept l plain)):=by
 refine Cq.Zn l.length (λk s=>∃v,s=(v,(k:Int))/\kL l plain k v) ?_ ?_ ⟨[],rfl,List.Pairwise.nil,λz=>by simp[kept],Ĝ _⟩
 .rintro k s c ⟨v,rfl,hi⟩;have u:=hi.len;have y:=vD (h _ (Ă c));have a:=y.gq;have m:∀p∈v,Ò p=true:=λp hp=>(FD (λq B=>h q (œ B)) p ((hi.mem p).1 hp)).gq;refine Cq.wp.yes ŉ ⟨_,Λ c,_,P1 (h _ (Ă c)),?_⟩;refine(JK v (Υ l[k]) 0).mono (λo ⟨j,i,r,n,h2⟩=>?_) (ZyH m a ŉ);subst i;show(J4 plain v (k:Int) (Υ l[k]) (j:Int)).wp _;unfold J4;by_cases g:Υ l[k]=[]
  .refine Cq.wp.yes (by rw[g];rfl) ⟨v,by rw[χ ŉ],hi.skip c (by rw[g];rfl)⟩
  have d:(Υ l[k]).isEmpty=false:=by simpa using g
  have A:(Υ l[k]).length≠0:=λe=>g (abv.1 e);refine Cq.wp.no ŉ ?_;cases plain with
  |true=>
   refine Cq.wp.yes rfl ⟨_,wZ y,?_⟩;by_cases f:gi (Υ l[k])=0
   .refine Cq.wp.yes f ⟨v,by rw[χ ŉ],hi.skip c (by unfold hC;rw[decide_eq_true f];simp)⟩
   refine Cq.wp.no f ?_;exact SB hi t c (by unfold hC;rw[d,decide_eq_false f];rfl) h r n h2 m
  |false=>
   refine Cq.wp.no ĳ ?_;exact SB hi t c (by unfold hC;rw[d];rfl) h r n h2 m
 rintro s ⟨v,rfl,hi⟩;refine Cq.wp.no ŉ ?_;have x:=hi.mem;rw[ě (Ċ _)]at x;exact VV (λp hp=>(FD h p hp).gq) hi.st x
end Go.EL

namespace Go.EL
open Go.IntKind (i8 i16 i32 i64 u8 u16 u32 u64)
open Go Go.RowKit
def kC(b:Int):Bool:=decide (65<=b/\b<=90) || decide (97<=b/\b<=122)
def qt(b:Int):Bool:=decide (48<=b/\b<=57) || decide (b=95)
def jg(i:Nat)(b:Int):Bool:=kC b || (decide (0<i)&&qt b)
def jk(s:Ĳ):Bool:=decide (1<=s.size/\s.size<=12)&&(List.range s.size).all λi=>jg i (eS s (i:Int))
theorem UU{s:Ĳ}{i:Nat}(hi:i<s.size)(h:jg i (eS s (i:Int))=false):jk s=false:=by unfold jk;rw[aaG];right;rw[List.all_eq_false];exact⟨i,Ľ.2 hi,by rw[h];decide⟩
theorem Zyw{s:Ĳ}(a:1<=s.size/\s.size<=12)(h:∀i,i<s.size->jg i (eS s (i:Int))=true):jk s=true:=by unfold jk;rw[ă a,Ť,Ć];exact λi hi=>h i (Ľ.1 hi)
theorem Ss(b:Int):(AV b).ω (kC b):=by
 unfold AV kC;by_cases a:65<=b<;>by_cases h2:b<=90<;>by_cases h3:97<=b<;>simp[a,h2,h3]<;>first|rfl|omega
theorem ZxZ(s:Ĳ):(FW s).ω (jk s):=by
 unfold FW;by_cases n:(s.size:Int)<1
 .rw[ą n];show false=jk s;unfold jk;rw[Ĉ ŉ,Ŷ]
 rw[ā n];by_cases h2:12<(s.size:Int)
 .rw[ą h2];show false=jk s;unfold jk;rw[Ĉ ŉ,Ŷ]
 rw[ā h2];refine⟨ŉ,_,Ss _,?_⟩;rw[Cq.Zm];cases h3:kC (eS s 0)with
 |false=>
  rw[ą ĳ];exact(UU (i:=0) ŉ (by unfold jg;rw[show((0:Nat):Int)=0 from rfl,h3];simp)).symm
 |true=>
  rw[ā ĳ];show(Cq.next _ _).wp _;refine Cq.Zn (s.size-1) (λk st=>st=((k+1:Nat):Int)/\∀i,i<k+1->jg i (eS s (i:Int))=true) (λk st r m=>?_) (λst m=>?_) ⟨rfl,λi hi=>?_⟩
  .obtain⟨rfl,hi⟩:=m;have f:∀{b:Int},b=eS s ((k+1:Nat):Int)->jg (k+1) b=true->∀i,i<k+1+1->jg i (eS s (i:Int))=true:=by
    intro b p q i l;by_cases e:i=k+1
    .subst e;rw[<-p];exact q
    exact hi i ŉ
   rw[Cq.Zm,ą ŉ];refine⟨ŉ,_,Ss _,?_⟩;cases j:kC (eS s ((k+1:Nat):Int))with
   |true=>exact⟨χ ŉ,f rfl (by unfold jg;rw[j];rfl)⟩
   |false=>
    have g:qt (eS s ((k+1:Nat):Int))=false->false=jk s:=λh=>(UU (i:=k+1) ŉ (by unfold jg;rw[j,h];simp)).symm;have d:qt (eS s ((k+1:Nat):Int))=true->∀i,i<k+1+1->jg i (eS s (i:Int))=true:=λh=>f rfl (by unfold jg;rw[j,h];simp);refine⟨ŉ,?_⟩;rw[Cq.Zm];unfold qt at g d;split
    .refine⟨ŉ,?_⟩;rw[Cq.Zm];split
     .rename_i a b;exact⟨χ ŉ,d (by rw[ă ⟨a,b⟩];rfl)⟩
     rename_i a b;refine⟨ŉ,?_⟩;rw[Cq.Zm];split
     .rename_i c;exact g (by rw[Ĉ (λh=>b h.2),Ĉ c];rfl)
     rename_i c;exact⟨χ ŉ,d (by rw[ă (abk.1 c)];simp)⟩
    rename_i a;refine⟨ŉ,?_⟩;rw[Cq.Zm];split
    .rename_i c;exact g (by rw[Ĉ (λh=>a h.1),Ĉ c];rfl)
    rename_i c;exact⟨χ ŉ,d (by rw[ă (abk.1 c)];simp)⟩
  .obtain⟨rfl,hi⟩:=m;rw[Cq.Zm,ā ŉ];exact(Zyw ŉ λi l=>hi i ŉ).symm
  obtain rfl:i=0:=ŉ;unfold jg;rw[show((0:Nat):Int)=0 from rfl,h3];rfl
end Go.EL

namespace Go.EL
open Go.IntKind (i8 i16 i32 i64 u8 u16 u32 u64)
open Go Go.RowKit
structure im (n:Nat) (next:Int) (l:Ŀ Zo):Prop where
 len:l.length<=12
 ids:∀q∈l,1<=q.id/\q.id<next
 inc:l.Pairwise λa b=>a.id<b.id
 hU:∀q∈l,ψ q.p/\Ð q.p (n:Int)=true
structure Good (s:Zy):Prop where
 vars:s.vars.length<=4
 name:∀v∈s.vars,jk v=true
 diff:s.vars.Pairwise λa b=>a≠b
 next:1<=s.next/\s.next<=1000000
 eqs:im s.vars.length s.next s.eqs
 neqs:im s.vars.length s.next s.neqs
 apart:∀a∈s.eqs,∀b∈s.neqs,a.id≠b.id
theorem KQ{p:Ŀ Za}(h:ψ p){n:Nat}(c:n<=4)(g:Ð p (n:Int)=true):(yY p (n:Int)).ω true:=by
 obtain⟨f,h2⟩:=(pI (p:=p) (n:=n) ŉ).1 g;have e:u64.wrap (n:Int)=(n:Int):=by
  match n,c with
  |0,_=>rfl
  |1,_=>rfl
  |2,_=>rfl
  |3,_=>rfl
  |4,_=>rfl
 refine⟨true,As h,_,wZ h,?_⟩;rw[Cq.Zm,ą ((tD ŉ).2 h2)];refine⟨_,AH h.len,by rw[e];omega,?_⟩;have i:=uf p;have d:=yW.2 f;rw[Ű]at d;have a:(ð p).toNat<2 ^ n:=by
  rcases eF.1 d with h|h
  .have:=aad n;omega
  exact h
 show _=_;rw[e,wrap64 ŉ];refine ă ?_;match n,c with
 |0,_=>exact ŕ (show ð p<1 by simp at a;omega) ĳ
 |1,_=>exact ŕ (show ð p<2 by simp at a;omega) ĳ
 |2,_=>exact ŕ (show ð p<4 by simp at a;omega) ĳ
 |3,_=>exact ŕ (show ð p<8 by simp at a;omega) ĳ
 |4,_=>exact ŕ (show ð p<16 by simp at a;omega) ĳ
theorem Un{n:Nat}(e:n<=4){next:Int}{l:Ŀ Zo}(h:im n next l):(Bl l (n:Int) next).ω true:=by
 have m:=h.len;unfold Bl;rw[ā ŉ];show(Cq.next _ _).wp _;refine Cq.Zn l.length (λk s=>s=(k:Int)) (λk s a c=>?_) (λs c=>?_) rfl
 .subst c;have f:=h.ids _ (Ă a);obtain⟨hp,d⟩:=h.hU _ (Ă a);rw[Cq.Zm,ą ŉ];refine⟨l[k],Λ a,?_⟩;rw[Cq.Zm,ā ŉ];refine⟨l[k],Λ a,?_⟩;rw[Cq.Zm,ā ŉ,Cq.Zm];split
  .rename_i i;obtain⟨j,rfl⟩:∃j,k=j+1:=⟨k-1,ŉ⟩;have g:i64.wrap (((j+1:Nat):Int)-1)=(j:Int):=by rw[wrap64 ŉ];omega
   rw[g];have:=Ī.1 h.inc j (j+1) ŉ a ŉ;refine⟨l[j],Λ ŉ,l[j+1],Λ a,?_⟩;rw[Cq.Zm,ā ŉ];refine⟨l[j+1],Λ a,true,KQ hp e d,?_⟩;rw[Cq.Zm,ā ĳ];exact χ ŉ
  refine⟨l[k],Λ a,true,KQ hp e d,?_⟩;rw[Cq.Zm,ā ĳ];exact χ ŉ
 subst c;rw[Cq.Zm,ā ŉ];rfl
theorem ZpM{s:Zy}(h:Good s):(Fu s).ω true:=by
 have f:=h.vars;have l:=h.next;have i:=h.eqs.len;have g:=h.neqs.len;unfold Fu;rw[ā ŉ,ā ŉ,ā ŉ];refine⟨true,Un f h.eqs,true,Un f h.neqs,?_⟩;rw[Cq.Zm,ā ĳ];show(Cq.next _ _).wp _;refine Cq.Zn s.vars.length (λk st=>st=(k:Int)) (λk st c a=>?_) (λst a=>?_) rfl
 .subst a;rw[Cq.Zm,ą ŉ];show(Cq.next _ _).wp _;refine Cq.Zn k (λj st=>st=(j:Int)) (λj st d a=>?_) (λst a=>?_) rfl
  .subst a;have:=Ī.1 h.diff j k ŉ c d;rw[Cq.Zm,ą ŉ];refine⟨s.vars[k],Λ c,s.vars[j],Λ ŉ,?_⟩;rw[Cq.Zm,ā (λe=>this e.symm)];exact χ ŉ
  subst a;rw[Cq.Zm,ā ŉ];show(Qw s (k:Int)).wp _;refine⟨s.vars[k],Λ c,_,ZxZ _,?_⟩;rw[h.name _ (Ă c),Cq.Zm,ā ĳ];exact χ ŉ
 subst a;rw[Cq.Zm,ā ŉ];show(Qv s).wp _;show(Cq.next _ _).wp _;refine Cq.Zn s.eqs.length (λk st=>st=(k:Int)) (λk st c a=>?_) (λst a=>?_) rfl
 .subst a;rw[Cq.Zm,ą ŉ];show(Cq.next _ _).wp _;refine Cq.Zn s.neqs.length (λj st=>st=(j:Int)) (λj st d a=>?_) (λst a=>?_) rfl
  .subst a;rw[Cq.Zm,ą ŉ];refine⟨s.eqs[k],Λ c,s.neqs[j],Λ d,?_⟩;rw[Cq.Zm,ā (h.apart _ (Ă c) _ (Ă d))];exact χ ŉ
  subst a;rw[Cq.Zm,ā ŉ];exact χ ŉ
 subst a;rw[Cq.Zm,ā ŉ];rfl
end Go.EL

namespace Go.EL
open Go.IntKind (i8 i16 i32 i64 u8 u16 u32 u64)
open Go Go.RowKit
abbrev Ó:=Ŀ Za
instance B0:DecidableEq Za:=λ⟨a1,a2⟩ ⟨a,c⟩=>decidable_of_iff (a1=a/\a2=c) ß
def iY:Ó:=[⟨ü 1,λ_=>0⟩]
def hK:Zd:=⟨0,[],[]⟩
def gL(l:Ŀ Ó):Ŀ Ó:=(l.filter λp=>p.isEmpty).map λ_=>iY
def hZ(eqs neqs:Ŀ Ó):Ŀ Ó:=kept eqs false++gL neqs
def gK(n:Int)(eqs neqs:Ŀ Ó):Zd×Int:=
 if 1<=n/\n<=4 then
  if(eqs++neqs).all (λp=>Ð p n)=true then
   if 12<(eA (hZ eqs neqs)).length then(hK,2)
   else if 12<(eA (kept neqs true)).length then(hK,2)
   else(⟨n,eA (hZ eqs neqs),eA (kept neqs true)⟩,0)
  else(hK,1)
 else(hK,1)
theorem BD:ψ iY where
 ord:=ū _ _
 tm:=λt a=>by rw[iY,đ]at a;subst a;exact⟨⟨1,rfl,ĳ,ĳ,ĳ⟩,OB⟩
 len:=ĳ
theorem Mh:Υ iY=iY:=by decide +kernel
theorem SN:∀l:Ŀ Ó,kept (gL l) false=gL l
 |[]=>rfl
 |p::l=>by
  have a:=SN l;unfold gL at a⊢;rw[ő];split
  .rw[ġ];show(Υ iY::List.map Υ _).filter _=_;rw[ő,ą (by rw[Mh];rfl),Mh];exact Ē _ a
  exact a
theorem ZtW(a b:Ŀ Ó)(plain:Bool):kept (a++b) plain=kept a plain++kept b plain:=by unfold kept;rw[List.map_append,List.filter_append]
theorem Mi{l:Ŀ Ó}:∀p∈gL l,p=iY:=λp hp=>by obtain⟨_,_,h⟩:=ğ.1 hp;exact h.symm
theorem Gi(l:Ŀ Ó):(gL l).length<=l.length:=by unfold gL;rw[List.length_map];exact List.length_filter_le _ _
theorem vz(l:Ŀ Ó)(plain:Bool):(kept l plain).length<=l.length:=by unfold kept;exact Nat.le_trans (List.length_filter_le _ _) (Nat.le_of_eq (List.length_map _))
theorem TR(a b:Ŀ Ó):(hZ a b).length<=a.length+b.length:=by have:=vz a false;have:=Gi b;unfold hZ;rw[Ā];omega
theorem ZzE{a b:Ŀ Ó}(c:∀p∈a,ψ p):∀p∈hZ a b,ψ p:=λp hp=>by
 rcases Ħ.1 hp with h|h
 .exact FD c p h
 rw[Mi p h];exact BD
theorem KU{p:Ó}(h:ψ p)(a:p≠[]):0<=gi p:=by
 obtain⟨t,c⟩:=abe _ a;by_cases d:gi p<=-1
 .have:=(tD ĳ).1 d t c;have e:=(Gb (h.tm t c).m 8).1;unfold fH at this;omega
 omega
theorem Zt7{p:Ó}(h:ψ p){n:Nat}(i:n<=4):(yY p (n:Int)).ω (Ð p (n:Int)):=by
 cases g:Ð p (n:Int)with
 |true=>exact KQ h i g
 |false=>
  have j:¬(lI n p/\∀t∈p,fH t.m<=12):=λc=>by rw[(pI ŉ).2 c]at g;cases g
  refine⟨true,As h,_,wZ h,?_⟩;by_cases f:gi p<=12
  .have c:¬lI n p:=λc=>j ⟨c,(tD ĳ).1 f⟩;have m:=uf p;have k:¬(ð p).toNat >>> n=0:=λe=>c (yW.1 e);rw[Ű]at k;have a:2 ^ n<=(ð p).toNat:=by
    by_cases l:(ð p).toNat<2 ^ n
    .exact absurd (aaL l) k
    omega
   have d:u64.wrap (n:Int)=(n:Int):=by
    match n,i with
    |0,_=>rfl
    |1,_=>rfl
    |2,_=>rfl
    |3,_=>rfl
    |4,_=>rfl
   refine Cq.wp.yes f ⟨_,AH h.len,by rw[d];omega,?_⟩;show _=_;rw[d,wrap64 ŉ];refine Ĉ ?_;match n,i with
   |0,_=>exact aaK.2 (aab ĳ (show(1:Int)<=ð p by simp at a;omega))
   |1,_=>exact aaK.2 (aab ĳ (show(2:Int)<=ð p by simp at a;omega))
   |2,_=>exact aaK.2 (aab ĳ (show(4:Int)<=ð p by simp at a;omega))
   |3,_=>exact aaK.2 (aab ĳ (show(8:Int)<=ð p by simp at a;omega))
   |4,_=>exact aaK.2 (aab ĳ (show(16:Int)<=ð p by simp at a;omega))
  exact Cq.wp.no f rfl
theorem Vc{l:Ŀ Ó}(m:l.length<=100)(h:∀p∈l,ψ p){n:Nat}(j:n<=4):(Gw l (n:Int)).ω (l.all λp=>Ð p (n:Int)):=by
 refine(R6 l (n:Int) 0).mono (p:=λo=>match o with|.inl v=>v=l.all λp=>Ð p (n:Int)|.inr ()=>(l.all λp=>Ð p (n:Int))=true) (λo h=>?_) (Cq.Zn l.length (λk s=>s=(k:Int)/\∀i (h:i<l.length),i<k->Ð l[i] (n:Int)=true) ?_ ?_ ⟨rfl,λi _ h=>absurd h (ĵ _)⟩)
 .match o,h with
  |.inl v,h=>exact h
  |.inr (),h=>exact h.symm
 .rintro k s d ⟨rfl,c⟩;refine Cq.wp.yes ŉ ⟨_,Λ d,_,Zt7 (h _ (Ă d)) j,?_⟩;by_cases a:Ð l[k] (n:Int)=true
  .rw[a];refine Cq.wp.no ĳ ⟨χ ŉ,λi hi g=>?_⟩;by_cases e:i=k
   .subst e;exact a
   exact c i hi ŉ
  rw[Ů.2 a];refine Cq.wp.yes ĳ ?_;show false=_;refine(Ů.2 λf=>?_).symm;exact a (Ć.1 f _ (Ă d))
 rintro s ⟨rfl,c⟩;refine Cq.wp.no ŉ ?_;refine Ć.2 λp hp=>?_;obtain⟨i,hi,rfl⟩:=ż hp;exact c i hi hi
theorem ZvA{a b:Ŀ Ó}(f:a.length<=100)(g:b.length<=100):(Jj [a,b]).ω (a++b):=by
 refine Cq.Zn 2 (λk s=>s=(if k=0 then 0 else if k=1 then(a.length:Int)else(a.length:Int)+(b.length:Int),(k:Int))) (λk s d c=>?_) (λs c=>?_) rfl
 .subst c;have e:k=0\/k=1:=ŉ;rcases e with rfl|rfl
  .refine Cq.wp.yes (by show(0:Int)<2;decide) ⟨a,⟨ĳ,rfl⟩,?_⟩;have:i64.wrap (0+(a.length:Int))=(a.length:Int):=by rw[wrap64 ŉ];omega
   refine Cq.wp.no (by rw[ą rfl,this];omega) ?_;show _=_;rw[ą rfl,this];rfl
  refine Cq.wp.yes (by show(1:Int)<2;decide) ⟨b,⟨ĳ,rfl⟩,?_⟩;have:i64.wrap ((a.length:Int)+(b.length:Int))=(a.length:Int)+(b.length:Int):=by rw[wrap64 ŉ]
  refine Cq.wp.no (by rw[ā ĳ,ą rfl,this];omega) ?_;show _=_;rw[ā ĳ,ą rfl,this];rfl
 subst c;refine Cq.wp.no (by show ¬(2:Int)<2;decide) ?_;refine⟨[],⟨⟨?_,?_⟩,rfl⟩,?_⟩
 .rw[ā ĳ,ā ĳ];omega
 .rw[ā ĳ,ā ĳ];omega
 refine Cq.Zn 2 (λk s=>s=(if k=0 then[]else if k=1 then a else a++b,(k:Int))) (λk s d c=>?_) (λs c=>?_) rfl
 .subst c;have e:k=0\/k=1:=ŉ;rcases e with rfl|rfl
  .refine Cq.wp.yes (by show(0:Int)<2;decide) ⟨a,⟨ĳ,rfl⟩,?_,?_⟩
   .rw[ą rfl,ķ];simp only[small];omega
   show _=_;rw[ą rfl,ķ];rfl
  refine Cq.wp.yes (by show(1:Int)<2;decide) ⟨b,⟨ĳ,rfl⟩,?_,?_⟩
  .rw[ā ĳ,ą rfl,Ā];simp only[small];omega
  show _=_;rw[ā ĳ,ą rfl];rfl
 subst c;refine Cq.wp.no (by show ¬(2:Int)<2;decide) ?_;show _=_;rw[ā ĳ,ā ĳ]
theorem vH{n:Int}(h:1<=n/\n<=4):∃m:Nat,n=(m:Int)/\1<=m/\m<=4:=⟨n.toNat,ŉ,ŉ,ŉ⟩
theorem uU:(w7 1).ω (ü 1):=Cq.ω.mj 20 (by decide +kernel)
theorem qj:(Ea (ü 1)).ω iY:=Cq.ω.mj 20 (by decide +kernel)
theorem uW:(ZY 1).ω (ü 1):=Cq.ω.mj 20 (by decide +kernel)
theorem qk:(EG (ü 1)).ω iY:=Cq.ω.mj 20 (by decide +kernel)
theorem Rj{l:Ŀ Ó}(a:l.length<=100)(h:∀p∈l,ψ p):(El l).ω (eA l):=⟨⟨a,Ć.2 λp hp=>(h p hp).gq⟩,rfl⟩
theorem Sv(l:Ŀ Ó){k:Nat}(a:k<l.length):gL (l.take (k+1))=gL (l.take k)++(if l[k]=[]then[iY]else[]):=by
 unfold gL;rw[č a,abb,Ĭ];congr 1;rw[ő];by_cases h:l[k]=[]
 .rw[ą (by simpa using h),ą h];rfl
 rw[ā (by simpa using h),ā h];rfl
theorem RL{n:Int}{eqs neqs:Ŀ Ó}(le:eqs.length<=40)(ln:neqs.length<=40)(t:∀p∈eqs,ψ p)(u:∀p∈neqs,ψ p):(Ar n eqs neqs).ω (gK n eqs neqs):=by
 unfold gK;by_cases g:n<1
 .rw[ā (show ¬(1<=n/\n<=4) by omega)];exact Cq.wp.yes g rfl
 refine Cq.wp.no g ?_;by_cases A:4<n
 .rw[ā (show ¬(1<=n/\n<=4) by omega)];exact Cq.wp.yes A rfl
 refine Cq.wp.no A ?_;rw[ą ⟨ŉ,ŉ⟩];obtain⟨m,rfl,N,O⟩:=vH ⟨show 1<=n by omega,ŉ⟩;have q:∀p∈eqs++neqs,ψ p:=λp hp=>(Ħ.1 hp).elim (t p) (u p);refine⟨eqs++neqs,ZvA ŉ ŉ,?_⟩;have C:(eqs++neqs).length<=100:=by rw[Ā];omega
 generalize L:eqs++neqs=l at *;refine(PH (m:Int) l (0,hK)).mono (p:=λo=>match o with|.inl v=>v=(hK,1)/\(l.all λp=>Ð p (m:Int))=false|.inr _=>(l.all λp=>Ð p (m:Int))=true) (λo h=>?_) (Cq.Zn l.length (λk s=>s=((k:Int),hK)/\∀i (h:i<l.length),i<k->Ð l[i] (m:Int)=true) ?_ ?_ ⟨rfl,λi _ h=>absurd h (ĵ _)⟩);rotate_left
 .rintro k s a ⟨rfl,g⟩;refine Cq.wp.yes ŉ ⟨_,Λ a,_,ZnK (q _ (Ă a)) ŉ,?_⟩;by_cases j:Ð l[k] (m:Int)=true
  .rw[j];refine Cq.wp.no ĳ ⟨by rw[χ ŉ],λi hi G=>?_⟩;by_cases e:i=k
   .subst e;exact j
   exact g i hi ŉ
  rw[Ů.2 j];refine Cq.wp.yes ĳ ⟨rfl,Ů.2 λr=>?_⟩;exact j (Ć.1 r _ (Ă a))
 .rintro s ⟨rfl,g⟩;refine Cq.wp.no ŉ ?_;refine Ć.2 λp hp=>?_;obtain⟨i,hi,rfl⟩:=ż hp;exact g i hi hi
 match o,h with
 |.inl v,⟨I,j⟩=>rw[j,ā ĳ];exact I
 |.inr _,r=>
  rw[ą r];show(PK (m:Int) eqs neqs).ω _;refine Cq.Zn eqs.length (λk s=>s=(kept (eqs.take k) false,(k:Int))) (λk s a d=>?_) (λs d=>?_) rfl
  .subst d;refine Cq.wp.yes ŉ ⟨_,Λ a,?_⟩;have d:=Be eqs false a;have:=vz (eqs.take k) false;rw[Č]at this;by_cases c:eqs[k]=[]
   .refine Cq.wp.no (by rw[c];decide) ?_;show _=_;rw[d,c,ā ĳ,ę,χ ŉ]
   have hp:0<eqs[k].length:=š.2 c;refine Cq.wp.yes ŉ ⟨_,Kz (t _ (Ă a)) c,?_,?_⟩
   .rw[Ā,ė];simp only[small];omega
   show _=_;have a:hC false (Υ eqs[k])=true:=by
    have:(Υ eqs[k]).isEmpty=false:=by simpa using λe=>c (Br.1 e)
    unfold hC;rw[this];rfl
   rw[d,a,ą rfl,χ ŉ]
  subst d;refine Cq.wp.no ŉ ?_;rw[ě (Ċ _)];show(PJ (m:Int) neqs (kept eqs false)).ω _;refine Cq.Zn neqs.length (λk s=>s=(kept eqs false++gL (neqs.take k),kept (neqs.take k) true,(k:Int))) (λk s a d=>?_) (λs d=>?_) (by show _=_;rw[ř];show _=(kept eqs false++[],_,_);rw[ę];rfl)
  .subst d;have d:=Be neqs true a;have y:=Sv neqs a;have D:=vz (neqs.take k) true;have J:=vz eqs false;have K:=Gi (neqs.take k);rw[Č]at D K;refine Cq.wp.yes ŉ ⟨_,Λ a,?_⟩;by_cases c:neqs[k]=[]
   .refine Cq.wp.yes (by rw[c];rfl) ⟨_,uU,_,qj,?_,?_⟩
    .rw[Ā,Ā,ė];simp only[small];omega
    show _=_;rw[d,y,c,ą rfl,ā ĳ,ę,χ ŉ,ď]
   have hp:0<neqs[k].length:=š.2 c;have f:=u _ (Ă a);have x:(Υ neqs[k]).isEmpty=false:=by simpa using λe=>c (Br.1 e)
   have H:=KU f c;refine Cq.wp.no ŉ ⟨_,yK f,?_⟩;by_cases B:0<gi neqs[k]
   .refine Cq.wp.yes B ⟨_,Kz f c,?_,?_⟩
    .rw[Ā,ė];simp only[small];omega
    show _=_;have a:hC true (Υ neqs[k])=true:=by unfold hC;rw[x,xH,decide_eq_false ŉ];rfl
    rw[d,y,ā c,a,ą rfl,χ ŉ,ę]
   refine Cq.wp.no B ?_;show _=_;have a:hC true (Υ neqs[k])=false:=by unfold hC;rw[xH,decide_eq_true ŉ];simp
   rw[d,y,ā c,a,ā ĳ,χ ŉ,ę,ę]
  subst d;refine Cq.wp.no ŉ ?_;rw[ě (Ċ _)];show(PI (m:Int) (hZ eqs neqs) (kept neqs true)).ω _;have D:=TR eqs neqs;have J:=vz neqs true;refine⟨_,Rj ŉ (ZzE t),_,Rj ŉ (FD u),?_⟩;by_cases E:12<(eA (hZ eqs neqs)).length
  .rw[ą E];exact Cq.wp.yes ŉ rfl
  rw[ā E];refine Cq.wp.no ŉ ?_;by_cases F:12<(eA (kept neqs true)).length
  .rw[ą F];exact Cq.wp.yes ŉ rfl
  rw[ā F];exact Cq.wp.no ŉ rfl
theorem RH{n:Int}{eqs neqs:Ŀ Ó}(le:eqs.length<=40)(ln:neqs.length<=40)(g:∀p∈eqs,ψ p)(j:∀p∈neqs,ψ p):(Fo n eqs neqs).ω (gK n eqs neqs):=by
 unfold gK;by_cases d:n<1
 .rw[ā (show ¬(1<=n/\n<=4) by omega)];exact Cq.wp.yes d rfl
 refine Cq.wp.no d ?_;by_cases f:4<n
 .rw[ā (show ¬(1<=n/\n<=4) by omega)];exact Cq.wp.yes f rfl
 refine Cq.wp.no f ?_;rw[ą ⟨ŉ,ŉ⟩];obtain⟨m,rfl,A,r⟩:=vH ⟨show 1<=n by omega,ŉ⟩;refine⟨_,Vc ŉ g r,?_⟩;rw[List.all_append];cases x:eqs.all λp=>Ð p (m:Int)with
 |false=>exact rfl
 |true=>
 refine⟨_,Vc ŉ j r,?_⟩;cases y:neqs.all λp=>Ð p (m:Int)with
 |false=>exact Cq.wp.yes ĳ rfl
 |true=>
 refine Cq.wp.no ĳ ?_;rw[ą ĳ];refine⟨?_,?_⟩
 .rw[ķ];simp only[small];omega
 rw[ķ];refine Cq.Zn neqs.length (λk s=>s=(eqs++gL (neqs.take k),(k:Int))) (λk s i c=>?_) (λs c=>?_) (by show _=_;rw[ř];show _=(eqs++[],_);rw[ę];rfl)
 .subst c;have l:=Sv neqs i;have q:=Gi (neqs.take k);rw[Č]at q;refine Cq.wp.yes ŉ ⟨_,Λ i,?_⟩;by_cases a:neqs[k]=[]
  .refine Cq.wp.yes (by rw[a];rfl) ⟨_,uW,_,qk,?_,?_⟩
   .rw[Ā,Ā,ė];simp only[small];omega
   show _=_;rw[l,a,ą rfl,χ ŉ,ď]
  have hp:0<neqs[k].length:=š.2 a;refine Cq.wp.no ŉ ?_;show _=_;rw[l,ā a,χ ŉ,ę]
 subst c;refine Cq.wp.no ŉ ?_;rw[ě (Ċ _)];show(Qp (m:Int) neqs (eqs++gL neqs)).ω _;have q:=Gi neqs;have v:∀p∈eqs++gL neqs,ψ p:=λp hp=>(Ħ.1 hp).elim (g p) (λh=>by rw[Mi p h];exact BD);have e:kept (eqs++gL neqs) false=hZ eqs neqs:=by rw[ZtW,SN];rfl
 refine⟨_,P2 (by rw[Ā];omega) v false,_,P2 ŉ j true,?_⟩;rw[e];by_cases t:12<(eA (hZ eqs neqs)).length
 .rw[ą t];exact Cq.wp.yes ŉ rfl
 rw[ā t];refine Cq.wp.no ŉ ?_;by_cases u:12<(eA (kept neqs true)).length
 .rw[ą u];exact Cq.wp.yes ŉ rfl
 rw[ā u];exact Cq.wp.no ŉ rfl
end Go.EL

