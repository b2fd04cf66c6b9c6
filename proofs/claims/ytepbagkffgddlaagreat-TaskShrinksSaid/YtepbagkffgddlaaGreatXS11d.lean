/- The law TaskShrinks holds for every input: a part of its proof (fC the code does, plain models, and fC they return). No condition. -/
import Derived.Test.YtepbagkffgddlaaGreatXS11c
import Derived.Test.YtepbagkffgddlaaGreatXS11b
set_option linter.unusedVariables false
set_option linter.unusedSimpArgs false
namespace Go.EL
open Go.IntKind (i8 i16 i32 i64 u8 u16 u32 u64)
open Go Go.EL Go.RowKit Go.Proofs
def fp(c:Zf):Bool:=match c.num.χ,c.den.χ with
 |[w],[d]=>!c.den.neg&&decide (d=1)&&decide (1<=w)&&decide (w<=12)
 |_,_=>false
def Î(c:Zf):Int:=if c.num.neg=true then-c.num.χ.headD 0 else c.num.χ.headD 0
def fB(s t:Za):Int:=if s.m=t.m then(if Î s.c<Î t.c then -1 else if Î s.c=Î t.c then 0 else 1)else Ü s.m t.m
def ë:Ŀ Za->Ŀ Za->Int
 |[],[]=>0
 |[],_::_=>-1
 |_::_,[]=>1
 |s::p,t::q=>if fB s t=0 then ë p q else fB s t
def Ó(p:Ŀ Za):Bool:=decide (p.length<=1000)&&p.all λt=>fp t.c
def zS(x:Ŀ Za):Ŀ (Ŀ Za)->Ŀ (Ŀ Za)
 |[]=>[x]
 |y::l=>if 0<ë x y then y::zS x l else x::y::l
def jF(l:Ŀ (Ŀ Za)):Ŀ (Ŀ Za):=l.foldr zS []
def jV(x:Ŀ Za):Ŀ (Ŀ Za)->Ŀ (Ŀ Za)
 |[]=>[]
 |y::l=>if ë y x=0 then jV y l else y::jV y l
def gh:Ŀ (Ŀ Za)->Ŀ (Ŀ Za)
 |[]=>[]
 |x::l=>x::jV x l
def Eb(l:Ŀ (Ŀ Za)):Cq (Ŀ (Ŀ Za)):=Cq.ì (l.length<=100/\l.all Ó=true) (Cq.ret (gh (jF l)))
def iH:Nat->Int->Ŀ Int
 |0,n=>[u8.wrap n]
 |f+1,n=>if 128<=n then u8.wrap (u8.wrap (Int.tmod n 128)+128)::iH f (u64.wrap (Int.tdiv n 128))else[u8.wrap n]
def fw(n:Int):Ŀ Int:=iH 10 n
def lz(n:Int):Ŀ Int:=fw (u64.wrap (2*u64.wrap n))
def fF(d:Int):Ŀ Int:=[u8.wrap (Int.fdiv d (2 ^ (min (24:Int).toNat u32.bits))),u8.wrap (Int.fdiv d (2 ^ (min (16:Int).toNat u32.bits))),u8.wrap (Int.fdiv d (2 ^ (min (8:Int).toNat u32.bits))),u8.wrap d]
def lx(a:Zg):Ŀ Int:=fw (if a.neg=true then u64.wrap (u64.wrap (2*u64.wrap (a.χ.length:Int))+1)else u64.wrap (2*u64.wrap (a.χ.length:Int)))++a.χ.flatMap fF
def mG(a:Zf):Ŀ Int:=lx a.num++lx a.den
def iG(m:Fin 8->Int):Nat->Ŀ Int
 |0=>[]
 |k+1=>iG m k++fw (u64.wrap (Θ m (k:Int)))
def fU(t:Za):Ŀ Int:=mG t.c++iG t.m 8
def fE(p:Ŀ Za):Ŀ Int:=fw (u64.wrap (p.length:Int))++p.flatMap fU
def fR(l:Ŀ (Ŀ Za)):Ŀ Int:=fw (u64.wrap (l.length:Int))++l.flatMap fE
def gW(k:Zb):Ŀ Int:=lz k.n++fR k.eqs++fR k.ε
def yp(f:Fin 8->Int)(a b:Nat):Fin 8->Int:=ζ (ζ f a (Θ f (b:Int))) b (Θ f (a:Int))
def oZ(f:Fin 8->Int)(b a:Nat):Nat->Fin 8->Int
 |0=>f
 |k+1=>yp (oZ f b a k) (b+k) (b+(a-1-k))
def kP(p:Fin 8->Int):Nat->ŀ Nat
 |0=>none
 |k+1=>if Θ p ((k+1:Nat):Int)<Θ p (k:Int)then kP p k else some k
def wc(p:Fin 8->Int)(x:Int):Nat->Nat
 |0=>0
 |j+1=>if Θ p ((j+1:Nat):Int)<x then wc p x j else j+1
def n2(n:Nat)(p:Fin 8->Int):ŀ (Fin 8->Int):=match kP p (n-1)with
 |none=>none
 |some i=>some (oZ (yp p i (wc p (Θ p (i:Int)) (n-1))) (i+1) (n-(i+1)) ((n-(i+1)) / 2))
def sQ(n:Nat):Nat->(Fin 8->Int)->Ŀ (Fin 8->Int)
 |0,_=>[]
 |k+1,p=>p::match n2 n p with|none=>[]|some q=>sQ n k q
def Δ(n:Nat):Ŀ (Fin 8->Int):=sQ n 24 λi=>(i.val:Int)
def kG(n:Int):Ŀ Int:=if 0<=n then lz n else fw (u64.wrap (u64.wrap (2*u64.wrap (i64.wrap (0-i64.wrap (n+1))))+1))
def fX(m:Fin 8->Int):Nat->Ŀ Int
 |0=>[]
 |k+1=>fX m k++kG (Θ m (k:Int))
def jG(o:Ŀ (Fin 8->Int)):Ŀ Int:=fw (u64.wrap (o.length:Int))++o.flatMap λm=>fX m 8
def oI(q:Zc):Ŀ Int:=kG q.kind++fE q.p++jG q.o
def ls(s t:Zd):Int:=if s.ξ<t.ξ then -1 else if t.ξ<s.ξ then 1 else if s.id<t.id then -1 else if t.id<s.id then 1 else 0
def AH:Ĳ:=⟨#[90,101,100]⟩
def AI:Ĳ:=⟨#[121,95,49]⟩
def AJ:Ĳ:=⟨#[120]⟩
def QZ:Ĳ:=⟨#[0,1,2,2,3,3,3,3,4,4,4,4,4,4,4,4,5,5,5,5,5,5,5,5,5,5,5,5,5,5,5,5,6,6,6,6,6,6,6,6,6,6,6,6,6,6,6,6,6,6,6,6,6,6,6,6,6,6,6,6,6,6,6,6,7,7,7,7,7,7,7,7,7,7,7,7,7,7,7,7,7,7,7,7,7,7,7,7,7,7,7,7,7,7,7,7,7,7,7,7,7,7,7,7,7,7,7,7,7,7,7,7,7,7,7,7,7,7,7,7,7,7,7,7,7,7,7,7,8,8,8,8,8,8,8,8,8,8,8,8,8,8,8,8,8,8,8,8,8,8,8,8,8,8,8,8,8,8,8,8,8,8,8,8,8,8,8,8,8,8,8,8,8,8,8,8,8,8,8,8,8,8,8,8,8,8,8,8,8,8,8,8,8,8,8,8,8,8,8,8,8,8,8,8,8,8,8,8,8,8,8,8,8,8,8,8,8,8,8,8,8,8,8,8,8,8,8,8,8,8,8,8,8,8,8,8,8,8,8,8,8,8,8,8,8,8,8,8,8,8,8,8,8,8,8,8]⟩
def O6(k:Int):Cq (Ŀ (Ŀ Za)):=Cq.ì (0<=k/\k<=1000000) (Cq.ret [])
def Znb(b:(Fin 8->Int))(c:(Fin 8->Int))(a:Int):Cq Int:=
 Cq.ì (0<=a/\a<8) (Cq.ì (0<=a/\a<8) (if(Θ b a)<(Θ c a)then(Cq.ret (-1))else(Cq.ret 1)))
def Zna(b:(Fin 8->Int))(c:(Fin 8->Int)):Int->Cq Int:=
 Cq.loop λd=>match d with|a=>Cq.ì (0<=a/\a<8) (Cq.ì (0<=a/\a<8) (if(Θ b a)=(Θ c a)then(Cq.ret (.inl (i64.wrap (a+1))))else(Cq.ret (.inr a))))
def yO(a:(Fin 8->Int))(b:(Fin 8->Int)):Cq Int:=
 if a=b then(Cq.ret 0)else(Cq.next (Zna a b 0) λc=>match c with|d=>Znb a b d)
def Pf(b:Za)(c:Za):Cq Int:=
 Cq.bind (yO c.m b.m) λa=>Cq.ret a
def Z1(l:Ŀ Za)(a b c:Int):Cq (Ŀ Za):=
 Cq.ì (a=0/\b=(l.length:Int)/\(0<=c/\c<1000000)/\l.length<=1000000) (Cq.any (λd=>d.Perm l/\d.Pairwise (λx y=>¬Ü x.m y.m<0)) Cq.ret)
def vh(a:Zg):Cq Int:=
 if(a.χ.length:Int)=0 then(Cq.ret 0)else(if a.neg=true then(Cq.ret (-1))else(Cq.ret 1))
def ZH(b:Zf):Cq Int:=
 Cq.bind (vh b.num) λa=>Cq.ret a
def Zm1(b:(Ŀ Int))(a:Int):Cq (Ŀ Int):=
 Cq.ì (0<=(0:Int)/\(0:Int)<=a/\a<=(b.length:Int)) (Cq.ret ((b.take a.toNat).drop (0:Int).toNat))
def Zm0(b:(Ŀ Int)):Int->Cq Int:=
 Cq.loop λc=>match c with|a=>if 0<a then(Cq.Κ b (i64.wrap (a-1)) λd=>if d=0 then(Cq.ret (.inl (i64.wrap (a-1))))else(Cq.ret (.inr a)))else(Cq.ret (.inr a))
def ZZ(a:(Ŀ Int)):Cq (Ŀ Int):=
 Cq.next (Zm0 a (a.length:Int)) λb=>match b with|c=>Zm1 a c
def As(a:Int):Cq (Ŀ Int):=
 Cq.bind (ZZ [u32.wrap a,u32.wrap (Int.fdiv a (2 ^ (min (32:Int).toNat u64.bits)))]) λb=>Cq.ret b
def ZS(b:Bool)(c:(Ŀ Int)):Cq Zg:=
 Cq.bind (ZZ c) λa=>if(a.length:Int)=0 then(Cq.ret (Zg.mk false []))else(Cq.ret (Zg.mk b a))
def yV(a:Int):Cq Zg:=
 if a<0 then(Cq.bind (As (u64.wrap (0-(u64.wrap a)))) λb=>Cq.bind (ZS (decide (a<0)) b) λc=>Cq.ret c)else(Cq.bind (As (u64.wrap a)) λd=>Cq.bind (ZS (decide (a<0)) d) λe=>Cq.ret e)
def wY(a:Zg):Cq Bool:=
 if a.neg=true then(Cq.ret false)else(if(a.χ.length:Int)=1 then(Cq.Κ a.χ 0 λb=>Cq.ret (decide (b=1)))else(Cq.ret false))
def ZjX(a:(Ŀ Int)):Cq (Ŀ Int):=
 Cq.bind (ZZ a) λb=>Cq.ret b
def ZjY(b:(Ŀ Int))(a:Int)(c:(Ŀ Int))(d:Int):Cq (((Ŀ Int)×Int)⊕(Ŀ Int)):=
 Cq.Κ c (i64.wrap (a+(b.length:Int))) λe=>Cq.ret (.inl ((c.set (i64.wrap (a+(b.length:Int))).toNat (u32.wrap d)),i64.wrap (a+1)))
def ZjW(e:(Ŀ Int))(b:Int)(f:Int):((Ŀ Int)×Int×Int)->Cq (((Ŀ Int)×Int)):=
 Cq.loop λi=>match i with|(c,d,a)=>if a<(e.length:Int)then(Cq.Κ e a λg=>Cq.Κ c (i64.wrap (b+a)) λh=>Cq.Κ c (i64.wrap (b+a)) λj=>Cq.ret (.inl ((c.set (i64.wrap (b+a)).toNat (u32.wrap (u64.wrap ((u64.wrap ((u64.wrap ((u64.wrap f)*(u64.wrap g)))+(u64.wrap h)))+d)))),Int.fdiv (u64.wrap ((u64.wrap ((u64.wrap ((u64.wrap f)*(u64.wrap g)))+(u64.wrap h)))+d)) (2 ^ (min (32:Int).toNat u64.bits)),i64.wrap (a+1))))else(Cq.ret (.inr (c,d)))
def ZjV(b:(Ŀ Int))(c:(Ŀ Int)):((Ŀ Int)×Int)->Cq (Ŀ Int):=
 Cq.loop λg=>match g with|(d,a)=>if a<(b.length:Int)then(Cq.Κ b a λh=>Cq.next (ZjW c a h (d,0,0)) λi=>match i with|(e,f)=>ZjY c a e f)else(Cq.ret (.inr d))
def Pq(a:(Ŀ Int))(b:(Ŀ Int)):Cq (Ŀ Int):=
 Cq.ì (0<=i64.wrap ((a.length:Int)+(b.length:Int))/\(i64.wrap ((a.length:Int)+(b.length:Int)))<=1000000) (Cq.next (ZjV a b ((List.replicate (i64.wrap ((a.length:Int)+(b.length:Int))).toNat 0),0)) λd=>match d with|c=>ZjX c)
def EK(a:Zg)(b:Zg):Cq Zg:=
 Cq.bind (Pq a.χ b.χ) λc=>Cq.bind (ZS (decide (¬a.neg=b.neg)) c) λd=>Cq.ret d
def Zje(a:Zg):Cq Zg:=
 Cq.ret a
def Zjd(d:(Ŀ Zg)):(Int×Zg)->Cq Zg:=
 Cq.loop λh=>match h with|(a,b)=>if a<(d.length:Int)then(Cq.Κ d a λc=>Cq.bind (wY c) λe=>if e=true then(Cq.ret (.inl (i64.wrap (a+1),b)))else(Cq.bind (wY b) λf=>if f=true then(Cq.ret (.inl (i64.wrap (a+1),c)))else(Cq.bind (EK b c) λg=>Cq.ret (.inl (i64.wrap (a+1),g)))))else(Cq.ret (.inr b))
def vm(c:(Ŀ Zg)):Cq Zg:=
 Cq.bind (yV 1) λa=>Cq.next (Zjd c (0,a)) λd=>match d with|b=>Zje b
def ZjU:Cq Int:=
 Cq.ret 0
def ZjT(b:(Ŀ Int))(c:(Ŀ Int)):Int->Cq (Int⊕Unit):=
 Cq.loop λd=>match d with|a=>if 0<=a then(Cq.Κ b a λe=>Cq.Κ c a λf=>if ¬e=f then(Cq.Κ b a λg=>Cq.Κ c a λh=>if g<h then(Cq.ret (.inr (.inl (-1))))else(Cq.ret (.inr (.inl 1))))else(Cq.ret (.inl (i64.wrap (a-1)))))else(Cq.ret (.inr (.inr ())))
def Au(a:(Ŀ Int))(b:(Ŀ Int)):Cq Int:=
 if ¬(a.length:Int)=(b.length:Int)then(if(a.length:Int)<(b.length:Int)then(Cq.ret (-1))else(Cq.ret 1))else(Cq.next (ZjT a b (i64.wrap ((a.length:Int)-1))) λd=>match d with|.inl c=>Cq.ret c|.inr ()=>ZjU)
def Rz(b:Zg)(c:Zg):Cq Int:=
 Cq.bind (vh b) λa=>Cq.bind (vh c) λd=>if ¬a=d then Cq.fail else(if a<0 then(Cq.bind (Au c.χ b.χ) λe=>Cq.ret e)else(Cq.bind (Au b.χ c.χ) λf=>Cq.ret f))
def vi(c:Zf)(d:Zf):Cq Int:=
 Cq.bind (ZH c) λa=>Cq.bind (ZH d) λb=>if ¬a=b then(if a<b then(Cq.ret (-1))else(Cq.ret 1))else(Cq.bind (vm [c.num,d.den]) λe=>Cq.bind (vm [d.num,c.den]) λf=>Cq.bind (Rz e f) λg=>Cq.ret g)
def Ea(a:Za)(b:Za):Cq Int:=
 if ¬a.m=b.m then(Cq.bind (yO a.m b.m) λd=>Cq.ret d)else(Cq.bind (vi a.c b.c) λe=>Cq.ret e)
def Zz(a:(Ŀ Za))(b:(Ŀ Za)):Cq Int:=
 if(a.length:Int)<(b.length:Int)then(Cq.ret (-1))else(Cq.ret 0)
def ZI(b:(Ŀ Za))(c:(Ŀ Za)):Int->Cq (Int⊕Unit):=
 Cq.loop λe=>match e with|a=>if a<(b.length:Int)then(Cq.Κ b a λf=>if(c.length:Int)<=a then(Cq.ret (.inr (.inl 1)))else(Cq.Κ c a λg=>Cq.bind (Ea f g) λd=>if ¬d=0 then(Cq.ret (.inr (.inl d)))else(Cq.ret (.inl (i64.wrap (a+1))))))else(Cq.ret (.inr (.inr ())))
def ZB(a:(Ŀ Za))(b:(Ŀ Za)):Cq Int:=
 Cq.next (ZI a b 0) λd=>match d with|.inl c=>Cq.ret c|.inr ()=>Zz a b
def Eh(b:(Ŀ Za))(c:(Ŀ Za)):Cq Int:=
 Cq.bind (ZB b c) λa=>Cq.ret a
def O8(l:Ŀ (Ŀ Za))(a b c:Int):Cq (Ŀ (Ŀ Za)):=
 Cq.ì (a=0/\b=(l.length:Int)/\(0<=c/\c<1000000)/\l.length<=1000000/\l.all Ó=true) (Cq.ret (jF l))
def D'(a:Za)(b:Za):Cq Bool:=
 if a.m=b.m then(Cq.bind (vi a.c b.c) λd=>Cq.ret (decide (d=0)))else(Cq.ret false)
def Z5:Cq Bool:=
 Cq.ret true
def ZJ(b:(Ŀ Za))(c:(Ŀ Za)):Int->Cq (Bool⊕Unit):=
 Cq.loop λe=>match e with|a=>if a<(b.length:Int)then(Cq.Κ b a λf=>Cq.Κ c a λg=>Cq.bind (D' f g) λd=>if(!d)=true then(Cq.ret (.inr (.inl false)))else(Cq.ret (.inl (i64.wrap (a+1)))))else(Cq.ret (.inr (.inr ())))
def ZC(a:(Ŀ Za))(b:(Ŀ Za)):Cq Bool:=
 if ¬(a.length:Int)=(b.length:Int)then(Cq.ret false)else(Cq.next (ZJ a b 0) λd=>match d with|.inl c=>Cq.ret c|.inr ()=>Z5)
def ZU(b:(Ŀ Za))(c:(Ŀ Za)):Cq Bool:=
 Cq.bind (ZC b c) λa=>Cq.ret a
def Zj4(a:Int)(b:Int):Cq Int:=
 Cq.ì (0<=(u8.wrap a:Int)/\(u8.wrap a)<(QZ.size:Int)) (Cq.ret (i64.wrap (b+(i64.wrap (eN QZ (u8.wrap a))))))
def Zj5(a:Int)(b:Int):Cq Int:=
 if 256<=a then Cq.fail else(Zj4 a b)
def Zj6(a:Int)(b:Int):Cq Int:=
 if 65536<=a then Cq.fail else(Zj5 a b)
def Pr(a:Int):Cq Int:=
 if 4294967296<=a then Cq.fail else(Zj6 a 0)
def tW(b:Int):Cq Int:=
 Cq.bind (Pr b) λa=>Cq.ret a
def ZQ(a:(Ŀ (Ŀ Za))):Cq ((Ŀ (Ŀ Za))):=
 Cq.bind (tW (u64.wrap (a.length:Int))) λb=>Cq.bind (O8 a 0 (a.length:Int) b) λc=>Cq.ret c
def Ar(a:(Ŀ Int)):Cq (Ŀ Int):=
 Cq.ì (([]++a).length<=small) (Cq.ret ([]++a))
def Zl9(a:Int):Cq Int:=
 Cq.ret a
def Zl8(b:(Ŀ Int)):(Int×Int)->Cq Int:=
 Cq.loop λd=>match d with|(c,a)=>if a<(b.length:Int)then(Cq.Κ b a λe=>Cq.ì (0<=(i64.wrap (32*a))) (Cq.ret (.inl (u64.wrap (BitVec.ofInt u64.bits c ||| BitVec.ofInt u64.bits (u64.wrap ((u64.wrap e)*2 ^ (min (i64.wrap (32*a)).toNat u64.bits)))).toNat,i64.wrap (a+1)))))else(Cq.ret (.inr c))
def J1(a:(Ŀ Int)):Cq Int:=
 Cq.next (Zl8 a (0,0)) λb=>match b with|c=>Zl9 c
def Zg7(c:(Ŀ Int))(a:Int):Cq ((Ŀ Int)×Int):=
 Cq.bind (ZZ c) λb=>Cq.ret (b,a)
def Zg6(f:(Ŀ Int))(c:Int):((Ŀ Int)×Int×Int)->Cq (((Ŀ Int)×Int)):=
 Cq.loop λg=>match g with|(d,a,b)=>if 0<=b then(Cq.Κ f b λe=>Cq.ì (c≠0) (Cq.Κ d b λh=>Cq.ì (c≠0) (Cq.ret (.inl ((d.set b.toNat (u32.wrap (u64.wrap (Int.tdiv (u64.wrap (BitVec.ofInt u64.bits (u64.wrap (a*2 ^ (min (32:Int).toNat u64.bits))) ||| BitVec.ofInt u64.bits (u64.wrap e)).toNat) c)))),Int.tmod (u64.wrap (BitVec.ofInt u64.bits (u64.wrap (a*2 ^ (min (32:Int).toNat u64.bits))) ||| BitVec.ofInt u64.bits (u64.wrap e)).toNat) c,i64.wrap (b-1))))))else(Cq.ret (.inr (d,a)))
def Pd(a:(Ŀ Int))(c:Int):Cq ((Ŀ Int)×Int):=
 Cq.ì (0<=(a.length:Int)/\(a.length:Int)<=1000000) (Cq.next (Zg6 a c ((List.replicate (a.length:Int).toNat 0),0,i64.wrap ((a.length:Int)-1))) λd=>match d with|(e,b)=>Zg7 e b)
def JL(d:(Ŀ Int))(e:(Ŀ Int)):Cq ((Ŀ Int)×(Ŀ Int)):=
 Cq.bind (ZZ d) λa=>Cq.bind (ZZ e) λb=>Cq.bind (Au a b) λf=>if f<0 then(Cq.bind (Ar a) λg=>Cq.ret ([],g))else(if(b.length:Int)=1 then(Cq.Κ b 0 λi=>Cq.bind (Pd a (u64.wrap i)) λc=>Cq.bind (As c.2) λh=>Cq.ret (c.1,h))else Cq.fail)
def Zn9(b:(Ŀ Int)):Cq Zg:=
 Cq.bind (ZS false b) λa=>Cq.ret a
def Zoa(c:Int):Cq (((Ŀ Int)×(Ŀ Int)×Zg)⊕(Zg⊕((Ŀ Int)×Zg))):=
 Cq.bind (As c) λb=>Cq.bind (ZS false b) λa=>Cq.ret (.inr (.inl a))
def Zn8:(Int×Int)->Cq Int:=
 Cq.loop λc=>match c with|(b,a)=>if 0<a then(Cq.ì (a≠0) (Cq.ret (.inl (a,Int.tmod b a))))else(Cq.ret (.inr b))
def JK(d:(Ŀ Int))(a:(Ŀ Int))(e:Zg)(b:Bool):Cq (((Ŀ Int)×(Ŀ Int)×Zg)⊕(Zg⊕((Ŀ Int)×Zg))):=
 if b=true then(Cq.bind (J1 d) λf=>Cq.bind (J1 a) λg=>Cq.next (Zn8 (f,g)) λh=>match h with|i=>Zoa i)else(Cq.bind (JL d a) λc=>Cq.ret (.inl (a,c.2,e)))
def Zn7:((Ŀ Int)×(Ŀ Int)×Zg)->Cq (Zg⊕((Ŀ Int)×Zg)):=
 Cq.loop λd=>match d with|(c,a,b)=>if 0<(a.length:Int)then(if(c.length:Int)<=2 then(JK c a b (decide ((a.length:Int)<=2)))else(JK c a b false))else(Cq.ret (.inr (.inr (c,b))))
def xl(f:Zg)(g:Zg):Cq Zg:=
 Cq.bind (ZZ f.χ) λa=>Cq.bind (Ar a) λb=>Cq.bind (ZZ g.χ) λc=>Cq.bind (Ar c) λd=>Cq.next (Zn7 (b,d,(Zg.mk false []))) λh=>match h with|.inl e=>Cq.ret e|.inr (i,j)=>Zn9 i
def JI(a:Zg):Cq Bool:=
 if(a.χ.length:Int)=0 then(Cq.ret (!a.neg))else(Cq.Κ a.χ (i64.wrap ((a.χ.length:Int)-1)) λb=>Cq.ret (decide (¬b=0)))
def ZkY(a:Zf):Cq Bool:=
 Cq.bind (wY a.den) λb=>match b with|false=>(Cq.bind (xl a.num a.den) λc=>Cq.bind (wY c) λd=>Cq.ret d)|true=>(Cq.ret true)
def Z0(a:Zf):Cq Bool:=
 Cq.bind (JI a.num) λb=>match b with|false=>(Cq.ret false)|true=>(Cq.bind (JI a.den) λc=>match c with|false=>(Cq.ret false)|true=>(Cq.bind (vh a.den) λd=>if d<=0 then Cq.fail else(ZkY a)))
def ZkX:Cq Bool:=
 Cq.ret true
def ZkW(b:(Fin 8->Int)):Int->Cq (Bool⊕Unit):=
 Cq.loop λc=>match c with|a=>if a<8 then(Cq.ì (0<=a/\a<8) (if(Θ b a)<0 then(Cq.ret (.inr (.inl false)))else(if 65535<(Θ b a)then Cq.fail else(Cq.ret (.inl (i64.wrap (a+1)))))))else(Cq.ret (.inr (.inr ())))
def Ef(b:(Fin 8->Int)):Cq Bool:=
 Cq.next (ZkW b 0) λc=>match c with|.inl a=>Cq.ret a|.inr ()=>ZkX
def Zjc:Cq Bool:=
 Cq.ret true
def Jd(c:(Ŀ Za))(a:Int)(d:Za):Cq (Int⊕(Bool⊕Unit)):=
 if 0<a then(Cq.Κ c (i64.wrap (a-1)) λe=>Cq.bind (yO e.m d.m) λb=>if b<=0 then Cq.fail else(Cq.ret (.inl (i64.wrap (a+1)))))else(Cq.ret (.inl (i64.wrap (a+1))))
def Zjb(d:(Ŀ Za)):Int->Cq (Bool⊕Unit):=
 Cq.loop λh=>match h with|a=>if a<(d.length:Int)then(Cq.Κ d a λb=>Cq.bind (Z0 b.c) λe=>match e with|false=>(Cq.ret (.inr (.inl false)))|true=>(Cq.bind (ZH b.c) λf=>if f=0 then(Cq.ret (.inr (.inl false)))else(Cq.bind (Ef b.m) λg=>if(!g)=true then(Cq.ret (.inr (.inl false)))else(Jd d a b))))else(Cq.ret (.inr (.inr ())))
def Ap(b:(Ŀ Za)):Cq Bool:=
 Cq.next (Zjb b 0) λc=>match c with|.inl a=>Cq.ret a|.inr ()=>Zjc
def Zi8(a:Int):Cq Int:=
 Cq.ret a
def Zi7(c:(Fin 8->Int)):(Int×Int)->Cq Int:=
 Cq.loop λd=>match d with|(b,a)=>if a<8 then(Cq.ì (0<=a/\a<8) (if 0<(Θ c a)then(Cq.ì (0<=a) (Cq.ret (.inl (u8.wrap (BitVec.ofInt u8.bits b ||| BitVec.ofInt u8.bits (u8.wrap (1*2 ^ (min (a).toNat u8.bits)))).toNat,i64.wrap (a+1)))))else(Cq.ret (.inl (b,i64.wrap (a+1))))))else(Cq.ret (.inr b))
def Jv(a:(Fin 8->Int)):Cq Int:=
 Cq.next (Zi7 a (0,0)) λb=>match b with|c=>Zi8 c
def Zkj(a:Int):Cq Int:=
 Cq.ret a
def Zki(b:(Ŀ Za)):(Int×Int)->Cq Int:=
 Cq.loop λe=>match e with|(c,a)=>if a<(b.length:Int)then(Cq.Κ b a λf=>Cq.bind (Jv f.m) λd=>Cq.ret (.inl (u8.wrap (BitVec.ofInt u8.bits c ||| BitVec.ofInt u8.bits d).toNat,i64.wrap (a+1))))else(Cq.ret (.inr c))
def Av(a:(Ŀ Za)):Cq Int:=
 Cq.next (Zki a (0,0)) λb=>match b with|c=>Zkj c
def Zj9(a:Int):Cq Int:=
 Cq.ret a
def Zj8(c:(Fin 8->Int)):(Int×Int)->Cq Int:=
 Cq.loop λd=>match d with|(b,a)=>if a<8 then(Cq.ì (0<=a/\a<8) (Cq.ret (.inl (i64.wrap (b+(Θ c a)),i64.wrap (a+1)))))else(Cq.ret (.inr b))
def Jq(a:(Fin 8->Int)):Cq Int:=
 Cq.next (Zj8 a (0,0)) λb=>match b with|c=>Zj9 c
def Ziq(a:Int):Cq Int:=
 Cq.ret a
def Zio(d:(Ŀ Za)):(Int×Int)->Cq Int:=
 Cq.loop λe=>match e with|(c,a)=>if a<(d.length:Int)then(Cq.Κ d a λf=>Cq.bind (Jq f.m) λb=>Cq.ret (.inl (if c<b then b else c,i64.wrap (a+1))))else(Cq.ret (.inr c))
def wZ(a:(Ŀ Za)):Cq Int:=
 Cq.next (Zio a ((-1),0)) λb=>match b with|c=>Ziq c
def ç(a:ZD)(b:(Ŀ Za))(f:Int):Cq Bool:=
 Cq.bind (Ap b) λc=>match c with|false=>(Cq.ret false)|true=>(Cq.bind (Av b) λd=>Cq.ì (0<=a.k.n) (if(Int.fdiv (i64.wrap d) (2 ^ (min (a.k.n).toNat i64.bits)))=0 then(Cq.bind (wZ b) λe=>Cq.ret (decide (e<=f)))else(Cq.ret false)))
def ZkV(d:Zg)(e:Zg)(f:(Ŀ Int))(a:(Ŀ Int)):Cq (Zg×Zg×Int):=
 Cq.bind (ZS (decide (¬d.neg=e.neg)) f) λb=>Cq.bind (ZS false a) λc=>Cq.ret (b,c,0)
def Po(c:Zg)(d:Zg)(b:(Ŀ Int)×(Ŀ Int))(a:Bool):Cq (Zg×Zg×Int):=
 if a=true then Cq.fail else(ZkV c d b.1 b.2)
def Ay(b:Zg)(c:Zg):Cq (Zg×Zg×Int):=
 Cq.bind (ZZ c.χ) λd=>if(d.length:Int)=0 then Cq.fail else(Cq.bind (JL b.χ c.χ) λa=>if b.neg=true then(Po b c a (decide (0<(a.2.length:Int))))else(Po b c a false))
def Aw(c:Zg)(a:Zg):Cq Zf:=
 Cq.bind (wY a) λd=>if d=true then(Cq.ret (Zf.mk c a))else(Cq.bind (xl c a) λb=>Cq.bind (wY b) λe=>if e=true then(Cq.ret (Zf.mk c a))else(Cq.bind (Ay c b) λf=>Cq.bind (Ay a b) λg=>Cq.ret (Zf.mk f.1 g.1)))
def Eu(e:Zg)(a:Zg):Cq (Zf×Int):=
 Cq.bind (vh a) λb=>if b=0 then Cq.fail else(Cq.bind (vh a) λc=>if c<0 then Cq.fail else(Cq.bind (Aw e a) λd=>Cq.ret (d,0)))
def Znd(a:(Fin 8->Int)):Cq ((Fin 8->Int)×Int):=
 Cq.bind (Ef a) λb=>if(!b)=true then Cq.fail else(Cq.ret (a,0))
def Znc(c:(Fin 8->Int)):(Int×(Fin 8->Int))->Cq (Fin 8->Int):=
 Cq.loop λd=>match d with|(a,b)=>if a<8 then(Cq.ì (0<=a/\a<8) (Cq.ì (0<=a/\a<8) (Cq.ì (0<=a/\a<8) (Cq.ret (.inl (i64.wrap (a+1),ζ b a.toNat (i64.wrap ((Θ b a)+(Θ c a)))))))))else(Cq.ret (.inr b))
def JU(b:(Fin 8->Int))(c:(Fin 8->Int)):Cq ((Fin 8->Int)×Int):=
 Cq.next (Znc c (0,b)) λd=>match d with|a=>Znd a
def Z9(c:Zf)(d:Zf):Cq Zf:=
 Cq.bind (Aw c.num d.den) λa=>Cq.bind (Aw d.num c.den) λb=>Cq.bind (vm [a.num,b.num]) λe=>Cq.bind (vm [a.den,b.den]) λf=>Cq.ret (Zf.mk e f)
def Zja(a:(Ŀ Za)):Cq ((Ŀ Za)×Int):=
 Cq.ret (a,0)
def Zi9(h:Zf)(i:(Fin 8->Int))(f:(Ŀ Za)):((Ŀ Za)×Int)->Cq (((Ŀ Za)×Int)⊕(Ŀ Za)):=
 Cq.loop λj=>match j with|(b,a)=>if a<(f.length:Int)then(Cq.Κ f a λg=>Cq.bind (JU i g.m) λd=>if ¬d.2=0 then Cq.fail else(Cq.bind (Z9 h g.c) λe=>Cq.ì ((b++[(Za.mk e d.1)]).length<=small) (Cq.ret (.inl ((b++[(Za.mk e d.1)]),i64.wrap (a+1))))))else(Cq.ret (.inr (.inr b)))
def Jw(b:Zf)(f:(Fin 8->Int))(a:(Ŀ Za)):Cq ((Ŀ Za)×Int):=
 Cq.bind (ZH b) λc=>if c=0 then Cq.fail else(Cq.ì (0<=(a.length:Int)/\(a.length:Int)<=1000000) (Cq.next (Zi9 b f a (([]:Ŀ Za),0)) λg=>match g with|.inl d=>Cq.ret d|.inr e=>Zja e))
def yH(a:Zg):Cq Zg:=
 Cq.bind (Ar a.χ) λb=>Cq.bind (ZS (!a.neg) b) λc=>Cq.ret c
def PO(a:(Ŀ Za))(b:Zg)(c:Zg):Cq (Ŀ Za):=
 Cq.bind (Eu c b) λd=>Cq.bind (Jw d.1 (λ_=>0) a) λe=>Cq.ret e.1
def JO(a:(Ŀ Za))(b:Zg)(d:Zg):Cq (Ŀ Za):=
 Cq.Κ a 0 λg=>Cq.bind (ZH g.c) λe=>if e<0 then(Cq.bind (yH d) λf=>PO a b f)else(PO a b d)
def PN(b:(Ŀ Za)):(Int×Zg×Zg)->Cq (Zg×Zg):=
 Cq.loop λk=>match k with|(a,e,d)=>if a<(b.length:Int)then(Cq.Κ b a λf=>Cq.bind (xl e f.c.num) λh=>Cq.bind (xl d f.c.den) λi=>Cq.bind (Ay f.c.den i) λj=>Cq.bind (EK d j.1) λg=>Cq.ret (.inl (i64.wrap (a+1),h,g)))else(Cq.ret (.inr (e,d)))
def AD(a:(Ŀ Za)):Cq (Ŀ Za):=
 if(a.length:Int)=0 then Cq.fail else(Cq.bind (yV 0) λb=>Cq.bind (yV 1) λc=>Cq.next (PN a (0,b,c)) λf=>match f with|(d,e)=>JO a d e)
def gd:Cq Bool:=
 Cq.ret true
def gb(e:ZD)(d:(Ŀ (Ŀ Za)))(b:Int):Int->Cq (Bool⊕Unit):=
 Cq.loop λk=>match k with|a=>if a<(d.length:Int)then(Cq.Κ d a λc=>Cq.bind (ç e c 12) λf=>match f with|false=>(Cq.ret (.inr (.inl false)))|true=>(Cq.bind (wZ c) λg=>if g<b then(Cq.ret (.inr (.inl false)))else(Cq.bind (AD c) λh=>Cq.bind (ZU h c) λi=>if(!i)=true then(Cq.ret (.inr (.inl false)))else(if 0<a then(Cq.Κ d (i64.wrap (a-1)) λl=>Cq.bind (Eh l c) λj=>if 0<=j then(Cq.ret (.inr (.inl false)))else(Cq.ret (.inl (i64.wrap (a+1)))))else(Cq.ret (.inl (i64.wrap (a+1))))))))else(Cq.ret (.inr (.inr ())))
def Á(b:ZD)(c:(Ŀ (Ŀ Za)))(a:Int):Cq Bool:=
 if 12<(c.length:Int)then(Cq.ret false)else(Cq.next (gb b c a 0) λe=>match e with|.inl d=>Cq.ret d|.inr ()=>gd)
def Ä(a:ZD):Cq Bool:=
 if 1<=a.k.n then(if a.k.n<=4 then(Cq.bind (Á a a.k.eqs 0) λb=>match b with|false=>(Cq.ret false)|true=>(Cq.bind (Á a a.k.ε 1) λc=>Cq.ret c))else(Cq.ret false))else(Cq.ret false)
def vk(b:Zb):Cq Bool:=
 Cq.bind (Ä (ZD.mk b)) λa=>Cq.ret a
def vp(k:Zb):Cq Ĳ:=Cq.bind (vk k) λv=>match v with|true=>Cq.ì (0<=k.n/\(gW k).length<=1000000) (Cq.ret (bytesOf (gW k)))|false=>Cq.ret ByteArray.empty
def ZK(a:(Ŀ Za)):Cq (Ŀ Za):=
 Cq.bind (tW (u64.wrap (a.length:Int))) λb=>Cq.bind (Z1 a 0 (a.length:Int) b) λc=>Cq.ret c
def Zis(a:(Ŀ Za)):Cq (Ŀ Za):=
 Cq.bind (ZK a) λb=>Cq.ret b
def Zir:((Ŀ Za)×Ŀ ((Fin 8->Int)×Zf))->Cq (Ŀ Za):=
 Cq.loop λd=>match d with|(a,f)=>Cq.pick f (Cq.ret (.inr a)) λb e=>Cq.bind (ZH b.2) λc=>if ¬c=0 then(Cq.ì ((a++[(Za.mk b.2 b.1)]).length<=small) (Cq.ret (.inl ((a++[(Za.mk b.2 b.1)]),e))))else(Cq.ret (.inl (a,e)))
def Jl(a:(Ŀ ((Fin 8->Int)×Zf))):Cq (Ŀ Za):=
 Cq.ì (0<=(a.length:Int)/\(a.length:Int)<=1000000) (Cq.next (Zir (([]:Ŀ Za),a)) λc=>match c with|b=>Zis b)
def Zhx(a:(Ŀ ((Fin 8->Int)×Zf))):Cq ((Ŀ Za)×Int):=
 Cq.bind (Jl a) λb=>Cq.ret (b,0)
def Zhy(b:Int)(d:(Ŀ ((Fin 8->Int)×Zf)))(e:Za)(a:(Fin 8->Int)):Cq ((Int×(Ŀ ((Fin 8->Int)×Zf)))⊕(((Ŀ ((Fin 8->Int)×Zf))))):=
 Cq.ì ((∀i,(Lit.int i64 (a i)).wf=true)/\(eT d a e.c).length<=small) (Cq.ret (.inl (i64.wrap (b+1),(eT d a e.c))))
def Ph(b:(Fin 8->Int))(d:Za):(Int×(Fin 8->Int))->Cq (Fin 8->Int):=
 Cq.loop λe=>match e with|(a,c)=>if a<8 then(Cq.ì (0<=a/\a<8) (Cq.ì (0<=a/\a<8) (Cq.ì (0<=Θ b a/\(Θ b a)<8) (Cq.ret (.inl (i64.wrap (a+1),ζ c ((Θ b a).toNat) (Θ d.m a)))))))else(Cq.ret (.inr c))
def Zhv(d:(Ŀ Za))(b:(Fin 8->Int)):(Int×(Ŀ ((Fin 8->Int)×Zf)))->Cq (((Ŀ ((Fin 8->Int)×Zf)))):=
 Cq.loop λg=>match g with|(a,c)=>if a<(d.length:Int)then(Cq.Κ d a λe=>Cq.next (Ph b e (0,(λ_=>0))) λh=>match h with|f=>Zhy a c e f)else(Cq.ret (.inr c))
def Pj(c:(Ŀ Za))(a:(Fin 8->Int)):Cq ((Ŀ Za)×Int):=
 Cq.next (Zhv c a (0,[])) λd=>match d with|b=>Zhx b
def Zhw(b:(Fin 8->Int)):(Int×(Fin 8->Bool))->Cq (((Ŀ Za)×Int)⊕Unit):=
 Cq.loop λd=>match d with|(a,c)=>if a<8 then(Cq.ì (0<=a/\a<8) (if(Θ b a)<0 then(Cq.ret (.inr (.inl ([],1))))else(if 8<=(Θ b a)then(Cq.ret (.inr (.inl ([],1))))else(Cq.ì (0<=Θ b a/\(Θ b a)<8) (if(Θ c (Θ b a))=true then Cq.fail else(Cq.ì (0<=Θ b a/\(Θ b a)<8) (Cq.ret (.inl (i64.wrap (a+1),ζ c ((Θ b a).toNat) true)))))))))else(Cq.ret (.inr (.inr ())))
def D9(c:(Ŀ Za))(a:(Fin 8->Int)):Cq ((Ŀ Za)×Int):=
 Cq.next (Zhw a (0,(λ_=>false))) λd=>match d with|.inl b=>Cq.ret b|.inr ()=>Pj c a
def Zkv(a:(Ŀ (Ŀ Za))):Cq ((Ŀ (Ŀ Za))):=
 Cq.ret a
def Zku(d:(Ŀ (Ŀ Za)))(c:(Fin 8->Int)):((Ŀ (Ŀ Za))×Int)->Cq (((Ŀ (Ŀ Za)))):=
 Cq.loop λf=>match f with|(b,a)=>if a<(d.length:Int)then(Cq.Κ d a λg=>Cq.bind (D9 g c) λe=>Cq.Κ b a λh=>Cq.ret (.inl ((b.set a.toNat e.1),i64.wrap (a+1))))else(Cq.ret (.inr b))
def Ax(a:(Ŀ (Ŀ Za)))(b:(Fin 8->Int)):Cq ((Ŀ (Ŀ Za))):=
 Cq.ì (0<=(a.length:Int)/\(a.length:Int)<=1000000) (Cq.next (Zku a b ((List.replicate (a.length:Int).toNat []),0)) λd=>match d with|c=>Zkv c)
def ZcO(a:(Ŀ (Ŀ Za))):Cq ((Ŀ (Ŀ Za))):=
 Cq.ret a
def ZcM(b:(Ŀ (Ŀ (Ŀ Za)))):((Ŀ (Ŀ Za))×Int)->Cq (((Ŀ (Ŀ Za)))):=
 Cq.loop λe=>match e with|(a,c)=>if c<(b.length:Int)then(Cq.Κ b c λd=>Cq.ì ((a++d).length<=small) (Cq.ret (.inl ((a++d),i64.wrap (c+1)))))else(Cq.ret (.inr a))
def ZcP(b:(Ŀ (Ŀ (Ŀ Za))))(c:Int):Cq ((Ŀ (Ŀ Za))):=
 Cq.bind (O6 c) λd=>Cq.next (ZcM b (d,0)) λe=>match e with|a=>ZcO a
def ZcN(a:(Ŀ (Ŀ (Ŀ Za)))):(Int×Int)->Cq Int:=
 Cq.loop λe=>match e with|(b,c)=>if c<(a.length:Int)then(Cq.Κ a c λd=>if(i64.wrap (b+(d.length:Int)))<0 then Cq.fail else(Cq.ret (.inl (i64.wrap (b+(d.length:Int)),i64.wrap (c+1)))))else(Cq.ret (.inr b))
def Jc(a:(Ŀ (Ŀ (Ŀ Za)))):Cq ((Ŀ (Ŀ Za))):=
 Cq.next (ZcN a (0,0)) λc=>match c with|b=>ZcP a b
def PT(b:Zg):Cq Zf:=
 Cq.bind (yV 1) λa=>Cq.ret (Zf.mk b a)
def wX(c:Int):Cq Zf:=
 Cq.bind (yV c) λa=>Cq.bind (PT a) λb=>Cq.ret b
def D2(a:Zf):Cq (Ŀ Za):=
 Cq.bind (ZH a) λb=>if b=0 then Cq.fail else(Cq.ret [(Za.mk a (λ_=>0))])
def KD(a:(Ŀ Za))(b:Int):Cq Bool:=
 Cq.bind (Ap a) λc=>match c with|false=>(Cq.ret false)|true=>(Cq.bind (Av a) λd=>Cq.ì (0<=b) (if(Int.fdiv (i64.wrap d) (2 ^ (min (b).toNat i64.bits)))=0 then(Cq.bind (wZ a) λe=>Cq.ret (decide (e<=12)))else(Cq.ret false)))
def Pv(e:Int)(a:(Ŀ (Ŀ Za)))(b:(Ŀ (Ŀ Za))):Cq (Zb×Int):=
 Cq.bind (Eb a) λc=>Cq.bind (Eb b) λd=>if 12<(c.length:Int)then(Cq.ret ((Zb.mk 0 [] []),2))else(if 12<(d.length:Int)then(Cq.ret ((Zb.mk 0 [] []),2))else(Cq.ret ((Zb.mk e c d),0)))
def Zmu(d:(Ŀ (Ŀ Za))):((Ŀ (Ŀ Za))×(Ŀ (Ŀ Za))×Int)->Cq (((Ŀ (Ŀ Za))×(Ŀ (Ŀ Za)))):=
 Cq.loop λj=>match j with|(a,b,c)=>if c<(d.length:Int)then(Cq.Κ d c λg=>if(g.length:Int)=0 then(Cq.bind (wX 1) λh=>Cq.bind (D2 h) λe=>Cq.ì ((a++[e]).length<=small) (Cq.ret (.inl ((a++[e]),b,i64.wrap (c+1)))))else(Cq.bind (wZ g) λi=>if 0<i then(Cq.bind (AD g) λf=>Cq.ì ((b++[f]).length<=small) (Cq.ret (.inl (a,(b++[f]),i64.wrap (c+1)))))else(Cq.ret (.inl (a,b,i64.wrap (c+1))))))else(Cq.ret (.inr (a,b)))
def Pw(d:Int)(e:(Ŀ (Ŀ Za)))(a:(Ŀ (Ŀ Za))):Cq (Zb×Int):=
 Cq.next (Zmu e (a,[],0)) λf=>match f with|(b,c)=>Pv d b c
def Zmv(c:(Ŀ (Ŀ Za))):((Ŀ (Ŀ Za))×Int)->Cq (((Ŀ (Ŀ Za)))):=
 Cq.loop λf=>match f with|(a,b)=>if b<(c.length:Int)then(Cq.Κ c b λe=>if 0<(e.length:Int)then(Cq.bind (AD e) λd=>Cq.ì ((a++[d]).length<=small) (Cq.ret (.inl ((a++[d]),i64.wrap (b+1)))))else(Cq.ret (.inl (a,i64.wrap (b+1)))))else(Cq.ret (.inr a))
def Px(b:Int)(c:(Ŀ (Ŀ Za)))(d:(Ŀ (Ŀ Za))):Cq (Zb×Int):=
 Cq.next (Zmv c ([],0)) λe=>match e with|a=>Pw b d a
def Pu(d:Int)(b:(Ŀ (Ŀ Za))):(Int×Zb)->Cq ((Zb×Int)⊕Zb):=
 Cq.loop λf=>match f with|(a,c)=>if a<(b.length:Int)then(Cq.Κ b a λg=>Cq.bind (KD g d) λe=>if(!e)=true then(Cq.ret (.inr (.inl ((Zb.mk 0 [] []),1))))else(Cq.ret (.inl (i64.wrap (a+1),c))))else(Cq.ret (.inr (.inr c)))
def Py(a:Int)(b:(Ŀ (Ŀ Za)))(c:(Ŀ (Ŀ Za)))(d:Zb):Cq (Zb×Int):=
 Cq.bind (Jc [b,c]) λe=>Cq.next (Pu a e (0,d)) λg=>match g with|.inl f=>Cq.ret f|.inr h=>Px a b c
def Ep(a:Int)(b:(Ŀ (Ŀ Za)))(c:(Ŀ (Ŀ Za))):Cq (Zb×Int):=
 if a<1 then(Cq.ret ((Zb.mk 0 [] []),1))else(if 4<a then(Cq.ret ((Zb.mk 0 [] []),1))else(Py a b c (Zb.mk 0 [] [])))
def sc(k:Zb)(p:(Fin 8->Int))(s:Zb×(Fin 8->Int)×Ĳ):Cq (Zb×(Fin 8->Int)×Ĳ):=Cq.bind (Ax k.eqs p) λa=>Cq.bind (Ax k.ε p) λb=>Cq.bind (Ep k.n a b) λr=>if ¬r.2=0 then Cq.ret s else Cq.bind (vp r.1) λt=>if s.2.2=ByteArray.empty then Cq.ret (r.1,p,t)else if Op.bytesLess t.toList s.2.2.toList=true then Cq.ret (r.1,p,t)else Cq.ret s
def nj(k:Zb):Ŀ (Fin 8->Int)->(Zb×(Fin 8->Int)×Ĳ)->Cq (Zb×(Fin 8->Int)×Ĳ)
 |[],s=>Cq.ret s
 |p::l,s=>Cq.bind (sc k p s) λs'=>nj k l s'
def Ew(k:Zb):Cq (Zb×(Fin 8->Int)):=Cq.ì (1<=k.n/\k.n<=4) (Cq.bind (nj k (Δ k.n.toNat) (⟨0,[],[]⟩,(λ_=>0),ByteArray.empty)) λs=>Cq.ret (s.1,s.2.1))
def A1(q:Zc):Cq Ĳ:=Cq.ì ((oI q).length<=1000000) (Cq.ret (bytesOf (oI q)))
def cmp_isNaN_int(a:Int):Cq Bool:=
 Cq.ret (decide (¬a=a))
def D7(b:Int)(a:Int):Cq Int:=
 Cq.bind (cmp_isNaN_int b) λc=>Cq.bind (cmp_isNaN_int a) λd=>if c=true then Cq.fail else(if d=true then Cq.fail else(if b<a then(Cq.ret (-1))else(if a<b then(Cq.ret 1)else(Cq.ret 0))))
def ZpE:Cq Int:=
 Cq.ret 0
def ZpD(b:(Ŀ Int)):Int->Cq (Int⊕Unit):=
 Cq.loop λd=>match d with|a=>if a<(b.length:Int)then(Cq.Κ b a λc=>if ¬c=0 then(Cq.ret (.inr (.inl c)))else(Cq.ret (.inl (i64.wrap (a+1)))))else(Cq.ret (.inr (.inr ())))
def Kp(a:(Ŀ Int)):Cq Int:=
 Cq.next (ZpD a 0) λc=>match c with|.inl b=>Cq.ret b|.inr ()=>ZpE
def J5(a:Zd)(b:Zd):Cq Int:=
 Cq.bind (D7 a.ξ b.ξ) λc=>Cq.bind (D7 a.id b.id) λd=>Cq.bind (Kp [c,d]) λe=>Cq.ret e
def Pa(l:Ŀ Zd)(a b c:Int):Cq (Ŀ Zd):=
 Cq.ì (a=0/\b=(l.length:Int)/\(0<=c/\c<1000000)/\l.length<=1000000) (Cq.any (λd=>d.Perm l/\d.Pairwise (λx y=>¬ls y x<0)) Cq.ret)
def Jr(b:Zc)(a:Bool):Cq (Ŀ Zc):=
 if a=true then(Cq.ret [(Zc.mk 5 [] [])])else(if b.kind=7 then(Cq.ret [(Zc.mk 6 [] [])])else(Cq.ret []))
def Js(a:Zc)(b:Bool):Cq (Ŀ Zc):=
 if b=true then(Cq.ret [(Zc.mk 4 [] [])])else(if a.kind=6 then(Jr a (decide (a.kind=6)))else(Jr a (decide (a.kind=10))))
def yP(a:Zc):Cq (Ŀ Zc):=
 if a.kind=5 then(Js a (decide (a.kind=5)))else(Js a (decide (a.kind=8)))
def tH(c:Zb)(d:Zc):Cq Ĳ:=
 Cq.bind (vp c) λa=>Cq.bind (A1 d) λb=>Cq.ì ((a.size:Int)+b.size<=1000000) (Cq.ret (a++b))
abbrev nO:=(Int×Int)×Ŀ (Ĳ×Int)×Ze
def oV(f:Zc->Ŀ (Ĳ×Int)->Ze->Cq nO)(T:Ŀ (Ĳ×Int)->Ze->Cq nO):Ŀ Zc->Ŀ (Ĳ×Int)->Ze->Cq nO
 |[],D,B=>T D B
 |x::l,D,B=>Cq.bind (f x D B) λo=>Cq.ì (o.1.2=0) (oV f T l o.2.1 o.2.2)
def ti(k:Zb)(q:Zc)(D:Ŀ (Ĳ×Int))(B:Ze):Cq nO:=
 Cq.bind (tH k q) λs=>Cq.ì (s.size<=1000000) (match fg D s with
  |some a=>Cq.ret ((a,0),D,B)
  |none=>Cq.ì (((B.t.length:Int)<100/\B.next<1000000)/\(eT D s B.next).length<=small) (Cq.ret ((B.next,0),eT D s B.next,⟨B.t++[Zd.mk B.next k q 0 0 (-1) false],i64.wrap (B.next+1)⟩)))
def vl:Nat->Zb->Zc->Ŀ (Ĳ×Int)->Ze->Cq nO
 |0,_,_,_,_=>Cq.fail
 |n+1,k,q,D,B=>Cq.bind (yP q) λl=>oV (vl n k) (ti k q) l D B
def E7(a:(Ŀ Int))(b:Int):Cq (Ŀ Int):=
 Cq.ì ((a++[u8.wrap b]).length<=small) (Cq.ret (a++[u8.wrap b]))
def E6:((Ŀ Int)×Int)->Cq (((Ŀ Int)×Int)):=
 Cq.loop λc=>match c with|(b,a)=>if 127<a then(Cq.ì ((b++[u8.wrap ((u8.wrap (Int.tmod a 128))+128)]).length<=small) (Cq.ret (.inl ((b++[u8.wrap ((u8.wrap (Int.tmod a 128))+128)]),u64.wrap (Int.tdiv a 128)))))else(Cq.ret (.inr (b,a)))
def uj(a:(Ŀ Int))(b:Int):Cq (Ŀ Int):=
 Cq.next (E6 (a,b)) λc=>match c with|(d,e)=>E7 d e
def AM(b:(Ŀ Int))(a:Int):Cq (Ŀ Int):=
 if a<0 then(Cq.bind (uj b (u64.wrap ((u64.wrap ((u64.wrap (i64.wrap (0-(i64.wrap (a+1)))))*2))+1))) λc=>Cq.ret c)else(Cq.bind (uj b (u64.wrap ((u64.wrap a)*2))) λd=>Cq.ret d)
def ZqB(a:(Ŀ Int)):Cq (Ŀ Int):=
 Cq.ret a
def ZqA(d:Zg):((Ŀ Int)×Int)->Cq (Ŀ Int):=
 Cq.loop λe=>match e with|(b,c)=>if c<(d.χ.length:Int)then(Cq.Κ d.χ c λa=>Cq.ì ((b++[u8.wrap (Int.fdiv a (2 ^ (min (24:Int).toNat u32.bits))),u8.wrap (Int.fdiv a (2 ^ (min (16:Int).toNat u32.bits))),u8.wrap (Int.fdiv a (2 ^ (min (8:Int).toNat u32.bits))),u8.wrap a]).length<=small) (Cq.ret (.inl ((b++[u8.wrap (Int.fdiv a (2 ^ (min (24:Int).toNat u32.bits))),u8.wrap (Int.fdiv a (2 ^ (min (16:Int).toNat u32.bits))),u8.wrap (Int.fdiv a (2 ^ (min (8:Int).toNat u32.bits))),u8.wrap a]),i64.wrap (c+1)))))else(Cq.ret (.inr b))
def EC(c:(Ŀ Int))(a:Zg)(d:Int):Cq (Ŀ Int):=
 Cq.bind (uj c (u64.wrap ((u64.wrap ((u64.wrap (a.χ.length:Int))*2))+d))) λb=>Cq.next (ZqA a (b,0)) λe=>match e with|f=>ZqB f
def AX(b:(Ŀ Int))(a:Zg):Cq (Ŀ Int):=
 if a.neg=true then(EC b a 1)else(EC b a 0)
def Qy(d:(Ŀ Int))(a:Zf):Cq (Ŀ Int):=
 Cq.bind (AX d a.num) λb=>Cq.bind (AX b a.den) λc=>Cq.ret c
def Zs7(a:(Ŀ Int)):Cq (Ŀ Int):=
 Cq.ret a
def Zs8(a:Int)(b:(Ŀ Int)):Cq (((Ŀ Int)×Int)⊕(Ŀ Int)):=
 Cq.ret (.inl (b,i64.wrap (a+1)))
def Zs6(d:(Ŀ Za))(e:Int):((Ŀ Int)×Int)->Cq (Ŀ Int):=
 Cq.loop λf=>match f with|(b,a)=>if a<8 then(Cq.Κ d e λg=>Cq.ì (0<=a/\a<8) (Cq.bind (uj b (u64.wrap (Θ g.m a))) λc=>Cq.ret (.inl (c,i64.wrap (a+1)))))else(Cq.ret (.inr b))
def Zs5(b:(Ŀ Za)):((Ŀ Int)×Int)->Cq (Ŀ Int):=
 Cq.loop λf=>match f with|(d,a)=>if a<(b.length:Int)then(Cq.Κ b a λg=>Cq.bind (Qy d g.c) λe=>Cq.next (Zs6 b a (e,0)) λh=>match h with|i=>Zs8 a i)else(Cq.ret (.inr d))
def FV(c:(Ŀ Int))(a:(Ŀ Za)):Cq (Ŀ Int):=
 Cq.bind (uj c (u64.wrap (a.length:Int))) λb=>Cq.next (Zs5 a (b,0)) λd=>match d with|e=>Zs7 e
def Zqx(a:(Ŀ Int)):Cq (Ŀ Int):=
 Cq.ret a
def Zqw(b:(Ŀ (Ŀ Za))):((Ŀ Int)×Int)->Cq (Ŀ Int):=
 Cq.loop λe=>match e with|(c,a)=>if a<(b.length:Int)then(Cq.Κ b a λf=>Cq.bind (FV c f) λd=>Cq.ret (.inl (d,i64.wrap (a+1))))else(Cq.ret (.inr c))
def FE(c:(Ŀ Int))(a:(Ŀ (Ŀ Za))):Cq (Ŀ Int):=
 Cq.bind (uj c (u64.wrap (a.length:Int))) λb=>Cq.next (Zqw a (b,0)) λd=>match d with|e=>Zqx e
def vx(e:(Ŀ Int))(a:Zb):Cq (Ŀ Int):=
 Cq.bind (AM e a.n) λb=>Cq.bind (FE b a.eqs) λc=>Cq.bind (FE c a.ε) λd=>Cq.ret d
def Z7(c d:Zb):Cq Bool:=Cq.bind (vx [] c) λa=>Cq.bind (vx [] d) λb=>Cq.ret (decide (bytesOf a=bytesOf b))
def ZqN(a:(Ŀ (Fin 8->Int))):Cq ((Ŀ (Fin 8->Int))):=
 Cq.ret a
def ZqO(b:Int)(a:(Ŀ (Fin 8->Int))):Cq (((Ŀ (Fin 8->Int))×Int)⊕(((Ŀ (Fin 8->Int))))):=
 Cq.ret (.inl (a,i64.wrap (b+1)))
def ZqP(b:Int)(a:(Ŀ (Fin 8->Int))):Cq (((Ŀ (Fin 8->Int))×Int)⊕(((Ŀ (Fin 8->Int))))):=
 Cq.ret (.inl (a,i64.wrap (b+1)))
def ZqQ(a:(Ŀ (Fin 8->Int)))(c:Int)(b:(Fin 8->Int)):Cq (((Ŀ (Fin 8->Int))×Int)⊕(((Ŀ (Fin 8->Int))))):=
 Cq.ì ((a++[b]).length<=small) (Cq.ret (.inl ((a++[b]),i64.wrap (c+1))))
def ZqM(c:(Ŀ (Fin 8->Int)))(d:Int)(e:Int):(Int×(Fin 8->Int))->Cq (Fin 8->Int):=
 Cq.loop λf=>match f with|(a,b)=>if d<a then(Cq.Κ c e λg=>Cq.ì (0<=i64.wrap (a-1)/\(i64.wrap (a-1))<8) (Cq.ì (0<=a/\a<8) (Cq.ret (.inl (i64.wrap (a-1),ζ b a.toNat (Θ g (i64.wrap (a-1))))))))else(Cq.ret (.inr b))
def ZqL(g:Int)(a:(Ŀ (Fin 8->Int)))(d:Int)(e:Int):((Ŀ (Fin 8->Int))×Int)->Cq (((Ŀ (Fin 8->Int)))):=
 Cq.loop λh=>match h with|(b,c)=>if c<g then(Cq.Κ a e λi=>Cq.Κ a e λj=>Cq.ì (0<=c/\c<8) (Cq.ì (0<=d/\d<8) (Cq.next (ZqM a d e (c,ζ i d.toNat (Θ j c))) λk=>match k with|f=>ZqQ b c f)))else(Cq.ret (.inr b))
def ZqK(f:Int)(b:(Ŀ (Fin 8->Int)))(e:Int):((Ŀ (Fin 8->Int))×Int)->Cq (((Ŀ (Fin 8->Int)))):=
 Cq.loop λg=>match g with|(a,d)=>if d<(b.length:Int)then(Cq.next (ZqL f b e d (a,e)) λh=>match h with|c=>ZqP d c)else(Cq.ret (.inr a))
def ZqJ(d:Int):((Ŀ (Fin 8->Int))×Int)->Cq (((Ŀ (Fin 8->Int)))):=
 Cq.loop λe=>match e with|(a,c)=>if c<d then(Cq.next (ZqK d a c ([],0)) λf=>match f with|b=>ZqO c b)else(Cq.ret (.inr a))
def Lh(b:Int):Cq ((Ŀ (Fin 8->Int))):=
 Cq.next (ZqJ b ([ζ (ζ (ζ (ζ (ζ (ζ (ζ (ζ (λ_=>0) 0 0) 1 1) 2 2) 3 3) 4 4) 5 5) 6 6) 7 7],0)) λc=>match c with|a=>ZqN a
def ZsI(b:(Ŀ Int))(a:Int):Cq (Ŀ Int):=
 Cq.ì (0<=(0:Int)/\(0:Int)<=a/\a<=(b.length:Int)) (Cq.ret ((b.take a.toNat).drop (0:Int).toNat))
def ZsH(b:(Ŀ Int)):Int->Cq Int:=
 Cq.loop λc=>match c with|a=>if 0<a then(Cq.Κ b (i64.wrap (a-1)) λd=>if d=0 then(Cq.ret (.inl (i64.wrap (a-1))))else(Cq.ret (.inr a)))else(Cq.ret (.inr a))
def xu(a:(Ŀ Int)):Cq (Ŀ Int):=
 Cq.next (ZsH a (a.length:Int)) λb=>match b with|c=>ZsI a c
def AU(a:Int):Cq (Ŀ Int):=
 Cq.bind (xu [u32.wrap (Int.tmod a 4294967296),u32.wrap (u64.wrap (Int.tdiv a 4294967296))]) λb=>Cq.ret b
def rX(b:Bool)(c:(Ŀ Int)):Cq Zg:=
 Cq.bind (xu c) λa=>if b=true then(Cq.ret (Zg.mk (decide (0<(a.length:Int))) a))else(Cq.ret (Zg.mk false a))
def uk(a:Int):Cq Zg:=
 if a<0 then(Cq.bind (AU (u64.wrap ((u64.wrap (i64.wrap (0-(i64.wrap (a+1)))))+1))) λb=>Cq.bind (rX true b) λc=>Cq.ret c)else(Cq.bind (AU (u64.wrap a)) λd=>Cq.bind (rX false d) λe=>Cq.ret e)
def Bf(a:Zg):Cq Int:=
 if a.neg=true then(Cq.ret (-1))else(Cq.ret (if 1<(a.χ.length:Int)then 1 else(a.χ.length:Int)))
def yW(a:(Ŀ Int))(b:Int):Cq Int:=
 if b<(a.length:Int)then(Cq.Κ a b λc=>Cq.ret (u64.wrap c))else(Cq.ret 0)
def Ku(a:(Ŀ Int)):Cq Int:=
 Cq.bind (yW a 1) λb=>Cq.bind (yW a 0) λc=>Cq.ret (u64.wrap ((u64.wrap (b*4294967296))+c))
def Zpl(a:Int):Cq Int:=
 Cq.ret a
def Zpk:(Int×Int)->Cq Int:=
 Cq.loop λc=>match c with|(b,a)=>if 0<a then(Cq.ì (a≠0) (Cq.ret (.inl (a,Int.tmod b a))))else(Cq.ret (.inr b))
def RH(a:Int)(b:Int):Cq Int:=
 Cq.next (Zpk (a,b)) λc=>match c with|d=>Zpl d
def ZmB:Cq Int:=
 Cq.ret 0
def ZmA(b:(Ŀ Int))(c:(Ŀ Int)):Int->Cq (Int⊕Unit):=
 Cq.loop λd=>match d with|a=>if 0<=a then(Cq.Κ b a λe=>Cq.Κ c a λf=>if e<f then(Cq.ret (.inr (.inl (-1))))else(Cq.Κ b a λg=>Cq.Κ c a λh=>if h<g then(Cq.ret (.inr (.inl 1)))else(Cq.ret (.inl (i64.wrap (a-1))))))else(Cq.ret (.inr (.inr ())))
def Z6(a:(Ŀ Int))(b:(Ŀ Int)):Cq Int:=
 if(a.length:Int)<(b.length:Int)then(Cq.ret (-1))else(if(b.length:Int)<(a.length:Int)then(Cq.ret 1)else(Cq.next (ZmA a b (i64.wrap ((a.length:Int)-1))) λd=>match d with|.inl c=>Cq.ret c|.inr ()=>ZmB))
def ZnH(a:(Ŀ Int))(b:Int):Cq ((Ŀ Int)×Int):=
 Cq.bind (xu a) λc=>Cq.ret (c,b)
def ZnG(f:(Ŀ Int))(d:Int):((Ŀ Int)×Int×Int)->Cq (((Ŀ Int)×Int)):=
 Cq.loop λg=>match g with|(a,b,c)=>if 0<=c then(Cq.Κ f c λe=>Cq.ì (d≠0) (Cq.Κ a c λh=>Cq.ì (d≠0) (Cq.ret (.inl ((a.set c.toNat (u32.wrap (u64.wrap (Int.tdiv (u64.wrap ((u64.wrap (b*4294967296))+(u64.wrap e))) d)))),Int.tmod (u64.wrap ((u64.wrap (b*4294967296))+(u64.wrap e))) d,i64.wrap (c-1))))))else(Cq.ret (.inr (a,b)))
def QG(a:(Ŀ Int))(d:Int):Cq ((Ŀ Int)×Int):=
 Cq.ì (0<=(a.length:Int)/\(a.length:Int)<=1000000) (Cq.next (ZnG a d ((List.replicate (a.length:Int).toNat 0),0,i64.wrap ((a.length:Int)-1))) λe=>match e with|(b,c)=>ZnH b c)
def Zqf(a:(Ŀ Int)):Cq (Ŀ Int):=
 Cq.bind (xu a) λb=>Cq.ret b
def Zqg(b:(Ŀ Int))(a:Int)(c:(Ŀ Int))(d:Int):Cq (((Ŀ Int)×Int)⊕(Ŀ Int)):=
 Cq.Κ c (i64.wrap (a+(b.length:Int))) λe=>Cq.ret (.inl ((c.set (i64.wrap (a+(b.length:Int))).toNat (u32.wrap d)),i64.wrap (a+1)))
def Zqe(f:(Ŀ Int))(e:(Ŀ Int))(b:Int):((Ŀ Int)×Int×Int)->Cq (((Ŀ Int)×Int)):=
 Cq.loop λj=>match j with|(c,d,a)=>if a<(e.length:Int)then(Cq.Κ f b λg=>Cq.Κ e a λh=>Cq.Κ c (i64.wrap (b+a)) λi=>Cq.Κ c (i64.wrap (b+a)) λk=>Cq.ret (.inl ((c.set (i64.wrap (b+a)).toNat (u32.wrap (Int.tmod (u64.wrap ((u64.wrap ((u64.wrap ((u64.wrap g)*(u64.wrap h)))+(u64.wrap i)))+d)) 4294967296))),u64.wrap (Int.tdiv (u64.wrap ((u64.wrap ((u64.wrap ((u64.wrap g)*(u64.wrap h)))+(u64.wrap i)))+d)) 4294967296),i64.wrap (a+1))))else(Cq.ret (.inr (c,d)))
def Zqd(b:(Ŀ Int))(c:(Ŀ Int)):((Ŀ Int)×Int)->Cq (Ŀ Int):=
 Cq.loop λg=>match g with|(d,a)=>if a<(b.length:Int)then(Cq.next (Zqe b c a (d,0,0)) λh=>match h with|(e,f)=>Zqg c a e f)else(Cq.ret (.inr d))
def S4(a:(Ŀ Int))(b:(Ŀ Int)):Cq (Ŀ Int):=
 Cq.ì (0<=i64.wrap ((a.length:Int)+(b.length:Int))/\(i64.wrap ((a.length:Int)+(b.length:Int)))<=1000000) (Cq.next (Zqd a b ((List.replicate (i64.wrap ((a.length:Int)+(b.length:Int))).toNat 0),0)) λd=>match d with|c=>Zqf c)
def Ki(a:(Ŀ Int))(b:(Ŀ Int)):Cq ((Ŀ Int)×(Ŀ Int)):=
 Cq.bind (Z6 a b) λd=>if d<0 then(Cq.ret ([],a))else(if(b.length:Int)=1 then(Cq.Κ b 0 λf=>Cq.bind (QG a (u64.wrap f)) λc=>Cq.bind (AU c.2) λe=>Cq.ret (c.1,e))else Cq.fail)
def Zpj(a:(Ŀ Int)):Cq (Ŀ Int):=
 Cq.ret a
def P4(c:(Ŀ Int))(b:(Ŀ Int))(a:Bool):Cq (((Ŀ Int)×(Ŀ Int))⊕((Ŀ Int)⊕(Ŀ Int))):=
 if a=true then(Cq.bind (Ku c) λd=>Cq.bind (Ku b) λe=>Cq.bind (RH d e) λf=>Cq.bind (AU f) λg=>Cq.ret (.inr (.inl g)))else(Cq.bind (Ki c b) λh=>Cq.ret (.inl (b,h.2)))
def Zpi:((Ŀ Int)×(Ŀ Int))->Cq ((Ŀ Int)⊕(Ŀ Int)):=
 Cq.loop λc=>match c with|(a,b)=>if 0<(b.length:Int)then(if(a.length:Int)<=2 then(P4 a b (decide ((b.length:Int)<=2)))else(P4 a b false))else(Cq.ret (.inr (.inr a)))
def R3(b:(Ŀ Int))(c:(Ŀ Int)):Cq (Ŀ Int):=
 Cq.next (Zpi (b,c)) λd=>match d with|.inl a=>Cq.ret a|.inr e=>Zpj e
def xB(c:Zg)(d:Zg):Cq Zg:=
 Cq.bind (R3 c.χ d.χ) λa=>Cq.bind (rX false a) λb=>Cq.ret b
def Zph(d:Zg)(e:Zg)(f:(Ŀ Int))(a:(Ŀ Int)):Cq (Zg×Zg×Int):=
 Cq.bind (rX (decide (¬d.neg=e.neg)) f) λb=>Cq.bind (rX false a) λc=>Cq.ret (b,c,0)
def P3(c:Zg)(d:Zg)(b:(Ŀ Int)×(Ŀ Int))(a:Bool):Cq (Zg×Zg×Int):=
 if a=true then Cq.fail else(Zph c d b.1 b.2)
def yR(b:Zg)(c:Zg):Cq (Zg×Zg×Int):=
 if(c.χ.length:Int)=0 then Cq.fail else(Cq.bind (Ki b.χ c.χ) λa=>if b.neg=true then(P3 b c a (decide (0<(a.2.length:Int))))else(P3 b c a false))
def Lb(b:Zg)(c:Zg):Cq Zg:=
 Cq.bind (yR b c) λa=>Cq.ret a.1
def Mg(a:Zg):Cq Zg:=
 Cq.bind (rX (!a.neg) a.χ) λb=>Cq.ret b
def P5(d:Zg)(e:Zg)(a:Zg):Cq Zf:=
 Cq.bind (Lb d a) λb=>Cq.bind (Lb e a) λc=>Cq.ret (Zf.mk b c)
def AS(c:Zg)(a:Zg):Cq Zf:=
 Cq.bind (xB c a) λb=>Cq.bind (Bf a) λd=>if d<0 then(Cq.bind (Mg b) λe=>P5 c a e)else(P5 c a b)
def Gc(d:Zg)(a:Zg):Cq (Zf×Int):=
 Cq.bind (Bf a) λb=>if b=0 then Cq.fail else(Cq.bind (AS d a) λc=>Cq.ret (c,0))
def oC(b:Zf):Cq Int:=
 Cq.bind (Bf b.num) λa=>Cq.ret a
def Zqj:Cq Bool:=
 Cq.ret true
def Zqi(b:(Fin 8->Int)):Int->Cq (Bool⊕Unit):=
 Cq.loop λc=>match c with|a=>if a<8 then(Cq.ì (0<=a/\a<8) (if(Θ b a)<0 then(Cq.ret (.inr (.inl false)))else(Cq.ì (0<=a/\a<8) (if 65535<(Θ b a)then Cq.fail else(Cq.ret (.inl (i64.wrap (a+1))))))))else(Cq.ret (.inr (.inr ())))
def FC(b:(Fin 8->Int)):Cq Bool:=
 Cq.next (Zqi b 0) λc=>match c with|.inl a=>Cq.ret a|.inr ()=>Zqj
def ZuT(a:(Fin 8->Int)):Cq ((Fin 8->Int)×Int):=
 Cq.bind (FC a) λb=>if(!b)=true then Cq.fail else(Cq.ret (a,0))
def ZuS(c:(Fin 8->Int)):(Int×(Fin 8->Int))->Cq (Fin 8->Int):=
 Cq.loop λd=>match d with|(a,b)=>if a<8 then(Cq.ì (0<=a/\a<8) (Cq.ì (0<=a/\a<8) (Cq.ì (0<=a/\a<8) (Cq.ret (.inl (i64.wrap (a+1),ζ b a.toNat (i64.wrap ((Θ b a)+(Θ c a)))))))))else(Cq.ret (.inr b))
def Mi(b:(Fin 8->Int))(c:(Fin 8->Int)):Cq ((Fin 8->Int)×Int):=
 Cq.next (ZuS c (0,b)) λd=>match d with|a=>ZuT a
def ri(a:Zg)(b:Zg):Cq Zg:=
 Cq.bind (S4 a.χ b.χ) λc=>Cq.bind (rX (decide (¬a.neg=b.neg)) c) λd=>Cq.ret d
def rn(a:Zf)(b:Zf):Cq Zf:=
 Cq.bind (ri a.num b.num) λc=>Cq.bind (ri a.den b.den) λd=>Cq.bind (AS c d) λe=>Cq.ret e
def Zqp(a:(Ŀ Za)):Cq ((Ŀ Za)×Int):=
 Cq.ret (a,0)
def Zqo(g:Zf)(h:(Fin 8->Int))(f:(Ŀ Za)):((Ŀ Za)×Int)->Cq (((Ŀ Za)×Int)⊕(Ŀ Za)):=
 Cq.loop λi=>match i with|(a,d)=>if d<(f.length:Int)then(Cq.Κ f d λj=>Cq.bind (Mi h j.m) λb=>if ¬b.2=0 then Cq.fail else(Cq.Κ f d λk=>Cq.bind (rn g k.c) λe=>Cq.ì ((a++[(Za.mk e b.1)]).length<=small) (Cq.ret (.inl ((a++[(Za.mk e b.1)]),i64.wrap (d+1))))))else(Cq.ret (.inr (.inr a)))
def FD(b:Zf)(e:(Fin 8->Int))(f:(Ŀ Za)):Cq ((Ŀ Za)×Int):=
 Cq.bind (oC b) λc=>if c=0 then(Cq.ret ([],0))else(Cq.next (Zqo b e f ([],0)) λg=>match g with|.inl d=>Cq.ret d|.inr a=>Zqp a)
def Gw(a:Zf):Cq Zf:=
 Cq.bind (Mg a.num) λb=>Cq.ret (Zf.mk b a.den)
def Jz(a:(Ŀ Za))(b:Zf):Cq (Ŀ Za):=
 Cq.bind (FD b (λ_=>0) a) λc=>Cq.ret c.1
def JA(a:(Ŀ Za))(d:Zg)(e:Zg):Cq (Ŀ Za):=
 Cq.bind (Gc d e) λb=>Cq.Κ a 0 λh=>Cq.bind (oC h.c) λf=>if f<0 then(Cq.bind (Gw b.1) λg=>Jz a g)else(Jz a b.1)
def Zpq(b:(Ŀ Za))(g:Zg):(Int×Zg)->Cq Zg:=
 Cq.loop λi=>match i with|(a,d)=>if a<(b.length:Int)then(Cq.Κ b a λj=>Cq.bind (yR g j.c.den) λh=>Cq.Κ b a λk=>Cq.bind (ri k.c.num h.1) λe=>Cq.bind (xB d e) λf=>Cq.ret (.inl (i64.wrap (a+1),f)))else(Cq.ret (.inr d))
def P7(a:(Ŀ Za))(c:Zg)(b:Zg):Cq (Ŀ Za):=
 Cq.next (Zpq a b (0,c)) λe=>match e with|d=>JA a b d
def Zpr(b:(Ŀ Za)):(Int×Zg)->Cq Zg:=
 Cq.loop λh=>match h with|(a,d)=>if a<(b.length:Int)then(Cq.Κ b a λi=>Cq.Κ b a λj=>Cq.bind (xB d j.c.den) λe=>Cq.bind (yR i.c.den e) λf=>Cq.bind (ri d f.1) λg=>Cq.ret (.inl (i64.wrap (a+1),g)))else(Cq.ret (.inr d))
def E5(a:(Ŀ Za)):Cq (Ŀ Za):=
 if(a.length:Int)=0 then(Cq.ret [])else(Cq.bind (uk 1) λb=>Cq.bind (uk 0) λc=>Cq.next (Zpr a (0,b)) λe=>match e with|d=>P7 a c d)
def Zpn(a:Int):Cq Int:=
 Cq.ret a
def Zpm(c:(Fin 8->Int)):(Int×Int)->Cq Int:=
 Cq.loop λd=>match d with|(b,a)=>if a<8 then(Cq.ì (0<=a/\a<8) (Cq.ret (.inl (i64.wrap (b+(Θ c a)),i64.wrap (a+1)))))else(Cq.ret (.inr b))
def Kv(a:(Fin 8->Int)):Cq Int:=
 Cq.next (Zpm a (0,0)) λb=>match b with|c=>Zpn c
def Zpp(a:Int):Cq Int:=
 Cq.ret a
def Zpo(d:(Ŀ Za)):(Int×Int)->Cq Int:=
 Cq.loop λe=>match e with|(b,c)=>if c<(d.length:Int)then(Cq.Κ d c λf=>Cq.bind (Kv f.m) λa=>Cq.ret (.inl (if b<a then a else b,i64.wrap (c+1))))else(Cq.ret (.inr b))
def xf(a:(Ŀ Za)):Cq Int:=
 Cq.next (Zpo a ((-1),0)) λb=>match b with|c=>Zpp c
def ZsL:Cq Bool:=
 Cq.ret true
def ZsK(b:Zg)(c:Zg):Int->Cq (Bool⊕Unit):=
 Cq.loop λd=>match d with|a=>if a<(b.χ.length:Int)then(Cq.Κ b.χ a λe=>Cq.Κ c.χ a λf=>if ¬e=f then(Cq.ret (.inr (.inl false)))else(Cq.ret (.inl (i64.wrap (a+1)))))else(Cq.ret (.inr (.inr ())))
def Lz(a:Zg)(b:Zg):Cq Bool:=
 if ¬a.neg=b.neg then(Cq.ret false)else(if ¬(a.χ.length:Int)=(b.χ.length:Int)then(Cq.ret false)else(Cq.next (ZsK a b 0) λd=>match d with|.inl c=>Cq.ret c|.inr ()=>ZsL))
def Bg(a:Zf)(b:Zf):Cq Bool:=
 Cq.bind (Lz a.num b.num) λc=>match c with|false=>(Cq.ret false)|true=>(Cq.bind (Lz a.den b.den) λd=>Cq.ret d)
def Ez(a:Za)(b:Za):Cq Bool:=
 if a.m=b.m then(Cq.bind (Bg a.c b.c) λd=>Cq.ret d)else(Cq.ret false)
def Zs2:Cq Bool:=
 Cq.ret true
def Rc(b:(Ŀ Za))(d:(Ŀ Za)):Int->Cq (Bool⊕Unit):=
 Cq.loop λe=>match e with|a=>if a<(b.length:Int)then(Cq.Κ b a λf=>Cq.Κ d a λg=>Cq.bind (Ez f g) λc=>if(!c)=true then(Cq.ret (.inr (.inl false)))else(Cq.ret (.inl (i64.wrap (a+1)))))else(Cq.ret (.inr (.inr ())))
def tX(a:(Ŀ Za))(b:(Ŀ Za)):Cq Bool:=
 if ¬(a.length:Int)=(b.length:Int)then(Cq.ret false)else(Cq.next (Rc a b 0) λd=>match d with|.inl c=>Cq.ret c|.inr ()=>Zs2)
def ZuR:Cq Int:=
 Cq.ret 0
def ZuQ(b:(Fin 8->Int))(c:(Fin 8->Int)):Int->Cq (Int⊕Unit):=
 Cq.loop λd=>match d with|a=>if a<8 then(Cq.ì (0<=a/\a<8) (Cq.ì (0<=a/\a<8) (if(Θ b a)<(Θ c a)then(Cq.ret (.inr (.inl (-1))))else(Cq.ì (0<=a/\a<8) (Cq.ì (0<=a/\a<8) (if(Θ c a)<(Θ b a)then(Cq.ret (.inr (.inl 1)))else(Cq.ret (.inl (i64.wrap (a+1))))))))))else(Cq.ret (.inr (.inr ())))
def xH(b:(Fin 8->Int))(c:(Fin 8->Int)):Cq Int:=
 Cq.next (ZuQ b c 0) λd=>match d with|.inl a=>Cq.ret a|.inr ()=>ZuR
def Mf(a:Zg)(b:Zg):Cq Int:=
 if a.neg=true then(if(!b.neg)=true then(Cq.ret (-1))else(if a.neg=true then(if a.neg=true then(Cq.bind (Z6 b.χ a.χ) λc=>Cq.ret c)else(Cq.bind (Z6 a.χ b.χ) λd=>Cq.ret d))else(if b.neg=true then(Cq.ret 1)else(if a.neg=true then(Cq.bind (Z6 b.χ a.χ) λe=>Cq.ret e)else(Cq.bind (Z6 a.χ b.χ) λf=>Cq.ret f)))))else(if a.neg=true then(if a.neg=true then(Cq.bind (Z6 b.χ a.χ) λg=>Cq.ret g)else(Cq.bind (Z6 a.χ b.χ) λh=>Cq.ret h))else(if b.neg=true then(Cq.ret 1)else(if a.neg=true then(Cq.bind (Z6 b.χ a.χ) λi=>Cq.ret i)else(Cq.bind (Z6 a.χ b.χ) λj=>Cq.ret j))))
def vF(a:Zf)(b:Zf):Cq Int:=
 Cq.bind (ri a.num b.den) λc=>Cq.bind (ri b.num a.den) λd=>Cq.bind (Mf c d) λe=>Cq.ret e
def Kx(a:(Ŀ Za))(b:(Ŀ Za)):Cq Int:=
 if(a.length:Int)<(b.length:Int)then(Cq.ret (-1))else(if(b.length:Int)<(a.length:Int)then(Cq.ret 1)else(Cq.ret 0))
def RJ(b:(Ŀ Za))(d:(Ŀ Za))(a:Int):Cq (Int⊕(Int⊕Unit)):=
 Cq.Κ b a λi=>Cq.Κ d a λj=>Cq.bind (xH i.m j.m) λe=>if ¬e=0 then(Cq.Κ b a λk=>Cq.Κ d a λl=>Cq.bind (xH k.m l.m) λf=>Cq.ret (.inr (.inl f)))else(Cq.Κ b a λn=>Cq.Κ d a λo=>Cq.bind (vF n.c o.c) λg=>if ¬g=0 then(Cq.Κ b a λp=>Cq.Κ d a λq=>Cq.bind (vF p.c q.c) λh=>Cq.ret (.inr (.inl h)))else(Cq.ret (.inl (i64.wrap (a+1)))))
def RI(b:(Ŀ Za))(c:(Ŀ Za)):Int->Cq (Int⊕Unit):=
 Cq.loop λd=>match d with|a=>if a<(b.length:Int)then(if a<(c.length:Int)then(RJ b c a)else(Cq.ret (.inr (.inr ()))))else(Cq.ret (.inr (.inr ())))
def Ge(a:(Ŀ Za))(b:(Ŀ Za)):Cq Int:=
 Cq.next (RI a b 0) λd=>match d with|.inl c=>Cq.ret c|.inr ()=>Kx a b
def Zpt(a:(Ŀ (Ŀ Za))):Cq ((Ŀ (Ŀ Za))):=
 Cq.ret a
def tV(a:(Ŀ (Ŀ Za)))(d:Int)(c:(Ŀ Za))(b:Int):Cq (((Ŀ (Ŀ Za))×Int)⊕(((Ŀ (Ŀ Za))))):=
 Cq.ì (0<=b/\b<=(a.length:Int)/\(a.length:Int)<=(a.length:Int)) (Cq.ì (([c]++((a.take (a.length:Int).toNat).drop b.toNat)).length<=small) (Cq.ì (0<=(0:Int)/\(0:Int)<=b/\b<=(a.length:Int)) (Cq.ì ((((a.take b.toNat).drop (0:Int).toNat)++([c]++((a.take (a.length:Int).toNat).drop b.toNat))).length<=small) (Cq.ret (.inl ((((a.take b.toNat).drop (0:Int).toNat)++([c]++((a.take (a.length:Int).toNat).drop b.toNat))),i64.wrap (d+1)))))))
def JE(e:Bool)(a:(Ŀ (Ŀ Za)))(b:Int)(d:(Ŀ Za))(c:Int):Cq (((Ŀ (Ŀ Za))×Int)⊕(((Ŀ (Ŀ Za))))):=
 if(d.length:Int)=0 then(Cq.ret (.inl (a,i64.wrap (b+1))))else(if e=true then(Cq.bind (xf d) λf=>if f=0 then(Cq.ret (.inl (a,i64.wrap (b+1))))else(if c<(a.length:Int)then(Cq.Κ a c λi=>Cq.bind (tX i d) λg=>if g=true then(Cq.ret (.inl (a,i64.wrap (b+1))))else(tV a b d c))else(tV a b d c)))else(if c<(a.length:Int)then(Cq.Κ a c λj=>Cq.bind (tX j d) λh=>if h=true then(Cq.ret (.inl (a,i64.wrap (b+1))))else(tV a b d c))else(tV a b d c)))
def JD(b:(Ŀ (Ŀ Za)))(c:(Ŀ Za)):Int->Cq Int:=
 Cq.loop λe=>match e with|a=>if a<(b.length:Int)then(Cq.Κ b a λf=>Cq.bind (Ge f c) λd=>if d<0 then(Cq.ret (.inl (i64.wrap (a+1))))else(Cq.ret (.inr a)))else(Cq.ret (.inr a))
def Zps(c:(Ŀ (Ŀ Za)))(e:Bool):((Ŀ (Ŀ Za))×Int)->Cq (((Ŀ (Ŀ Za)))):=
 Cq.loop λg=>match g with|(a,b)=>if b<(c.length:Int)then(Cq.Κ c b λh=>Cq.bind (E5 h) λd=>Cq.next (JD a d 0) λi=>match i with|f=>JE e a b d f)else(Cq.ret (.inr a))
def E8(a:(Ŀ (Ŀ Za)))(b:Bool):Cq ((Ŀ (Ŀ Za))):=
 Cq.next (Zps a b ([],0)) λd=>match d with|c=>Zpt c
def ZX(c:Int):Cq Zf:=
 Cq.bind (uk c) λa=>Cq.bind (uk 1) λb=>Cq.ret (Zf.mk a b)
def Ey(a:Zf):Cq (Ŀ Za):=
 Cq.bind (oC a) λb=>if b=0 then(Cq.ret [])else(Cq.ret [(Za.mk a (λ_=>0))])
def K9(a:Zg):Cq Bool:=
 if(a.χ.length:Int)=0 then(Cq.ret (!a.neg))else(Cq.Κ a.χ (i64.wrap ((a.χ.length:Int)-1)) λb=>Cq.ret (decide (¬b=0)))
def Zqh(a:Zf):Cq Bool:=
 Cq.bind (xB a.num a.den) λb=>Cq.bind (uk 1) λc=>Cq.bind (Mf b c) λd=>Cq.ret (decide (d=0))
def ug(a:Zf):Cq Bool:=
 Cq.bind (K9 a.num) λb=>match b with|false=>(Cq.ret false)|true=>(Cq.bind (K9 a.den) λc=>match c with|false=>(Cq.ret false)|true=>(Cq.bind (Bf a.den) λd=>if d<1 then Cq.fail else(Zqh a)))
def Zqr:Cq Bool:=
 Cq.ret true
def JV(b:(Ŀ Za))(a:Int):Cq (Int⊕(Bool⊕Unit)):=
 if 0<a then(Cq.Κ b (i64.wrap (a-1)) λd=>Cq.Κ b a λe=>Cq.bind (xH d.m e.m) λc=>if c<=0 then Cq.fail else(Cq.ret (.inl (i64.wrap (a+1)))))else(Cq.ret (.inl (i64.wrap (a+1))))
def Zqq(a:(Ŀ Za)):Int->Cq (Bool⊕Unit):=
 Cq.loop λg=>match g with|b=>if b<(a.length:Int)then(Cq.Κ a b λh=>Cq.bind (ug h.c) λd=>match d with|false=>(Cq.ret (.inr (.inl false)))|true=>(Cq.Κ a b λi=>Cq.bind (oC i.c) λe=>if e=0 then(Cq.ret (.inr (.inl false)))else(Cq.Κ a b λj=>Cq.bind (FC j.m) λf=>if(!f)=true then(Cq.ret (.inr (.inl false)))else(JV a b))))else(Cq.ret (.inr (.inr ())))
def AV(b:(Ŀ Za)):Cq Bool:=
 Cq.next (Zqq b 0) λc=>match c with|.inl a=>Cq.ret a|.inr ()=>Zqr
def ZuP(a:Int):Cq Int:=
 Cq.ret (u8.wrap a)
def ZuO(c:Int):(Int×Int)->Cq Int:=
 Cq.loop λd=>match d with|(a,b)=>if b<c then(Cq.ret (.inl (i64.wrap (2*a),i64.wrap (b+1))))else(Cq.ret (.inr a))
def Mh(a:Int):Cq Int:=
 Cq.next (ZuO a (1,0)) λb=>match b with|c=>ZuP c
def ZnM(a:Int):Cq Int:=
 Cq.ret a
def ZnL(d:(Fin 8->Int)):(Int×Int)->Cq Int:=
 Cq.loop λe=>match e with|(b,a)=>if a<8 then(Cq.ì (0<=a/\a<8) (if 0<(Θ d a)then(Cq.bind (Mh a) λc=>Cq.ret (.inl (u8.wrap (b+c),i64.wrap (a+1))))else(Cq.ret (.inl (b,i64.wrap (a+1))))))else(Cq.ret (.inr b))
def Kj(a:(Fin 8->Int)):Cq Int:=
 Cq.next (ZnL a (0,0)) λb=>match b with|c=>ZnM c
def Zs4(a:Int):Cq Int:=
 Cq.ret a
def Zs3(c:(Ŀ Za)):(Int×Int)->Cq Int:=
 Cq.loop λe=>match e with|(a,b)=>if b<(c.length:Int)then(Cq.Κ c b λf=>Cq.bind (Kj f.m) λd=>Cq.ret (.inl (u8.wrap (BitVec.ofInt u8.bits a ||| BitVec.ofInt u8.bits d).toNat,i64.wrap (b+1))))else(Cq.ret (.inr a))
def Bi(b:(Ŀ Za)):Cq Int:=
 Cq.next (Zs3 b (0,0)) λc=>match c with|a=>Zs4 a
def yS(a:(Ŀ Za))(b:Int):Cq Bool:=
 Cq.bind (AV a) λc=>match c with|false=>(Cq.ret false)|true=>(Cq.bind (xf a) λd=>if d<=12 then(Cq.bind (Bi a) λe=>Cq.ì (0<=(u64.wrap b)) (Cq.ret (decide ((i64.wrap e)<(i64.wrap (1*2 ^ (min (u64.wrap b).toNat i64.bits)))))))else(Cq.ret false))
def ZuY:Cq Bool:=
 Cq.ret true
def RM(b:(Ŀ (Ŀ Za)))(d:Int):Int->Cq (Bool⊕Unit):=
 Cq.loop λe=>match e with|a=>if a<(b.length:Int)then(Cq.Κ b a λf=>Cq.bind (yS f d) λc=>if(!c)=true then(Cq.ret (.inr (.inl false)))else(Cq.ret (.inl (i64.wrap (a+1)))))else(Cq.ret (.inr (.inr ())))
def Gi(b:(Ŀ (Ŀ Za)))(c:Int):Cq Bool:=
 Cq.next (RM b c 0) λd=>match d with|.inl a=>Cq.ret a|.inr ()=>ZuY
def P9(c:Int)(d:(Ŀ (Ŀ Za)))(e:(Ŀ (Ŀ Za))):Cq (Zb×Int):=
 Cq.bind (E8 e false) λa=>Cq.bind (E8 d true) λb=>if 12<(a.length:Int)then(Cq.ret ((Zb.mk 0 [] []),2))else(if 12<(b.length:Int)then(Cq.ret ((Zb.mk 0 [] []),2))else(Cq.ret ((Zb.mk c a b),0)))
def Zpw(c:(Ŀ (Ŀ Za))):((Ŀ (Ŀ Za))×Int)->Cq (((Ŀ (Ŀ Za)))):=
 Cq.loop λf=>match f with|(a,b)=>if b<(c.length:Int)then(Cq.Κ c b λg=>if(g.length:Int)=0 then(Cq.bind (ZX 1) λe=>Cq.bind (Ey e) λd=>Cq.ì ((a++[d]).length<=small) (Cq.ret (.inl ((a++[d]),i64.wrap (b+1)))))else(Cq.ret (.inl (a,i64.wrap (b+1)))))else(Cq.ret (.inr a))
def Qa(c:Int)(a:(Ŀ (Ŀ Za)))(b:(Ŀ (Ŀ Za))):Cq (Zb×Int):=
 Cq.ì (([]++a).length<=small) (Cq.next (Zpw b (([]++a),0)) λe=>match e with|d=>P9 c b d)
def Fb(a:Int)(b:(Ŀ (Ŀ Za)))(c:(Ŀ (Ŀ Za))):Cq (Zb×Int):=
 if a<1 then(Cq.ret ((Zb.mk 0 [] []),1))else(if 4<a then(Cq.ret ((Zb.mk 0 [] []),1))else(Cq.bind (Gi b a) λd=>match d with|false=>(Cq.ret ((Zb.mk 0 [] []),1))|true=>(Cq.bind (Gi c a) λe=>if(!e)=true then(Cq.ret ((Zb.mk 0 [] []),1))else(Qa a b c))))
def ZhP:Cq Bool:=
 Cq.ret true
def ZhO(a:(Fin 8->Int)):(Int×(Fin 8->Bool))->Cq (Bool⊕Unit):=
 Cq.loop λd=>match d with|(b,c)=>if b<8 then(Cq.ì (0<=b/\b<8) (if(Θ a b)<0 then(Cq.ret (.inr (.inl false)))else(Cq.ì (0<=b/\b<8) (if 8<=(Θ a b)then(Cq.ret (.inr (.inl false)))else(Cq.ì (0<=b/\b<8) (Cq.ì (0<=Θ a b/\(Θ a b)<8) (if(Θ c (Θ a b))=true then Cq.fail else(Cq.ì (0<=b/\b<8) (Cq.ì (0<=Θ a b/\(Θ a b)<8) (Cq.ret (.inl (i64.wrap (b+1),ζ c ((Θ a b).toNat) true))))))))))))else(Cq.ret (.inr (.inr ())))
def Ji(a:(Fin 8->Int)):Cq Bool:=
 Cq.next (ZhO a (0,(λ_=>false))) λc=>match c with|.inl b=>Cq.ret b|.inr ()=>ZhP
def Zqa(a:(Ŀ Int)):Cq (Ŀ Int):=
 Cq.bind (xu a) λb=>Cq.ret b
def Zp9(f:(Ŀ Int))(g:(Ŀ Int)):((Ŀ Int)×Int×Int)->Cq (Ŀ Int):=
 Cq.loop λh=>match h with|(b,a,c)=>if c<(i64.wrap ((if(f.length:Int)<(g.length:Int)then(g.length:Int)else(f.length:Int))+1))then(Cq.bind (yW f c) λd=>Cq.bind (yW g c) λe=>Cq.Κ b c λi=>Cq.ret (.inl ((b.set c.toNat (u32.wrap (Int.tmod (u64.wrap ((u64.wrap (d+e))+a)) 4294967296))),u64.wrap (Int.tdiv (u64.wrap ((u64.wrap (d+e))+a)) 4294967296),i64.wrap (c+1))))else(Cq.ret (.inr b))
def S3(a:(Ŀ Int))(b:(Ŀ Int)):Cq (Ŀ Int):=
 Cq.ì (0<=i64.wrap ((if(a.length:Int)<(b.length:Int)then(b.length:Int)else(a.length:Int))+1)/\(i64.wrap ((if(a.length:Int)<(b.length:Int)then(b.length:Int)else(a.length:Int))+1))<=1000000) (Cq.next (Zp9 a b ((List.replicate (i64.wrap ((if(a.length:Int)<(b.length:Int)then(b.length:Int)else(a.length:Int))+1)).toNat 0),0,0)) λd=>match d with|c=>Zqa c)
def Zqc(a:(Ŀ Int)):Cq (Ŀ Int):=
 Cq.bind (xu a) λb=>Cq.ret b
def Zqb(e:(Ŀ Int))(g:(Ŀ Int)):((Ŀ Int)×Int×Int)->Cq (Ŀ Int):=
 Cq.loop λh=>match h with|(b,a,c)=>if c<(e.length:Int)then(Cq.Κ e c λf=>Cq.bind (yW g c) λd=>Cq.Κ b c λi=>Cq.ret (.inl ((b.set c.toNat (u32.wrap (Int.tmod (u64.wrap ((u64.wrap ((u64.wrap (4294967296+(u64.wrap f)))-d))-a)) 4294967296))),u64.wrap (1-(u64.wrap (Int.tdiv (u64.wrap ((u64.wrap ((u64.wrap (4294967296+(u64.wrap f)))-d))-a)) 4294967296))),i64.wrap (c+1))))else(Cq.ret (.inr b))
def La(a:(Ŀ Int))(c:(Ŀ Int)):Cq (Ŀ Int):=
 Cq.ì (0<=(a.length:Int)/\(a.length:Int)<=1000000) (Cq.next (Zqb a c ((List.replicate (a.length:Int).toNat 0),0,0)) λd=>match d with|b=>Zqc b)
def Uz(a:Zg)(b:Zg):Cq Zg:=
 if a.neg=b.neg then(Cq.bind (S3 a.χ b.χ) λc=>Cq.bind (rX a.neg c) λd=>Cq.ret d)else(Cq.bind (Z6 a.χ b.χ) λe=>if e<0 then(Cq.bind (La b.χ a.χ) λf=>Cq.bind (rX b.neg f) λg=>Cq.ret g)else(Cq.bind (La a.χ b.χ) λh=>Cq.bind (rX a.neg h) λi=>Cq.ret i))
def vE(a:Zf)(b:Zf):Cq Zf:=
 Cq.bind (ri a.num b.den) λc=>Cq.bind (ri b.num a.den) λd=>Cq.bind (Uz c d) λe=>Cq.bind (ri a.den b.den) λf=>Cq.bind (AS e f) λg=>Cq.ret g
def ZuV(a:(Ŀ Za)):Cq (Ŀ Za):=
 Cq.ret a
def Kw(e:(Ŀ Za))(g:(Ŀ Za))(a:Int)(b:(Ŀ Za))(d:Int):Cq (((Ŀ Za)×Int×Int)⊕(Ŀ Za)):=
 Cq.Κ e a λj=>Cq.Κ g d λk=>Cq.bind (vE j.c k.c) λf=>Cq.bind (oC f) λh=>if ¬h=0 then(Cq.Κ e a λi=>Cq.ì ((b++[(Za.mk f i.m)]).length<=small) (Cq.ret (.inl ((b++[(Za.mk f i.m)]),i64.wrap (a+1),i64.wrap (d+1)))))else(Cq.ret (.inl (b,i64.wrap (a+1),i64.wrap (d+1))))
def AK(f:(Ŀ Za))(c:(Ŀ Za))(a:Int)(b:(Ŀ Za))(d:Int)(e:Bool):Cq (((Ŀ Za)×Int×Int)⊕(Ŀ Za)):=
 if e=true then(Cq.Κ c a λg=>Cq.ì ((b++[g]).length<=small) (Cq.ret (.inl ((b++[g]),d,i64.wrap (a+1)))))else(Kw f c d b a)
def AL(a:(Ŀ Za))(c:(Ŀ Za))(d:Int)(e:(Ŀ Za))(b:Int):Cq (((Ŀ Za)×Int×Int)⊕(Ŀ Za)):=
 if b=(a.length:Int)then(AK a c d e b true)else(Cq.Κ a b λg=>Cq.Κ c d λh=>Cq.bind (xH g.m h.m) λf=>AK a c d e b (decide (f<0)))
def vv(c:(Ŀ Za))(f:(Ŀ Za))(a:(Ŀ Za))(b:Int)(d:Int)(e:Bool):Cq (((Ŀ Za)×Int×Int)⊕(Ŀ Za)):=
 if e=true then(Cq.Κ c b λg=>Cq.ì ((a++[g]).length<=small) (Cq.ret (.inl ((a++[g]),i64.wrap (b+1),d))))else(AL c f d a b)
def xa(a:(Ŀ Za))(b:(Ŀ Za))(e:(Ŀ Za))(c:Int)(d:Int):Cq (((Ŀ Za)×Int×Int)⊕(Ŀ Za)):=
 if d=(b.length:Int)then(vv a b e c d true)else(if c<(a.length:Int)then(Cq.Κ a c λg=>Cq.Κ b d λh=>Cq.bind (xH g.m h.m) λf=>vv a b e c d (decide (0<f)))else(vv a b e c d false))
def ZuU(a:(Ŀ Za))(b:(Ŀ Za)):((Ŀ Za)×Int×Int)->Cq (Ŀ Za):=
 Cq.loop λf=>match f with|(c,d,e)=>if d<(a.length:Int)then(xa a b c d e)else(if e<(b.length:Int)then(xa a b c d e)else(Cq.ret (.inr c)))
def Br(a:(Ŀ Za))(b:(Ŀ Za)):Cq (Ŀ Za):=
 Cq.next (ZuU a b ([],0,0)) λd=>match d with|c=>ZuV c
def ZnV(a:(Ŀ Za)):Cq ((Ŀ Za)×Int):=
 Cq.ret (a,0)
def ZnW(f:(Ŀ Za))(a:(Ŀ Za))(b:Int)(d:(Fin 8->Int)):Cq (((Ŀ Za)×Int)⊕(Ŀ Za)):=
 Cq.Κ f b λg=>Cq.bind (Br a [(Za.mk g.c d)]) λe=>Cq.ret (.inl (e,i64.wrap (b+1)))
def PJ(d:(Ŀ Za))(b:(Fin 8->Int))(e:Int):(Int×(Fin 8->Int))->Cq (Fin 8->Int):=
 Cq.loop λf=>match f with|(a,c)=>if a<8 then(Cq.ì (0<=a/\a<8) (Cq.Κ d e λg=>Cq.ì (0<=a/\a<8) (Cq.ì (0<=Θ b a/\(Θ b a)<8) (Cq.ret (.inl (i64.wrap (a+1),ζ c ((Θ b a).toNat) (Θ g.m a)))))))else(Cq.ret (.inr c))
def ZnU(c:(Ŀ Za))(b:(Fin 8->Int)):((Ŀ Za)×Int)->Cq (Ŀ Za):=
 Cq.loop λf=>match f with|(a,d)=>if d<(c.length:Int)then(Cq.next (PJ c b d (0,(λ_=>0))) λg=>match g with|e=>ZnW c a d e)else(Cq.ret (.inr a))
def AA(d:(Ŀ Za))(a:(Fin 8->Int)):Cq ((Ŀ Za)×Int):=
 Cq.bind (Ji a) λc=>if(!c)=true then Cq.fail else(Cq.next (ZnU d a ([],0)) λe=>match e with|b=>ZnV b)
def PC(a:Zb)(b:(Ŀ (Ŀ Za)))(c:(Ŀ (Ŀ Za))):Cq Zb:=
 Cq.bind (Fb a.n b c) λd=>Cq.ret d.1
def ZmI(c:Zb)(e:(Fin 8->Int)):((Ŀ (Ŀ Za))×Int)->Cq (((Ŀ (Ŀ Za)))):=
 Cq.loop λf=>match f with|(b,a)=>if a<(c.ε.length:Int)then(Cq.Κ c.ε a λg=>Cq.bind (AA g e) λd=>Cq.ì ((b++[d.1]).length<=small) (Cq.ret (.inl ((b++[d.1]),i64.wrap (a+1)))))else(Cq.ret (.inr b))
def PD(a:Zb)(b:(Fin 8->Int))(c:(Ŀ (Ŀ Za))):Cq Zb:=
 Cq.next (ZmI a b ([],0)) λe=>match e with|d=>PC a c d
def ZmJ(c:Zb)(e:(Fin 8->Int)):((Ŀ (Ŀ Za))×Int)->Cq (((Ŀ (Ŀ Za)))):=
 Cq.loop λf=>match f with|(a,b)=>if b<(c.eqs.length:Int)then(Cq.Κ c.eqs b λg=>Cq.bind (AA g e) λd=>Cq.ì ((a++[d.1]).length<=small) (Cq.ret (.inl ((a++[d.1]),i64.wrap (b+1)))))else(Cq.ret (.inr a))
def ED(a:Zb)(b:(Fin 8->Int)):Cq Zb:=
 Cq.next (ZmJ a b ([],0)) λd=>match d with|c=>PD a b c
def xg(b:(Ŀ Za))(c:Int)(a:Int):Cq Bool:=
 Cq.bind (AV b) λd=>match d with|false=>(Cq.ret false)|true=>(Cq.bind (Bi b) λe=>Cq.ì (0<=(u64.wrap c)) (if(i64.wrap e)<(i64.wrap (1*2 ^ (min (u64.wrap c).toNat i64.bits)))then(Cq.bind (xf b) λf=>Cq.ret (decide (f<=a)))else(Cq.ret false)))
def Zpv:Cq Bool:=
 Cq.ret true
def Zpu(b:(Ŀ (Ŀ Za)))(g:Int):Int->Cq (Bool⊕Unit):=
 Cq.loop λh=>match h with|a=>if a<(b.length:Int)then(Cq.Κ b a λi=>Cq.bind (xg i g 12) λc=>match c with|false=>(Cq.ret (.inr (.inl false)))|true=>(Cq.Κ b a λj=>if(j.length:Int)=0 then(Cq.ret (.inr (.inl false)))else(Cq.Κ b a λk=>Cq.bind (E5 k) λd=>Cq.Κ b a λl=>Cq.bind (tX d l) λe=>match e with|false=>(Cq.ret (.inr (.inl false)))|true=>(if 0<a then(Cq.Κ b (i64.wrap (a-1)) λm=>Cq.Κ b a λn=>Cq.bind (Ge m n) λf=>if 0<=f then Cq.fail else(Cq.ret (.inl (i64.wrap (a+1)))))else(Cq.ret (.inl (i64.wrap (a+1))))))))else(Cq.ret (.inr (.inr ())))
def Fa(a:(Ŀ (Ŀ Za)))(c:Int):Cq Bool:=
 if 12<(a.length:Int)then Cq.fail else(Cq.next (Zpu a c 0) λd=>match d with|.inl b=>Cq.ret b|.inr ()=>Zpv)
def Zqz:Cq Bool:=
 Cq.ret true
def Zqy(b:Zb):Int->Cq (Bool⊕Unit):=
 Cq.loop λd=>match d with|a=>if a<(b.ε.length:Int)then(Cq.Κ b.ε a λe=>Cq.bind (xf e) λc=>if c=0 then Cq.fail else(Cq.ret (.inl (i64.wrap (a+1)))))else(Cq.ret (.inr (.inr ())))
def Qz(b:Zb):Cq Bool:=
 Cq.next (Zqy b 0) λc=>match c with|.inl a=>Cq.ret a|.inr ()=>Zqz
def AW(a:Zb):Cq Bool:=
 if a.n<1 then(Cq.ret false)else(if 4<a.n then(Cq.ret false)else(Cq.bind (Fa a.eqs a.n) λb=>match b with|false=>(Cq.ret false)|true=>(Cq.bind (Fa a.ε a.n) λc=>if(!c)=true then(Cq.ret false)else(Qz a))))
def Gh(a:Zb):Cq Ĳ:=
 Cq.bind (AW a) λb=>if(!b)=true then Cq.fail else(Cq.bind (vx [] a) λc=>Cq.ret (bytesOf c))
def ZqI(a:Zb)(b:(Fin 8->Int)):Cq (Zb×(Fin 8->Int)):=
 Cq.ret (a,b)
def ZqH(h:Zb)(a:(Ŀ (Fin 8->Int))):(Int×Zb×(Fin 8->Int))->Cq ((Zb×(Fin 8->Int))):=
 Cq.loop λi=>match i with|(b,c,d)=>if b<(a.length:Int)then(Cq.Κ a b λj=>Cq.bind (ED h j) λe=>Cq.bind (Gh e) λf=>Cq.bind (Gh c) λg=>if(Op.bytesLess f.toList g.toList)=true then(Cq.Κ a b λk=>Cq.ret (.inl (i64.wrap (b+1),e,k)))else(Cq.ret (.inl (i64.wrap (b+1),c,d))))else(Cq.ret (.inr (c,d)))
def Lg(b:Zb):Cq (Zb×(Fin 8->Int)):=
 Cq.bind (Lh b.n) λa=>Cq.Κ a 0 λf=>Cq.bind (ED b f) λc=>Cq.Κ a 0 λg=>Cq.next (ZqH b a (1,c,g)) λh=>match h with|(d,e)=>ZqI d e
def Zqm:Cq Bool:=
 Cq.ret true
def Zqn(b:Int)(a:Int):Cq (Int⊕(Bool⊕Unit)):=
 if a<0 then Cq.fail else(Cq.ret (.inl (i64.wrap (b+1))))
def Zql(d:(Ŀ (Fin 8->Int)))(b:Int):(Int×Int)->Cq (Bool⊕Int):=
 Cq.loop λe=>match e with|(a,c)=>if c<(d.length:Int)then(Cq.Κ d c λf=>Cq.ì (0<=b/\b<8) (if(Θ f b)<(-1000)then(Cq.ret (.inr (.inl false)))else(Cq.Κ d c λg=>Cq.ì (0<=b/\b<8) (if 1000<(Θ g b)then Cq.fail else(if a=0 then(Cq.Κ d c λh=>Cq.ì (0<=b/\b<8) (Cq.ret (.inl (Θ h b,i64.wrap (c+1)))))else(Cq.ret (.inl (a,i64.wrap (c+1)))))))))else(Cq.ret (.inr (.inr a)))
def Zqk(d:(Ŀ (Fin 8->Int))):Int->Cq (Bool⊕Unit):=
 Cq.loop λe=>match e with|b=>if b<8 then(Cq.next (Zql d b (0,0)) λf=>match f with|.inl c=>Cq.ret (.inr (.inl c))|.inr a=>Zqn b a)else(Cq.ret (.inr (.inr ())))
def yX(a:(Ŀ (Fin 8->Int))):Cq Bool:=
 if 24<(a.length:Int)then Cq.fail else(Cq.next (Zqk a 0) λc=>match c with|.inl b=>Cq.ret b|.inr ()=>Zqm)
def Zjm:Cq Bool:=
 Cq.ret true
def Zjl(a:(Fin 8->Int)):(Int×(Fin 8->Bool))->Cq (Bool⊕Unit):=
 Cq.loop λd=>match d with|(b,c)=>if b<8 then(Cq.ì (0<=b/\b<8) (if(Θ a b)<0 then(Cq.ret (.inr (.inl false)))else(Cq.ì (0<=b/\b<8) (if 7<(Θ a b)then(Cq.ret (.inr (.inl false)))else(Cq.ì (0<=b/\b<8) (Cq.ì (0<=Θ a b/\(Θ a b)<8) (if(Θ c (Θ a b))=true then Cq.fail else(Cq.ì (0<=b/\b<8) (Cq.ì (0<=Θ a b/\(Θ a b)<8) (Cq.ret (.inl (i64.wrap (b+1),ζ c ((Θ a b).toNat) true))))))))))))else(Cq.ret (.inr (.inr ())))
def Jn(a:(Fin 8->Int)):Cq Bool:=
 Cq.next (Zjl a (0,(λ_=>false))) λc=>match c with|.inl b=>Cq.ret b|.inr ()=>Zjm
def Gv(b:Zf):Cq (Zf×Int):=
 Cq.bind (Gc b.den b.num) λa=>Cq.ret (a.1,a.2)
def Gd(c:Zf)(d:Zf):Cq Zf:=
 Cq.bind (Gw d) λa=>Cq.bind (vE c a) λb=>Cq.ret b
def ZnT(a:(Ŀ Zf)):Cq (Ŀ Zf):=
 Cq.ret a
def ZnS(c:(Ŀ Zf))(f:Zf):(Int×(Ŀ Zf))->Cq (Ŀ Zf):=
 Cq.loop λg=>match g with|(b,a)=>if b<8 then(Cq.Κ a b λh=>Cq.Κ c b λi=>Cq.bind (rn f i) λd=>Cq.bind (Gd h d) λe=>Cq.Κ a b λj=>Cq.ret (.inl (i64.wrap (b+1),a.set b.toNat e)))else(Cq.ret (.inr a))
def Kl(a:(Ŀ Zf))(b:(Ŀ Zf))(d:Int):Cq (Ŀ Zf):=
 Cq.Κ a d λe=>Cq.next (ZnS b e (0,a)) λf=>match f with|c=>ZnT c
def ZsS(a:(Ŀ (Ŀ Zf))):Cq Int:=
 Cq.ret (a.length:Int)
def ZsT(a:(Ŀ (Ŀ Zf)))(b:(Ŀ Int))(e:Int)(c:Int)(d:(Ŀ Zf)):Cq (((Ŀ (Ŀ Zf))×(Ŀ Int)×Int)⊕(((Ŀ (Ŀ Zf))))):=
 Cq.ì ((a++[d]).length<=small) (Cq.ì ((b++[c]).length<=small) (Cq.ret (.inl ((a++[d]),(b++[c]),i64.wrap (e+1)))))
def QJ(c:Zf×Int):(Int×(Ŀ Zf))->Cq (Ŀ Zf):=
 Cq.loop λe=>match e with|(a,b)=>if a<8 then(Cq.Κ b a λf=>Cq.bind (rn f c.1) λd=>Cq.Κ b a λg=>Cq.ret (.inl (i64.wrap (a+1),b.set a.toNat d)))else(Cq.ret (.inr b))
def ZsU(b:(Ŀ (Ŀ Zf)))(c:(Ŀ Int))(d:Int)(e:(Ŀ Zf))(a:Int):Cq (((Ŀ (Ŀ Zf))×(Ŀ Int)×Int)⊕(((Ŀ (Ŀ Zf))))):=
 if a=8 then(Cq.ret (.inl (b,c,i64.wrap (d+1))))else(Cq.Κ e a λh=>Cq.bind (Gv h) λf=>Cq.next (QJ f (0,e)) λi=>match i with|g=>ZsT b c d a g)
def QK(b:(Ŀ Zf)):Int->Cq Int:=
 Cq.loop λd=>match d with|a=>if a<8 then(Cq.Κ b a λe=>Cq.bind (oC e) λc=>if c=0 then(Cq.ret (.inl (i64.wrap (a+1))))else(Cq.ret (.inr a)))else(Cq.ret (.inr a))
def ZsV(b:(Ŀ (Ŀ Zf)))(c:(Ŀ Int))(d:Int)(a:(Ŀ Zf)):Cq (((Ŀ (Ŀ Zf))×(Ŀ Int)×Int)⊕(((Ŀ (Ŀ Zf))))):=
 Cq.next (QK a 0) λf=>match f with|e=>ZsU b c d a e
def QL(b:(Ŀ (Ŀ Zf)))(d:(Ŀ Int)):(Int×(Ŀ Zf))->Cq (Ŀ Zf):=
 Cq.loop λf=>match f with|(a,c)=>if a<(b.length:Int)then(Cq.Κ b a λg=>Cq.Κ d a λh=>Cq.bind (Kl c g h) λe=>Cq.ret (.inl (i64.wrap (a+1),e)))else(Cq.ret (.inr c))
def ZsW(a:(Ŀ (Ŀ Zf)))(b:(Ŀ Int))(c:Int)(d:(Ŀ Zf)):Cq (((Ŀ (Ŀ Zf))×(Ŀ Int)×Int)⊕(((Ŀ (Ŀ Zf))))):=
 Cq.next (QL a b (0,d)) λf=>match f with|e=>ZsV a b c e
def Qx(c:(Ŀ (Fin 8->Int)))(d:Int):(Int×(Ŀ Zf))->Cq (Ŀ Zf):=
 Cq.loop λf=>match f with|(a,b)=>if a<8 then(Cq.Κ c d λg=>Cq.ì (0<=a/\a<8) (Cq.bind (ZX (Θ g a)) λe=>Cq.Κ b a λh=>Cq.ret (.inl (i64.wrap (a+1),b.set a.toNat e))))else(Cq.ret (.inr b))
def ZsR(b:(Ŀ (Fin 8->Int))):((Ŀ (Ŀ Zf))×(Ŀ Int)×Int)->Cq (((Ŀ (Ŀ Zf)))):=
 Cq.loop λf=>match f with|(c,d,a)=>if a<(b.length:Int)then(Cq.next (Qx b a (0,(List.replicate 8 (Zf.mk (Zg.mk false []) (Zg.mk false []))))) λg=>match g with|e=>ZsW c d a e)else(Cq.ret (.inr c))
def FT(a:(Ŀ (Fin 8->Int))):Cq Int:=
 Cq.next (ZsR a ([],[],0)) λc=>match c with|b=>ZsS b
def FU(a:Int)(b:Int):Cq (Fin 8->Int):=
 Cq.ì (0<=a/\a<8) (Cq.ret (ζ (λ_=>0) a.toNat b))
def ZsO(a:(Ŀ (Fin 8->Int))):Cq ((Ŀ (Fin 8->Int))×Int):=
 Cq.ret (a,0)
def ZsN:((Ŀ (Fin 8->Int))×Int)->Cq (((Ŀ (Fin 8->Int)))):=
 Cq.loop λd=>match d with|(a,c)=>if c<8 then(Cq.bind (FU c 1) λb=>Cq.ì ((a++[b]).length<=small) (Cq.ret (.inl ((a++[b]),i64.wrap (c+1)))))else(Cq.ret (.inr a))
def LA(a:(Ŀ (Fin 8->Int))):Cq ((Ŀ (Fin 8->Int))×Int):=
 Cq.bind (yX a) λc=>if(!c)=true then Cq.fail else(Cq.ì (([]++a).length<=small) (Cq.bind (FT a) λd=>if d=8 then(Cq.ret (([]++a),0))else(if 16<(a.length:Int)then Cq.fail else(Cq.next (ZsN (([]++a),0)) λe=>match e with|b=>ZsO b))))
def ZnO(a:(Ŀ (Fin 8->Int))):Cq ((Ŀ (Fin 8->Int))×Int):=
 Cq.ret (a,0)
def ZnP(a:(Ŀ (Fin 8->Int)))(c:Int)(b:(Fin 8->Int)):Cq (((Ŀ (Fin 8->Int))×Int)⊕(((Ŀ (Fin 8->Int))))):=
 Cq.ì ((a++[b]).length<=small) (Cq.ret (.inl ((a++[b]),i64.wrap (c+1))))
def PI(b:(Fin 8->Int))(d:(Ŀ (Fin 8->Int))×Int)(e:Int):(Int×(Fin 8->Int))->Cq (Fin 8->Int):=
 Cq.loop λf=>match f with|(a,c)=>if a<8 then(Cq.ì (0<=a/\a<8) (Cq.Κ d.1 e λg=>Cq.ì (0<=a/\a<8) (Cq.ì (0<=Θ b a/\(Θ b a)<8) (Cq.ret (.inl (i64.wrap (a+1),ζ c ((Θ b a).toNat) (Θ g a)))))))else(Cq.ret (.inr c))
def ZnN(b:(Fin 8->Int))(c:(Ŀ (Fin 8->Int))×Int):((Ŀ (Fin 8->Int))×Int)->Cq (((Ŀ (Fin 8->Int)))):=
 Cq.loop λf=>match f with|(a,d)=>if d<(c.1.length:Int)then(Cq.next (PI b c d (0,(λ_=>0))) λg=>match g with|e=>ZnP a d e)else(Cq.ret (.inr a))
def Kk(d:(Ŀ (Fin 8->Int)))(a:(Fin 8->Int)):Cq ((Ŀ (Fin 8->Int))×Int):=
 Cq.bind (yX d) λe=>if(!e)=true then Cq.fail else(Cq.bind (Jn a) λf=>if(!f)=true then Cq.fail else(Cq.bind (LA d) λb=>if ¬b.2=0 then Cq.fail else(Cq.next (ZnN a b ([],0)) λg=>match g with|c=>ZnO c)))
def Es(a:Int):Cq Bool:=
 if a=1 then(Cq.ret true)else(if a=7 then(Cq.ret true)else(Cq.ret (decide (a=9))))
def J0(a:Zc):Cq Bool:=
 if(a.p.length:Int)=0 then(if(a.o.length:Int)=0 then(Cq.ret true)else(Cq.ret (decide (a.kind=3))))else(Cq.bind (Es a.kind) λb=>match b with|false=>(Cq.ret false)|true=>(if(a.o.length:Int)=0 then(Cq.ret true)else(Cq.ret (decide (a.kind=3)))))
def KZ(b:Zb)(a:Zc):Cq Bool:=
 if a.kind<1 then(Cq.ret false)else(if 10<a.kind then(Cq.ret false)else(Cq.bind (AV a.p) λc=>match c with|false=>(Cq.ret false)|true=>(Cq.bind (xf a.p) λd=>if 12<d then(Cq.ret false)else(Cq.bind (Bi a.p) λe=>Cq.ì (0<=(u64.wrap b.n)) (if(i64.wrap (1*2 ^ (min (u64.wrap b.n).toNat i64.bits)))<=(i64.wrap e)then(Cq.ret false)else(Cq.bind (yX a.o) λf=>if(!f)=true then(Cq.ret false)else(J0 a)))))))
def Qo(a:ZE):Cq ZE:=
 if ¬a.e=0 then Cq.fail else(Cq.ret a)
def Zq1(e:Zb)(b:Zc):Cq ZE:=
 Cq.bind (Lg e) λa=>Cq.bind (AA b.p a.2) λc=>if b.kind=3 then(Cq.bind (Kk b.o a.2) λd=>Qo (ZE.mk a.1 (Zc.mk b.kind c.1 d.1) d.2))else(Qo (ZE.mk a.1 (Zc.mk b.kind c.1 []) 0))
def AZ(a:Zb)(b:Zc):Cq ZE:=
 Cq.bind (AW a) λc=>match c with|false=>(Cq.ret (ZE.mk (Zb.mk 0 [] []) (Zc.mk 0 [] []) 1))|true=>(Cq.bind (KZ a b) λd=>if(!d)=true then(Cq.ret (ZE.mk (Zb.mk 0 [] []) (Zc.mk 0 [] []) 1))else(Zq1 a b))
def JX(b:Zc)(a:Bool):Cq (Ŀ Zc):=
 if a=true then(Cq.ret [(Zc.mk 5 [] [])])else(if b.kind=7 then(Cq.ret [(Zc.mk 6 [] [])])else(Cq.ret []))
def JY(a:Zc)(b:Bool):Cq (Ŀ Zc):=
 if b=true then(Cq.ret [(Zc.mk 4 [] [])])else(if a.kind=6 then(JX a (decide (a.kind=6)))else(JX a (decide (a.kind=10))))
def FI(a:Zc):Cq (Ŀ Zc):=
 if a.kind=5 then(JY a (decide (a.kind=5)))else(JY a (decide (a.kind=8)))
def Zqu(a:(Ŀ Int)):Cq (Ŀ Int):=
 Cq.ret a
def Zqv(a:Int)(b:(Ŀ Int)):Cq (((Ŀ Int)×Int)⊕(Ŀ Int)):=
 Cq.ret (.inl (b,i64.wrap (a+1)))
def Zqt(d:(Ŀ (Fin 8->Int)))(e:Int):((Ŀ Int)×Int)->Cq (Ŀ Int):=
 Cq.loop λf=>match f with|(b,a)=>if a<8 then(Cq.Κ d e λg=>Cq.ì (0<=a/\a<8) (Cq.bind (AM b (Θ g a)) λc=>Cq.ret (.inl (c,i64.wrap (a+1)))))else(Cq.ret (.inr b))
def Zqs(b:(Ŀ (Fin 8->Int))):((Ŀ Int)×Int)->Cq (Ŀ Int):=
 Cq.loop λd=>match d with|(c,a)=>if a<(b.length:Int)then(Cq.next (Zqt b a (c,0)) λe=>match e with|f=>Zqv a f)else(Cq.ret (.inr c))
def Le(c:(Ŀ Int))(a:(Ŀ (Fin 8->Int))):Cq (Ŀ Int):=
 Cq.bind (uj c (u64.wrap (a.length:Int))) λb=>Cq.next (Zqs a (b,0)) λd=>match d with|e=>Zqu e
def Gg(a:Zc):Cq Ĳ:=
 Cq.bind (AM [] a.kind) λb=>Cq.bind (FV b a.p) λc=>Cq.bind (Le c a.o) λd=>Cq.ret (bytesOf d)
def ZY(c:Zc)(d:Zc):Cq Bool:=
 Cq.bind (Gg c) λa=>Cq.bind (Gg d) λb=>Cq.ret (decide (a=b))
def Zv3:Cq Int:=
 Cq.ret (-1)
def FL(b:Ze)(e:Zb)(f:Zc):Int->Cq (Int⊕Unit):=
 Cq.loop λg=>match g with|a=>if a<(b.t.length:Int)then(Cq.Κ b.t a λh=>Cq.bind (Z7 h.k e) λc=>match c with|false=>(Cq.ret (.inl (i64.wrap (a+1))))|true=>(Cq.Κ b.t a λi=>Cq.bind (ZY i.q f) λd=>if d=true then(Cq.ret (.inr (.inl a)))else(Cq.ret (.inl (i64.wrap (a+1))))))else(Cq.ret (.inr (.inr ())))
def Mp(b:Ze)(c:Zb)(d:Zc):Cq Int:=
 Cq.next (FL b c d 0) λe=>match e with|.inl a=>Cq.ret a|.inr ()=>Zv3
def QE(b:ZE)(a:Ze):Cq Zv:=
 Cq.bind (Mp a b.k b.q) λc=>if 0<=c then(Cq.Κ a.t c λd=>Cq.ret (Zv.mk a d.id 0))else(if 100<=(a.t.length:Int)then(Cq.ret (Zv.mk (Ze.mk [] 0) 0 2))else(if 1000000<=a.next then Cq.fail else(Cq.ì ((([]:Ŀ Zd)++a.t).length<=small) (Cq.ì (((([]:Ŀ Zd)++a.t)++[(Zd.mk a.next b.k b.q 0 0 (-1) false)]).length<=small) (Cq.ret (Zv.mk (Ze.mk ((([]:Ŀ Zd)++a.t)++[(Zd.mk a.next b.k b.q 0 0 (-1) false)]) (i64.wrap (a.next+1))) a.next 0))))))
def ZqZ(e:Ze->Zb->Zc->Cq Zv)(h:ZE)(c:(Ŀ Zc)):(Int×Ze×Zv)->Cq (Zv⊕(Ze×Zv)):=
 Cq.loop λi=>match i with|(a,d,f)=>if a<(c.length:Int)then(Cq.Κ c a λj=>Cq.bind (e d h.k j) λg=>if ¬g.e=0 then Cq.fail else(Cq.ret (.inl (i64.wrap (a+1),g.b,f))))else(Cq.ret (.inr (.inr (d,f))))
def KA(e:Ze->Zb->Zc->Cq Zv)(b:Ze)(c:Zb)(d:Zc):Cq Zv:=
 Cq.bind (AZ c d) λa=>if ¬a.e=0 then(Cq.ret (Zv.mk (Ze.mk [] 0) 0 a.e))else(Cq.bind (FI a.q) λf=>Cq.next (ZqZ e a f (0,b,(Zv.mk (Ze.mk [] 0) 0 0))) λi=>match i with|.inl g=>Cq.ret g|.inr (h,j)=>QE a h)
def AY:Nat->Ze->Zb->Zc->Cq Zv
 |0,_,_,_=>Cq.fail
 |n+1,a,b,c=>KA (AY n) a b c
def Mj(a:Int):Cq ((Ŀ Za)×Int):=
 if a<0 then(Cq.ret ([],1))else(if 8<=a then Cq.fail else(Cq.ì (0<=a/\a<8) (Cq.bind (ZX 1) λb=>Cq.ret ([(Za.mk b (ζ (λ_=>0) a.toNat 1))],0))))
def Gb:Cq Ze:=
 Cq.ret (Ze.mk [] 1)
def A8(a:Int):Cq Zc:=
 Cq.ret (Zc.mk a [] [])
def Zoc(c:(Ŀ Int))(b:(Ŀ Int))(a:Int):Cq (Ŀ Int):=
 Cq.Κ b (c.length:Int) λe=>Cq.bind (ZZ (b.set (c.length:Int).toNat (u32.wrap a))) λd=>Cq.ret d
def PM(b:(Ŀ Int))(a:Int)(c:Int):Cq (((Ŀ Int)×Int×Int)⊕(((Ŀ Int)×Int))):=
 Cq.Κ b a λd=>Cq.ret (.inl ((b.set a.toNat (u32.wrap c)),Int.fdiv c (2 ^ (min (32:Int).toNat u64.bits)),i64.wrap (a+1)))
def Zob(d:(Ŀ Int))(e:(Ŀ Int)):((Ŀ Int)×Int×Int)->Cq (((Ŀ Int)×Int)):=
 Cq.loop λg=>match g with|(c,b,a)=>if a<(d.length:Int)then(Cq.Κ d a λf=>if a<(e.length:Int)then(Cq.Κ e a λh=>PM c a (u64.wrap ((u64.wrap ((u64.wrap f)+b))+(u64.wrap h))))else(PM c a (u64.wrap ((u64.wrap f)+b))))else(Cq.ret (.inr (c,b)))
def JM(a:(Ŀ Int))(d:(Ŀ Int)):Cq (Ŀ Int):=
 Cq.ì (0<=i64.wrap ((a.length:Int)+1)/\(i64.wrap ((a.length:Int)+1))<=1000000) (Cq.next (Zob a d ((List.replicate (i64.wrap ((a.length:Int)+1)).toNat 0),0,0)) λe=>match e with|(c,b)=>Zoc a c b)
def RA(a:(Ŀ Int))(b:(Ŀ Int)):Cq (Ŀ Int):=
 if(a.length:Int)<(b.length:Int)then(JM b a)else(JM a b)
def Zho(a:(Ŀ Int)):Cq (Ŀ Int):=
 Cq.bind (ZZ a) λb=>Cq.ret b
def Pg(b:(Ŀ Int))(a:Int)(c:Int):Cq (((Ŀ Int)×Int×Int)⊕(Ŀ Int)):=
 Cq.Κ b a λd=>Cq.ret (.inl ((b.set a.toNat (u32.wrap c)),Int.fdiv c (2 ^ (min (63:Int).toNat u64.bits)),i64.wrap (a+1)))
def Zhn(d:(Ŀ Int))(e:(Ŀ Int)):((Ŀ Int)×Int×Int)->Cq (Ŀ Int):=
 Cq.loop λg=>match g with|(c,b,a)=>if a<(d.length:Int)then(Cq.Κ d a λf=>if a<(e.length:Int)then(Cq.Κ e a λh=>Pg c a (u64.wrap ((u64.wrap ((u64.wrap f)-b))-(u64.wrap h))))else(Pg c a (u64.wrap ((u64.wrap f)-b))))else(Cq.ret (.inr c))
def Jm(a:(Ŀ Int))(c:(Ŀ Int)):Cq (Ŀ Int):=
 Cq.ì (0<=(a.length:Int)/\(a.length:Int)<=1000000) (Cq.next (Zhn a c ((List.replicate (a.length:Int).toNat 0),0,0)) λd=>match d with|b=>Zho b)
def Zoi:Cq Bool:=
 Cq.ret true
def Zoj(a:Int)(b:(Fin 8->Bool)):Cq ((Int×(Fin 8->Bool))⊕(Bool⊕Unit)):=
 Cq.ret (.inl (i64.wrap (a+1),b))
def Eg(c:(Fin 8->Int))(a:Int)(b:(Fin 8->Bool)):Cq ((Int×(Fin 8->Bool))⊕(Bool⊕(Fin 8->Bool))):=
 Cq.ì (0<=a/\a<8) (if(Θ b a)=true then(Cq.ì (0<=a/\a<8) (Cq.ret (.inl (i64.wrap (a+1),ζ b a.toNat true))))else(Cq.ì (0<=a/\a<8) (Cq.ret (.inl (i64.wrap (a+1),ζ b a.toNat (decide (¬(Θ c a)=0)))))))
def PR(c:(Fin 8->Int)):(Int×(Fin 8->Bool))->Cq (Bool⊕(Fin 8->Bool)):=
 Cq.loop λd=>match d with|(a,b)=>if a<8 then(Cq.ì (0<=a/\a<8) (if(Θ c a)<(-1000)then(Cq.ret (.inr (.inl false)))else(if 1000<(Θ c a)then(Cq.ret (.inr (.inl false)))else(if(Θ c a)<0 then(Cq.ì (0<=a/\a<8) (if(!(Θ b a))=true then Cq.fail else(Eg c a b)))else(Eg c a b)))))else(Cq.ret (.inr (.inr b)))
def Zoh(b:(Ŀ (Fin 8->Int))):(Int×(Fin 8->Bool))->Cq (Bool⊕Unit):=
 Cq.loop λf=>match f with|(a,c)=>if a<(b.length:Int)then(Cq.Κ b a λg=>Cq.next (PR g (0,c)) λh=>match h with|.inl d=>Cq.ret (.inr (.inl d))|.inr e=>Zoj a e)else(Cq.ret (.inr (.inr ())))
def yI(a:(Ŀ (Fin 8->Int))):Cq Bool:=
 if 24<(a.length:Int)then Cq.fail else(Cq.next (Zoh a (0,(λ_=>false))) λc=>match c with|.inl b=>Cq.ret b|.inr ()=>Zoi)
def Ee(a:Zc):Cq Bool:=
 if a.kind=1 then(if a.kind=1 then(Cq.ret true)else(Cq.ret (decide ((a.p.length:Int)=0))))else(if a.kind=7 then(if a.kind=7 then(Cq.ret true)else(Cq.ret (decide ((a.p.length:Int)=0))))else(if a.kind=9 then(Cq.ret true)else(Cq.ret (decide ((a.p.length:Int)=0)))))
def J8(a:Zc):Cq Bool:=
 Cq.bind (yI a.o) λb=>match b with|false=>(Cq.ret false)|true=>(if 0<(a.o.length:Int)then(if ¬a.kind=3 then(Cq.ret false)else(Ee a))else(Ee a))
def PY(b:Zb)(a:Zc):Cq Bool:=
 Cq.bind (Ap a.p) λc=>match c with|false=>(Cq.ret false)|true=>(Cq.bind (wZ a.p) λd=>if 12<d then(Cq.ret false)else(Cq.bind (Av a.p) λe=>Cq.ì (0<=b.n) (if ¬(Int.fdiv e (2 ^ (min (b.n).toNat u8.bits)))=0 then(Cq.ret false)else(J8 a))))
def E1(b:Zb)(a:Zc):Cq Bool:=
 if a.kind<1 then(Cq.ret false)else(if 10<a.kind then(Cq.ret false)else(PY b a))
def Pb(a:(Ŀ (Fin 8->Int))):Cq ((Ŀ (Fin 8->Int))):=
 Cq.qd a (Cq.ret []) (Cq.ì (([]++a).length<=small) (Cq.ret ([]++a)))
def J3(a:(Ŀ Zf))(b:Int):Cq Bool:=
 Cq.Κ a b λd=>Cq.bind (ZH d) λc=>Cq.ret (decide (¬c=0))
def QT(a:Zf):Cq (Zf×Int):=
 Cq.bind (vh a.num) λb=>if b=0 then Cq.fail else(if b=(-1)then(Cq.bind (yH a.den) λc=>Cq.bind (yH a.num) λd=>Cq.ret ((Zf.mk c d),0))else(Cq.ret ((Zf.mk a.den a.num),0)))
def EH(c:Zf)(d:Zf):Cq (Zf×Int):=
 Cq.bind (QT d) λa=>if ¬a.2=0 then Cq.fail else(Cq.bind (Z9 c a.1) λb=>Cq.ret (b,0))
def QU(a:Zf):Cq Zf:=
 Cq.bind (yH a.num) λb=>Cq.ret (Zf.mk b a.den)
def Ry(a:Zg)(b:Zg):Cq Zg:=
 if a.neg=b.neg then(Cq.bind (RA a.χ b.χ) λc=>Cq.bind (ZS a.neg c) λd=>Cq.ret d)else(Cq.bind (Au a.χ b.χ) λe=>if 0<=e then(Cq.bind (Jm a.χ b.χ) λf=>Cq.bind (ZS a.neg f) λg=>Cq.ret g)else(Cq.bind (Jm b.χ a.χ) λh=>Cq.bind (ZS b.neg h) λi=>Cq.ret i))
def QS(a:Zf)(b:Zf):Cq Zf:=
 Cq.bind (vm [a.num,b.den]) λc=>Cq.bind (vm [b.num,a.den]) λd=>Cq.bind (Ry c d) λe=>Cq.bind (vm [a.den,b.den]) λf=>Cq.bind (Aw e f) λg=>Cq.ret g
def Ev(c:Zf)(d:Zf):Cq Zf:=
 Cq.bind (QU d) λa=>Cq.bind (QS c a) λb=>Cq.ret b
def ZaN:Cq Int:=
 Cq.ret (-1)
def ZaM(c:(Ŀ (Ŀ Zf)))(b:Int):Int->Cq (Int⊕Unit):=
 Cq.loop λe=>match e with|a=>if a<(c.length:Int)then(Cq.Κ c a λf=>Cq.bind (J3 f b) λd=>if d=true then(Cq.ret (.inr (.inl a)))else(Cq.ret (.inl (i64.wrap (a+1)))))else(Cq.ret (.inr (.inr ())))
def ZO(c:(Ŀ (Ŀ Zf)))(a:Int):Cq Int:=
 Cq.next (ZaM c a 0) λd=>match d with|.inl b=>Cq.ret b|.inr ()=>ZaN
def ZpO(a:Int):Cq Int:=
 Cq.ret a
def ZpP(b:Int)(a:Int)(c:(Ŀ (Ŀ Zf))):Cq (((Ŀ (Ŀ Zf))×Int×Int)⊕Int):=
 Cq.ret (.inl (c,i64.wrap (b+1),i64.wrap (a+1)))
def ZpQ(a:Int)(b:(Ŀ (Ŀ Zf))):Cq (((Ŀ (Ŀ Zf))×Int)⊕(((Ŀ (Ŀ Zf))))):=
 Cq.ret (.inl (b,i64.wrap (a+1)))
def Qi(e:Int)(c:Int)(f:Zf×Int):((Ŀ (Ŀ Zf))×Int)->Cq (((Ŀ (Ŀ Zf)))):=
 Cq.loop λl=>match l with|(b,a)=>if a<8 then(Cq.Κ b c λm=>Cq.Κ m a λg=>Cq.Κ b e λh=>Cq.Κ h a λi=>Cq.bind (Z9 f.1 i) λj=>Cq.bind (Ev g j) λk=>Cq.Κ b c λd=>Cq.Κ d a λn=>Cq.ret (.inl ((b.set c.toNat (d.set a.toNat k)),i64.wrap (a+1))))else(Cq.ret (.inr b))
def Qh(d:Int)(c:Int):((Ŀ (Ŀ Zf))×Int)->Cq (((Ŀ (Ŀ Zf)))):=
 Cq.loop λg=>match g with|(b,a)=>if a<(b.length:Int)then(Cq.Κ b a λh=>Cq.Κ h c λi=>Cq.Κ b d λj=>Cq.Κ j c λk=>Cq.bind (EH i k) λf=>Cq.next (Qi d a f (b,c)) λl=>match l with|e=>ZpQ a e)else(Cq.ret (.inr b))
def ZpN:((Ŀ (Ŀ Zf))×Int×Int)->Cq Int:=
 Cq.loop λg=>match g with|(b,a,c)=>if c<8 then(Cq.ì (0<=a/\a<=(b.length:Int)) (Cq.bind (ZO (b.drop a.toNat) c) λd=>if d<0 then(Cq.ret (.inl (b,a,i64.wrap (c+1))))else(Cq.Κ b (i64.wrap (a+d)) λf=>Cq.Κ b a λh=>Cq.Κ b a λj=>Cq.Κ (b.set a.toNat f) (i64.wrap (a+d)) λk=>Cq.next (Qh a c (((b.set a.toNat f).set (i64.wrap (a+d)).toNat h),i64.wrap (a+1))) λi=>match i with|e=>ZpP a c e)))else(Cq.ret (.inr a))
def ZpR(a:(Ŀ (Ŀ Zf))):Cq Int:=
 Cq.next (ZpN (a,0,0)) λc=>match c with|b=>ZpO b
def ZpS(a:Int)(b:(Ŀ (Ŀ Zf))):Cq (((Ŀ (Ŀ Zf))×Int)⊕(((Ŀ (Ŀ Zf))))):=
 Cq.ret (.inl (b,i64.wrap (a+1)))
def PS(c:Int)(e:(Fin 8->Int)):((Ŀ (Ŀ Zf))×Int)->Cq (((Ŀ (Ŀ Zf)))):=
 Cq.loop λg=>match g with|(b,a)=>if a<8 then(Cq.ì (0<=a/\a<8) (Cq.bind (wX (Θ e a)) λf=>Cq.Κ b c λd=>Cq.Κ d a λh=>Cq.ret (.inl ((b.set c.toNat (d.set a.toNat f)),i64.wrap (a+1)))))else(Cq.ret (.inr b))
def Qj(b:(Ŀ (Fin 8->Int))):((Ŀ (Ŀ Zf))×Int)->Cq (((Ŀ (Ŀ Zf)))):=
 Cq.loop λf=>match f with|(c,a)=>if a<(b.length:Int)then(Cq.Κ b a λe=>Cq.next (PS a e (c,0)) λg=>match g with|d=>ZpS a d)else(Cq.ret (.inr c))
def EZ(a:(Ŀ (Fin 8->Int))):Cq Int:=
 Cq.ì (0<=(a.length:Int)/\(a.length:Int)<=1000000) (Cq.next (Qj a ((List.replicate (a.length:Int).toNat (List.replicate 8 (Zf.mk (Zg.mk false []) (Zg.mk false [])))),0)) λc=>match c with|b=>ZpR b)
def ZpM(a:(Fin 8->Int)):Cq (Fin 8->Int):=
 Cq.ret a
def ZpL(b:Int):(Int×(Fin 8->Int))->Cq (Fin 8->Int):=
 Cq.loop λd=>match d with|(a,c)=>if a<8 then(Cq.ì (0<=a) (Cq.ì (0<=a/\a<8) (Cq.ret (.inl (i64.wrap (a+1),ζ c a.toNat (i64.wrap (u8.wrap (BitVec.ofInt u8.bits (Int.fdiv b (2 ^ (min (a).toNat u8.bits))) &&& BitVec.ofInt u8.bits 1).toNat)))))))else(Cq.ret (.inr c))
def KQ(a:Int):Cq (Fin 8->Int):=
 Cq.next (ZpL a (0,(λ_=>0))) λc=>match c with|b=>ZpM b
def ZpK(a:(Ŀ (Fin 8->Int))):Cq ((Ŀ (Fin 8->Int))×Int):=
 Cq.ret (a,0)
def ZpJ:((Ŀ (Fin 8->Int))×Int)->Cq (((Ŀ (Fin 8->Int)))):=
 Cq.loop λd=>match d with|(b,a)=>if a<8 then(Cq.ì (0<=a) (Cq.bind (KQ (u8.wrap (1*2 ^ (min (a).toNat u8.bits)))) λc=>Cq.ì ((b++[c]).length<=small) (Cq.ret (.inl ((b++[c]),i64.wrap (a+1))))))else(Cq.ret (.inr b))
def KP(a:(Ŀ (Fin 8->Int))):Cq ((Ŀ (Fin 8->Int))×Int):=
 Cq.bind (yI a) λc=>if(!c)=true then Cq.fail else(Cq.bind (Pb a) λb=>Cq.bind (EZ a) λd=>if d=8 then(Cq.ret (b,0))else(if 24<(i64.wrap ((a.length:Int)+8))then Cq.fail else(Cq.next (ZpJ (b,0)) λf=>match f with|e=>ZpK e)))
def Zml(a:(Ŀ (Fin 8->Int))):Cq ((Ŀ (Fin 8->Int))×Int):=
 Cq.ret (a,0)
def Zmm(a:Int)(b:(Ŀ (Fin 8->Int))):Cq (((Ŀ (Fin 8->Int))×Int)⊕(((Ŀ (Fin 8->Int))))):=
 Cq.ret (.inl (b,i64.wrap (a+1)))
def Pk(c:(Fin 8->Int))(d:Int)(e:(Fin 8->Int)):((Ŀ (Fin 8->Int))×Int)->Cq (((Ŀ (Fin 8->Int)))):=
 Cq.loop λf=>match f with|(b,a)=>if a<8 then(Cq.ì (0<=a/\a<8) (Cq.ì (0<=a/\a<8) (Cq.Κ b d λg=>Cq.ì (0<=Θ c a/\(Θ c a)<8) (Cq.ret (.inl ((b.set d.toNat (ζ g (Θ c a).toNat (Θ e a))),i64.wrap (a+1)))))))else(Cq.ret (.inr b))
def Zmj(e:(Fin 8->Int))(d:(Ŀ (Fin 8->Int))×Int):((Ŀ (Fin 8->Int))×Int)->Cq (((Ŀ (Fin 8->Int)))):=
 Cq.loop λf=>match f with|(b,a)=>if a<(d.1.length:Int)then(Cq.Κ d.1 a λg=>Cq.next (Pk e a g (b,0)) λh=>match h with|c=>Zmm a c)else(Cq.ret (.inr b))
def Pm(c:(Ŀ (Fin 8->Int)))(d:(Fin 8->Int)):Cq ((Ŀ (Fin 8->Int))×Int):=
 Cq.bind (KP c) λa=>if ¬a.2=0 then Cq.fail else(Cq.ì (0<=(a.1.length:Int)/\(a.1.length:Int)<=1000000) (Cq.next (Zmj d a ((List.replicate (a.1.length:Int).toNat (λ_=>0)),0)) λe=>match e with|b=>Zml b))
def Zmk(b:(Fin 8->Int)):(Int×(Fin 8->Bool))->Cq (((Ŀ (Fin 8->Int))×Int)⊕Unit):=
 Cq.loop λd=>match d with|(a,c)=>if a<8 then(Cq.ì (0<=a/\a<8) (if(Θ b a)<0 then(Cq.ret (.inr (.inl ([],1))))else(if 8<=(Θ b a)then(Cq.ret (.inr (.inl ([],1))))else(Cq.ì (0<=Θ b a/\(Θ b a)<8) (if(Θ c (Θ b a))=true then Cq.fail else(Cq.ì (0<=Θ b a/\(Θ b a)<8) (Cq.ret (.inl (i64.wrap (a+1),ζ c ((Θ b a).toNat) true)))))))))else(Cq.ret (.inr (.inr ())))
def J2(a:(Ŀ (Fin 8->Int)))(b:(Fin 8->Int)):Cq ((Ŀ (Fin 8->Int))×Int):=
 Cq.bind (yI a) λc=>if(!c)=true then Cq.fail else(Cq.next (Zmk b (0,(λ_=>false))) λe=>match e with|.inl d=>Cq.ret d|.inr ()=>Pm a b)
def Ei(b:Zc)(a:(Fin 8->Int)):Cq (Zc×Int):=
 Cq.bind (D9 b.p a) λc=>if ¬c.2=0 then Cq.fail else(if b.kind=3 then(Cq.bind (J2 b.o a) λd=>if ¬d.2=0 then Cq.fail else(Cq.ret ((Zc.mk b.kind c.1 d.1),0)))else(Cq.ret ((Zc.mk b.kind c.1 []),0)))
def Z4(a:(Ŀ Zd)):Cq (Ŀ Zd):=
 Cq.qd a (Cq.ret []) (Cq.ì (([]++a).length<=small) (Cq.ret ([]++a)))
def ZtI(b:Ze)(c:Zb×(Fin 8->Int))(d:Zc×Int)(e:(Ŀ (Ĳ×Int))):Cq (Ze×Int×Int):=
 Cq.bind (Z4 b.t) λf=>Cq.bind (vl 5 c.1 d.1 e (Ze.mk f b.next)) λa=>if ¬a.1.2=0 then Cq.fail else(Cq.ret ((Ze.mk a.2.2.t a.2.2.next),a.1.1,0))
def ER(b:Ze):(Int×(Ŀ (Ĳ×Int)))->Cq (((Ŀ (Ĳ×Int)))):=
 Cq.loop λf=>match f with|(a,c)=>if a<(b.t.length:Int)then(Cq.Κ b.t a λe=>Cq.bind (tH e.k e.q) λd=>Cq.ì ((d.size<=1000000)/\(eT c d e.id).length<=small) (Cq.ret (.inl (i64.wrap (a+1),(eT c d e.id)))))else(Cq.ret (.inr c))
def Q5(a:Ze)(d:Zb)(e:Zc):Cq (Ze×Int×Int):=
 Cq.bind (Ew d) λb=>Cq.bind (Ei e b.2) λc=>if ¬c.2=0 then Cq.fail else(Cq.next (ER a (0,[])) λg=>match g with|f=>ZtI a b c f)
def xE(c:Ze)(a:Zb)(b:Zc):Cq (Ze×Int×Int):=
 Cq.bind (vk a) λd=>match d with|false=>(Cq.ret ((Ze.mk [] 0),0,1))|true=>(Cq.bind (E1 a b) λe=>if(!e)=true then(Cq.ret ((Ze.mk [] 0),0,1))else(Q5 c a b))
def Zsx:Cq (Zd×Bool):=
 Cq.ret ((Zd.mk 0 (Zb.mk 0 [] []) (Zc.mk 0 [] []) 0 0 0 false),false)
def Kn(c:Ze)(d:Int):(Int×Zd)->Cq ((Zd×Bool)⊕Zd):=
 Cq.loop λf=>match f with|(a,b)=>if a<(c.t.length:Int)then(Cq.Κ c.t a λe=>if e.id=d then(Cq.ret (.inr (.inl (e,true))))else(Cq.ret (.inl (i64.wrap (a+1),b))))else(Cq.ret (.inr (.inr b)))
def xA(c:Ze)(a:Int):Cq (Zd×Bool):=
 Cq.next (Kn c a (0,(Zd.mk 0 (Zb.mk 0 [] []) (Zc.mk 0 [] []) 0 0 0 false))) λd=>match d with|.inl b=>Cq.ret b|.inr e=>Zsx
def fv(a:ZD)(c:(Ŀ Za)):Cq Bool:=
 Cq.bind (ç a c 64) λb=>Cq.ret b
def Za2:Cq Bool:=
 Cq.ret true
def Za1(c:(Ŀ (Ŀ Za)))(b:ZD):Int->Cq (Bool⊕Unit):=
 Cq.loop λe=>match e with|a=>if a<(c.length:Int)then(Cq.Κ c a λf=>Cq.bind (fv b f) λd=>if(!d)=true then(Cq.ret (.inr (.inl false)))else(Cq.ret (.inl (i64.wrap (a+1)))))else(Cq.ret (.inr (.inr ())))
def O7(c:(Ŀ (Ŀ Za)))(a:ZD):Cq Bool:=
 Cq.next (Za1 c a 0) λd=>match d with|.inl b=>Cq.ret b|.inr ()=>Za2
def fk(a:ZD)(c:(Ŀ (Ŀ Za))):Cq Bool:=
 Cq.bind (O7 c a) λb=>Cq.ret b
def Æ(a:ZD)(b:(Ŀ (Ŀ Za))):Cq Bool:=
 if(b.length:Int)<=64 then(Cq.bind (fk a b) λc=>Cq.ret c)else(Cq.ret false)
def Em(a:Int):Cq Bool:=
 if 0<=a then(Cq.ret (decide (a<=1000000)))else(Cq.ret false)
def Jt(a:Zl):Cq Bool:=
 Cq.bind (Z0 a.lo) λb=>match b with|false=>(Cq.ret false)|true=>(Cq.bind (Z0 a.hi) λc=>match c with|false=>(Cq.ret false)|true=>(Cq.bind (vi a.lo a.hi) λd=>Cq.ret (decide (d<=0))))
def tC(a:Zf):Cq Bool:=
 Cq.bind (Z0 a) λb=>match b with|false=>(Cq.ret false)|true=>(Cq.bind (ZH a) λc=>Cq.ret (decide (c=0)))
def gF:Cq Bool:=
 Cq.ret true
def gE(b:ZD)(i:(Ŀ Zl)):Int->Cq (Bool⊕Unit):=
 Cq.loop λj=>match j with|a=>if a<8 then(Cq.Κ i a λc=>if a<b.k.n then(Cq.bind (Jt c) λd=>match d with|false=>(Cq.ret (.inr (.inl false)))|true=>(if b.k.n<=a then(Cq.bind (tC c.lo) λe=>match e with|false=>(Cq.ret (.inr (.inl false)))|true=>(Cq.bind (tC c.hi) λf=>if(!f)=true then(Cq.ret (.inr (.inl false)))else(Cq.ret (.inl (i64.wrap (a+1))))))else(Cq.ret (.inl (i64.wrap (a+1))))))else(if b.k.n<=a then(Cq.bind (tC c.lo) λg=>match g with|false=>(Cq.ret (.inr (.inl false)))|true=>(Cq.bind (tC c.hi) λh=>if(!h)=true then(Cq.ret (.inr (.inl false)))else(Cq.ret (.inl (i64.wrap (a+1))))))else(Cq.ret (.inl (i64.wrap (a+1))))))else(Cq.ret (.inr (.inr ())))
def dR(a:ZD)(c:(Ŀ Zl)):Cq Bool:=
 Cq.next (gE a c 0) λd=>match d with|.inl b=>Cq.ret b|.inr ()=>gF
def Za7:Cq Bool:=
 Cq.ret true
def Za6(c:(Ŀ (Ŀ Zl)))(b:ZD):Int->Cq (Bool⊕Unit):=
 Cq.loop λe=>match e with|a=>if a<(c.length:Int)then(Cq.Κ c a λf=>Cq.bind (dR b f) λd=>if(!d)=true then(Cq.ret (.inr (.inl false)))else(Cq.ret (.inl (i64.wrap (a+1)))))else(Cq.ret (.inr (.inr ())))
def O9(c:(Ŀ (Ŀ Zl)))(a:ZD):Cq Bool:=
 Cq.next (Za6 c a 0) λd=>match d with|.inl b=>Cq.ret b|.inr ()=>Za7
def Ã(a:ZD)(b:(Ŀ (Ŀ Zl))):Cq Bool:=
 if(b.length:Int)<=64 then(Cq.bind (O9 b a) λc=>Cq.ret c)else(Cq.ret false)
def JS(a:Int):Cq Bool:=
 if(-1)<=a then(Cq.ret (decide (a<=1)))else(Cq.ret false)
def ZP(a:Zj):Cq Bool:=
 if a.kind=0 then(if a.n=0 then(if a.d=0 then(if a.r=0 then(if(a.p.length:Int)=0 then(if(a.o.length:Int)=0 then(if(a.l.length:Int)=0 then(if(a.s.length:Int)=0 then(Cq.ret (decide ((a.b.length:Int)=0)))else(Cq.ret false))else(Cq.ret false))else(Cq.ret false))else(Cq.ret false))else(Cq.ret false))else(Cq.ret false))else(Cq.ret false))else(Cq.ret false)
def Zd5:Cq Bool:=
 Cq.ret true
def Zd4(b:(Ŀ Int)):Int->Cq (Bool⊕Unit):=
 Cq.loop λd=>match d with|a=>if a<(b.length:Int)then(Cq.Κ b a λe=>Cq.bind (JS e) λc=>if(!c)=true then(Cq.ret (.inr (.inl false)))else(Cq.ret (.inl (i64.wrap (a+1)))))else(Cq.ret (.inr (.inr ())))
def Jb(b:(Ŀ Int)):Cq Bool:=
 Cq.next (Zd4 b 0) λc=>match c with|.inl a=>Cq.ret a|.inr ()=>Zd5
def ú(a:vo)(e:Bool):Cq Bool:=
 if e=true then(Cq.bind (Em a.c.n) λf=>if f=true then(Cq.bind (ZP (Zj.mk 0 a.c.p 0 a.c.d a.c.r a.c.o a.c.l a.c.s a.c.b)) λg=>Cq.ret g)else(Cq.ret false))else(Cq.ret false)
def û(a:vo)(e:Bool):Cq Bool:=
 if e=true then(Cq.bind (ZP (Zj.mk 0 a.c.p a.c.n a.c.d a.c.r a.c.o a.c.l a.c.s a.c.b)) λw=>Cq.ret w)else(if a.c.kind=4 then(Cq.bind (yI a.c.o) λx=>match x with|false=>(Cq.ret false)|true=>(Cq.bind (Æ a.rules a.c.l) λy=>if y=true then(Cq.bind (ZP (Zj.mk 0 a.c.p a.c.n a.c.d a.c.r [] [] a.c.s a.c.b)) λz=>Cq.ret z)else(Cq.ret false)))else(if a.c.kind=5 then(if(-1)<=a.c.d then(if a.c.d<=a.rules.k.n then(Cq.bind (Em a.c.n) λc=>if c=true then(Cq.bind (ZP (Zj.mk 0 a.c.p 0 0 a.c.r a.c.o a.c.l a.c.s a.c.b)) λd=>Cq.ret d)else(Cq.ret false))else(Cq.ret false))else(Cq.ret false))else(if a.c.kind=6 then(if 0<=a.c.r then(if a.c.r<=a.c.d then(if a.c.d<=a.c.n then(Cq.bind (Em a.c.n) λf=>if f=true then(Cq.bind (ZP (Zj.mk 0 a.c.p 0 0 0 a.c.o a.c.l a.c.s a.c.b)) λg=>Cq.ret g)else(Cq.ret false))else(Cq.ret false))else(Cq.ret false))else(Cq.ret false))else(if a.c.kind=7 then(Cq.bind (Ã a.rules a.c.b) λh=>if h=true then(Cq.bind (ZP (Zj.mk 0 a.c.p a.c.n a.c.d a.c.r a.c.o a.c.l a.c.s [])) λi=>Cq.ret i)else(Cq.ret false))else(if a.c.kind=8 then(Cq.bind (ç a.rules a.c.p 12) λj=>match j with|false=>(Cq.ret false)|true=>(Cq.bind (Ã a.rules a.c.b) λm=>match m with|false=>(Cq.ret false)|true=>(if(a.c.s.length:Int)=(a.c.b.length:Int)then(Cq.bind (Jb a.c.s) λq=>if q=true then(Cq.bind (ZP (Zj.mk 0 [] a.c.n a.c.d a.c.r a.c.o a.c.l [] [])) λt=>Cq.ret t)else(Cq.ret false))else(Cq.ret false))))else(if a.c.kind=11 then(Cq.bind (Æ a.rules a.c.l) λu=>if u=true then(Cq.bind (ZP (Zj.mk 0 a.c.p a.c.n a.c.d a.c.r a.c.o [] a.c.s a.c.b)) λv=>Cq.ret v)else(Cq.ret false))else(if a.c.kind=12 then(ú a (decide (a.c.kind=12)))else(ú a (decide (a.c.kind=13))))))))))
def í(a:vo)(e:Bool):Cq Bool:=
 if e=true then(Cq.bind (ç a.rules a.c.p 12) λf=>if f=true then(Cq.bind (ZP (Zj.mk 0 [] a.c.n a.c.d a.c.r a.c.o a.c.l a.c.s a.c.b)) λg=>Cq.ret g)else(Cq.ret false))else(if a.c.kind=3 then(û a (decide (a.c.kind=3)))else(û a (decide (a.c.kind=9))))
def eW(a:vo):Cq Bool:=
 Cq.bind (Ä a.rules) λb=>if(!b)=true then(Cq.ret false)else(if a.c.kind=1 then(í a (decide (a.c.kind=1)))else(if a.c.kind=2 then(í a (decide (a.c.kind=2)))else(í a (decide (a.c.kind=10)))))
def EJ(b:Zb)(c:Zj):Cq Bool:=
 Cq.bind (eW (vo.mk (ZD.mk b) c)) λa=>Cq.ret a
def ZkU:Cq Bool:=
 Cq.ret true
def ZkT(b:(Ŀ (Fin 8->Int)))(c:(Ŀ (Fin 8->Int))):Int->Cq (Bool⊕Unit):=
 Cq.loop λd=>match d with|a=>if a<(b.length:Int)then(Cq.Κ b a λe=>Cq.Κ c a λf=>if ¬e=f then(Cq.ret (.inr (.inl false)))else(Cq.ret (.inl (i64.wrap (a+1)))))else(Cq.ret (.inr (.inr ())))
def Et(a:(Ŀ (Fin 8->Int)))(b:(Ŀ (Fin 8->Int))):Cq Bool:=
 if ¬(a.length:Int)=(b.length:Int)then(Cq.ret false)else(Cq.next (ZkT a b 0) λd=>match d with|.inl c=>Cq.ret c|.inr ()=>ZkU)
def JF(c:Zb)(b:Zc)(a:Zj):Cq Bool:=
 if b.kind=1 then(if a.kind=1 then(Cq.bind (ZU a.p b.p) λd=>Cq.ret d)else(if a.kind=2 then(Cq.bind (ZU a.p b.p) λe=>Cq.ret e)else(Cq.ret false)))else(if b.kind=2 then(Cq.bind (wX 1) λf=>Cq.bind (D2 f) λg=>if a.kind=3 then(Cq.ret true)else(if a.kind=2 then(if(c.ε.length:Int)=0 then(Cq.bind (ZU a.p g) λh=>Cq.ret h)else(Cq.ret false))else(Cq.ret false)))else(if b.kind=3 then(if a.kind=4 then(Cq.bind (Et a.o b.o) λi=>Cq.ret i)else(Cq.ret false))else(if b.kind=4 then(Cq.ret (decide (a.kind=5)))else(if b.kind=5 then(Cq.ret (decide (a.kind=6)))else(if b.kind=6 then(Cq.ret (decide (a.kind=7)))else(if b.kind=7 then(if a.kind=8 then(Cq.bind (ZU a.p b.p) λj=>Cq.ret j)else(Cq.ret false))else(if b.kind=8 then(if a.kind=9 then(Cq.ret true)else(if a.kind=6 then(Cq.ret true)else(if a.kind=13 then(Cq.ret (decide (1<=a.n)))else(Cq.ret false))))else(if b.kind=9 then(if a.kind=10 then(Cq.bind (ZU a.p b.p) λk=>Cq.ret k)else(Cq.ret false))else(if b.kind=10 then(Cq.ret (decide (a.kind=11)))else(Cq.ret false))))))))))
def D5(a:Zj)(c:Bool):Cq (Int×Int):=
 if c=true then(Cq.ret ((a.b.length:Int),(a.b.length:Int)))else(if a.kind=9 then(Cq.ret (0,0))else(if a.kind=13 then(Cq.ret (a.n,(-1)))else(if a.kind=12 then(Cq.ret (0,a.n))else(Cq.ret (0,(-1))))))
def D6(a:Zj)(b:Bool):Cq (Int×Int):=
 if b=true then(if a.kind=6 then(Cq.ret (a.r,a.r))else(if a.kind=7 then(D5 a (decide (a.kind=7)))else(D5 a (decide (a.kind=8)))))else(Cq.ret (0,(-1)))
def JR(b:Zc)(a:Zj):Cq (Int×Int):=
 if b.kind=5 then(if a.kind=6 then(Cq.ret (a.n,a.n))else(if a.kind=12 then(Cq.ret (0,a.n))else(Cq.ret (0,(-1)))))else(if b.kind=8 then(D6 a (decide (b.kind=8)))else(D6 a (decide (b.kind=6))))
def Ed(c:Zj)(a:Zd):Cq Zd:=
 Cq.bind (JR a.q c) λb=>if 0<=b.2 then(if a.high<0 then(Cq.ret (Zd.mk a.id a.k a.q a.ξ (if a.low<b.1 then b.1 else a.low) b.2 a.done))else(if b.2<a.high then(Cq.ret (Zd.mk a.id a.k a.q a.ξ (if a.low<b.1 then b.1 else a.low) b.2 a.done))else(Cq.ret (Zd.mk a.id a.k a.q a.ξ (if a.low<b.1 then b.1 else a.low) a.high a.done))))else(Cq.ret (Zd.mk a.id a.k a.q a.ξ (if a.low<b.1 then b.1 else a.low) a.high a.done))
def KU(a:Zd)(b:Zj):Cq Zd:=
 Cq.bind (JF a.k a.q b) λc=>if c=true then(Ed b (Zd.mk a.id a.k a.q a.ξ a.low a.high true))else(Ed b a)
def ZpW(b:(Ŀ Zd))(a:Int):Cq (Ze×Int):=
 Cq.ret ((Ze.mk b a),0)
def yM(f:Int)(e:Int)(c:(Ŀ Zd))(a:Int)(d:Int)(b:Zd):Cq (((Ŀ Zd)×Int×Int)⊕(((Ŀ Zd)×Int))):=
 if b.id=f then(Cq.Κ c a λg=>Cq.ret (.inl ((c.set a.toNat (Zd.mk b.id b.k b.q (if b.ξ<(i64.wrap (e+1))then(i64.wrap (e+1))else b.ξ) b.low b.high b.done)),i64.wrap (a+1),d)))else(Cq.Κ c a λh=>Cq.ret (.inl ((c.set a.toNat b),i64.wrap (a+1),d)))
def ZpX(d:Int)(e:Int)(b:(Ŀ Zd))(c:Int)(a:Int)(f:Zd):Cq (((Ŀ Zd)×Int×Int)⊕(((Ŀ Zd)×Int))):=
 yM d e b c a f
def PU(b:(Ŀ Zj)):(Int×Zd)->Cq Zd:=
 Cq.loop λe=>match e with|(a,c)=>if a<(b.length:Int)then(Cq.Κ b a λf=>Cq.bind (KU c f) λd=>Cq.ret (.inl (i64.wrap (a+1),d)))else(Cq.ret (.inr c))
def ZpU(d:Int)(f:(Ŀ Zj))(e:Int)(h:Ĳ)(i:(Ŀ Zd)):((Ŀ Zd)×Int×Int)->Cq (((Ŀ Zd)×Int)):=
 Cq.loop λm=>match m with|(b,c,a)=>if c<(i.length:Int)then(Cq.Κ b c λg=>Cq.bind (vp g.k) λj=>if j=h then(Cq.next (PU f (0,g)) λn=>match n with|l=>ZpX d e b c a l)else(yM d e b c a g))else(Cq.ret (.inr (b,a)))
def ZpY(b:Ze)(d:Int)(e:(Ŀ Zj))(f:Int)(h:Zd×Bool):Cq (Ze×Int):=
 Cq.bind (vp h.1.k) λi=>Cq.bind (Z4 b.t) λc=>Cq.next (ZpU d e f i c (c,0,b.next)) λj=>match j with|(g,a)=>ZpW g a
def ZpV(b:(Ŀ Zj))(d:Zd×Bool):(Int×Ze)->Cq ((Ze×Int)⊕Ze):=
 Cq.loop λf=>match f with|(a,c)=>if a<(b.length:Int)then(Cq.Κ b a λg=>Cq.bind (EJ d.1.k g) λe=>if(!e)=true then(Cq.ret (.inr (.inl ((Ze.mk [] 0),1))))else(Cq.ret (.inl (i64.wrap (a+1),c))))else(Cq.ret (.inr (.inr c)))
def PV(c:Ze)(d:Int)(a:(Ŀ Zj))(e:Int)(b:Zd×Bool)(f:Ze):Cq (Ze×Int):=
 Cq.next (ZpV a b (0,f)) λh=>match h with|.inl g=>Cq.ret g|.inr i=>ZpY c d a e b
def xh(b:Ze)(c:Int)(e:(Ŀ Zj))(a:Int):Cq (Ze×Int):=
 Cq.bind (xA b c) λd=>if(!d.2)=true then(Cq.ret ((Ze.mk [] 0),380))else(if a<0 then(Cq.ret ((Ze.mk [] 0),1))else(if 12<a then(Cq.ret ((Ze.mk [] 0),1))else(PV b c e a d (Ze.mk [] 0))))
def yN(a:Zd)(b:Zd):Cq Bool:=
 if a.id=b.id then(if a.ξ=b.ξ then(if a.low=b.low then(if a.high=b.high then(if a.done=b.done then(Cq.bind (Z7 a.k b.k) λc=>match c with|false=>(Cq.ret false)|true=>(Cq.bind (ZY a.q b.q) λd=>Cq.ret d))else(Cq.ret false))else(Cq.ret false))else(Cq.ret false))else(Cq.ret false))else(Cq.ret false)
def Ztl:Cq Bool:=
 Cq.ret true
def Ztk(b:Ze)(d:Ze):Int->Cq (Bool⊕Unit):=
 Cq.loop λe=>match e with|a=>if a<(b.t.length:Int)then(Cq.Κ b.t a λf=>Cq.Κ d.t a λg=>Cq.bind (yN f g) λc=>if(!c)=true then Cq.fail else(Cq.ret (.inl (i64.wrap (a+1)))))else(Cq.ret (.inr (.inr ())))
def Bm(a:Ze)(b:Ze):Cq Bool:=
 if ¬a.next=b.next then(Cq.ret false)else(if ¬(a.t.length:Int)=(b.t.length:Int)then Cq.fail else(Cq.next (Ztk a b 0) λd=>match d with|.inl c=>Cq.ret c|.inr ()=>Ztl))
def PF(a:Zd):Cq Bool:=
 Cq.bind (Ew a.k) λb=>Cq.bind (vp b.1) λd=>Cq.bind (vp a.k) λe=>if ¬d=e then(Cq.ret false)else(Cq.bind (Ei a.q b.2) λc=>if c.2=0 then(Cq.bind (A1 c.1) λf=>Cq.bind (A1 a.q) λg=>Cq.ret (decide (f=g)))else(Cq.ret false))
def JP(a:Zd):Cq Bool:=
 Cq.bind (vk a.k) λb=>match b with|false=>(Cq.ret false)|true=>(Cq.bind (E1 a.k a.q) λc=>if(!c)=true then(Cq.ret false)else(PF a))
def KE(a:Zd):Cq Bool:=
 if a.ξ<0 then(Cq.ret false)else(if 13<a.ξ then(Cq.ret false)else(if a.low<0 then(Cq.ret false)else(if a.high<(-1)then(Cq.ret false)else(JP a))))
def Zp4:Cq Bool:=
 Cq.ret true
def Zp5(b:Int)(c:(Ŀ (Ĳ×Bool)))(d:Zd):Cq ((Int×Int×(Ŀ (Ĳ×Bool)))⊕(Bool⊕Unit)):=
 Cq.bind (tH d.k d.q) λa=>Cq.ì ((a.size<=1000000)/\(eT c a true).length<=small) (Cq.ret (.inl (d.id,i64.wrap (b+1),(eT c a true))))
def J7(d:(Ŀ (Ĳ×Bool)))(e:Zd)(b:(Ŀ Zc)):Int->Cq (Bool⊕Unit):=
 Cq.loop λf=>match f with|a=>if a<(b.length:Int)then(Cq.Κ b a λg=>Cq.bind (tH e.k g) λc=>Cq.ì (c.size<=1000000) (if(!((fg d c).getD false))=true then(Cq.ret (.inr (.inl false)))else(Cq.ret (.inl (i64.wrap (a+1))))))else(Cq.ret (.inr (.inr ())))
def PW(a:Int)(b:(Ŀ (Ĳ×Bool)))(c:Zd):Cq ((Int×Int×(Ŀ (Ĳ×Bool)))⊕(Bool⊕Unit)):=
 Cq.bind (yP c.q) λd=>Cq.next (J7 b c d 0) λf=>match f with|.inl e=>Cq.ret (.inr (.inl e))|.inr ()=>Zp5 a b c
def J6(b:Ze):(Int×Int×(Ŀ (Ĳ×Bool)))->Cq (Bool⊕Unit):=
 Cq.loop λh=>match h with|(f,a,d)=>if a<(b.t.length:Int)then(Cq.Κ b.t a λc=>if c.id<=f then(Cq.ret (.inr (.inl false)))else(if b.next<=c.id then(Cq.ret (.inr (.inl false)))else(Cq.bind (KE c) λg=>match g with|false=>(Cq.ret (.inr (.inl false)))|true=>(Cq.bind (tH c.k c.q) λe=>Cq.ì (e.size<=1000000) (if((fg d e).getD false)=true then(Cq.ret (.inr (.inl false)))else(PW a d c))))))else(Cq.ret (.inr (.inr ())))
def PX(a:Ze):Cq Bool:=
 Cq.next (J6 a (0,0,[])) λc=>match c with|.inl b=>Cq.ret b|.inr ()=>Zp4
def E0(a:Ze):Cq Bool:=
 if a.next<1 then(Cq.ret false)else(if 1000000<a.next then(Cq.ret false)else(if 100<(a.t.length:Int)then(Cq.ret false)else(PX a)))
def J4(d:Zc)(b:(Ŀ (Ĳ×Bool)))(c:Zd):Cq Bool:=
 Cq.bind (tH c.k d) λa=>Cq.ì (a.size<=1000000) (Cq.ret (!((fg b a).getD false)))
def ZR(a:(Ŀ Zd)):Cq (Ŀ Zd):=
 Cq.bind (tW (u64.wrap (a.length:Int))) λb=>Cq.bind (Pa a 0 (a.length:Int) b) λc=>Cq.ret c
def ZaA:Cq Int:=
 Cq.ret (-1)
def Zaz(d:(Ŀ Zc))(b:(Ŀ (Ĳ×Bool)))(c:Zd):Int->Cq (Int⊕Unit):=
 Cq.loop λf=>match f with|a=>if a<(d.length:Int)then(Cq.Κ d a λg=>Cq.bind (J4 g b c) λe=>if e=true then(Cq.ret (.inr (.inl a)))else(Cq.ret (.inl (i64.wrap (a+1)))))else(Cq.ret (.inr (.inr ())))
def ZW(d:(Ŀ Zc))(a:(Ŀ (Ĳ×Bool)))(b:Zd):Cq Int:=
 Cq.next (Zaz d a b 0) λe=>match e with|.inl c=>Cq.ret c|.inr ()=>ZaA
def ZG(d:(Ŀ Zc))(a:(Ŀ (Ĳ×Bool)))(b:Zd):Cq Bool:=
 Cq.bind (ZW d a b) λc=>Cq.ret (decide (0<=c))
def Zp1(a:(Ŀ Int)):Cq (Ŀ Int):=
 Cq.ret a
def ZpZ(c:(Ŀ Zd)):((Ŀ Int)×Int)->Cq (Ŀ Int):=
 Cq.loop λe=>match e with|(a,b)=>if b<(c.length:Int)then(Cq.Κ c b λd=>Cq.ì ((a++[d.id]).length<=small) (Cq.ret (.inl ((a++[d.id]),i64.wrap (b+1)))))else(Cq.ret (.inr a))
def Zp2(b:(Ŀ Zd)):Cq (Ŀ Int):=
 Cq.bind (ZR b) λc=>Cq.next (ZpZ c ([],0)) λd=>match d with|a=>Zp1 a
def Zp0(d:Ze)(e:(Ŀ (Ĳ×Bool))):((Ŀ Zd)×Int)->Cq (Ŀ Zd):=
 Cq.loop λh=>match h with|(b,a)=>if a<(d.t.length:Int)then(Cq.Κ d.t a λc=>if c.done=true then(Cq.ret (.inl (b,i64.wrap (a+1))))else(if c.ξ<=12 then(Cq.bind (yP c.q) λf=>Cq.bind (ZG f e c) λg=>if(!g)=true then(Cq.ì ((b++[c]).length<=small) (Cq.ret (.inl ((b++[c]),i64.wrap (a+1)))))else(Cq.ret (.inl (b,i64.wrap (a+1)))))else(Cq.ret (.inl (b,i64.wrap (a+1))))))else(Cq.ret (.inr b))
def Zp3(a:Ze)(c:(Ŀ (Ĳ×Bool))):Cq (Ŀ Int):=
 Cq.next (Zp0 a c ([],0)) λd=>match d with|b=>Zp2 b
def Ec(c:Ze):(Int×(Ŀ (Ĳ×Bool)))->Cq (((Ŀ (Ĳ×Bool)))):=
 Cq.loop λf=>match f with|(a,b)=>if a<(c.t.length:Int)then(Cq.Κ c.t a λe=>if e.done=true then(Cq.bind (tH e.k e.q) λd=>Cq.ì ((d.size<=1000000)/\(eT b d true).length<=small) (Cq.ret (.inl (i64.wrap (a+1),(eT b d true)))))else(Cq.ret (.inl (i64.wrap (a+1),b))))else(Cq.ret (.inr b))
def KT(a:Ze):Cq (Ŀ Int):=
 Cq.next (Ec a (0,[])) λc=>match c with|b=>Zp3 a b
def Jk(i:(Ŀ Za)×Int)(j:Ze×Int×Int):Cq Bool:=
 Cq.bind (A8 5) λd=>Cq.bind (xE j.1 (Zb.mk 1 [i.1] []) d) λa=>if ¬a.2.2=0 then(Cq.ret false)else(Cq.bind (xh a.1 a.2.1 [(Zj.mk 12 [] 5 0 0 [] [] [] []),(Zj.mk 12 [] 7 0 0 [] [] [] [])] 0) λc=>Cq.bind (xA c.1 a.2.1) λb=>if c.2=0 then(if b.2=true then(if b.1.high=5 then(if b.1.low=0 then(if b.1.done=true then(Cq.ret false)else(Cq.bind (Gb) λe=>Cq.bind (E0 e) λf=>match f with|false=>(Cq.ret false)|true=>(Cq.bind (Gb) λg=>Cq.bind (KT g) λh=>Cq.ret (decide ((h.length:Int)=0)))))else(Cq.ret false))else(Cq.ret false))else(Cq.ret false))else(Cq.ret false))
def JN:Cq Bool:=
 Cq.bind (Mj 0) λc=>Cq.bind (Gb) λk=>Cq.bind (A8 4) λl=>Cq.bind (xE k (Zb.mk 1 [c.1] []) l) λa=>Cq.bind (A8 4) λm=>Cq.bind (xE a.1 (Zb.mk 1 [c.1] []) m) λd=>Cq.bind (xh a.1 a.2.1 [(Zj.mk 5 [] 1 0 0 [] [] [] [])] 3) λe=>Cq.bind (A8 11) λf=>Cq.bind (xE a.1 (Zb.mk 1 [c.1] []) f) λg=>Cq.bind (xh a.1 a.1.next [] 3) λh=>Cq.bind (xh a.1 a.2.1 [] 13) λi=>Cq.bind (xA e.1 a.2.1) λb=>if ¬a.2.2=0 then(Cq.ret false)else(if ¬d.2.2=0 then(Cq.ret false)else(if ¬e.2=0 then(Cq.ret false)else(if ¬g.2.2=1 then(Cq.ret false)else(if ¬h.2=380 then(Cq.ret false)else(if ¬i.2=1 then(Cq.ret false)else(if ¬a.2.1=d.2.1 then(Cq.ret false)else(Cq.bind (Bm a.1 d.1) λj=>match j with|false=>(Cq.ret false)|true=>(if b.2=true then(if b.1.done=true then(if ¬b.1.ξ=4 then(Cq.ret false)else(if ¬b.1.high=(-1)then(Cq.ret false)else(Jk c a)))else(Cq.ret false))else(Cq.ret false)))))))))
def UB:Cq Ze:=
 Cq.ret (Ze.mk [] 1)
def Gf(a:Int):Cq Int:=
 if a<0 then(Cq.ret (i64.wrap (0-(i64.wrap a))))else(Cq.ret (i64.wrap a))
def Ld(b:Zf)(c:(Ŀ Za)):Cq (Ŀ Za):=
 Cq.bind (FD b (λ_=>0) c) λa=>Cq.ret a.1
def Zs0(a:(Ŀ Za)):Cq (Ŀ Za):=
 Cq.ret a
def Zs1(b:Zu)(c:(Ŀ Za))(a:Int)(d:(Fin 8->Int)):Cq (((Ŀ Za)×Int)⊕(Ŀ Za)):=
 Cq.Κ b.t a λi=>Cq.bind (ZX (i64.wrap (Int.tmod (Θ i 0) 4))) λe=>Cq.bind (ZX 1) λf=>Cq.bind (Ld e [(Za.mk f d)]) λg=>Cq.bind (Br c g) λh=>Cq.ret (.inl (h,i64.wrap (a+1)))
def QO(f:Zu)(g:Int)(d:Int):(Int×Int×(Fin 8->Int))->Cq (Fin 8->Int):=
 Cq.loop λh=>match h with|(b,a,c)=>if a<g then(if a<4 then(Cq.Κ f.t d λi=>Cq.ì (0<=i64.wrap (1+a)/\(i64.wrap (1+a))<5) (Cq.bind (Gf (Θ i (i64.wrap (1+a)))) λe=>Cq.ì ((i64.wrap (b+1))≠0) (Cq.ì (0<=a/\a<8) (Cq.ì (0<=a/\a<8) (Cq.ret (.inl (i64.wrap (b-(Θ (ζ c a.toNat (Int.tmod e (i64.wrap (b+1)))) a)),i64.wrap (a+1),ζ c a.toNat (Int.tmod e (i64.wrap (b+1))))))))))else(Cq.ret (.inr c)))else(Cq.ret (.inr c))
def Q9(b:Zu)(c:Int)(d:Int)(e:(Ŀ Za))(a:Int):Cq (((Ŀ Za)×Int)⊕(Ŀ Za)):=
 Cq.next (QO b c a (d,0,(λ_=>0))) λg=>match g with|f=>Zs1 b e a f
def ZsZ(c:Zu)(d:Int)(e:Int)(f:Int):((Ŀ Za)×Int)->Cq (Ŀ Za):=
 Cq.loop λg=>match g with|(b,a)=>if a<(c.t.length:Int)then(if a<f then(Q9 c d e b a)else(Cq.ret (.inr b)))else(Cq.ret (.inr b))
def Bh(a:Zu)(b:Int)(c:Int)(d:Int):Cq (Ŀ Za):=
 Cq.next (ZsZ a b c d ([],0)) λf=>match f with|e=>Zs0 e
def Ka(a:(Ŀ Ĳ))(d:(Ŀ Zo))(b:(Ŀ Zo))(c:Int):Cq Zx:=
 Cq.ret (Zx.mk a d b c)
def EU(h:ZA)(f:Int)(e:(Ŀ Ĳ))(d:(Ŀ Zo))(b:(Ŀ Zo))(a:Int)(c:Int):Cq ((Int×(Ŀ Ĳ)×(Ŀ Zo)×(Ŀ Zo)×Int)⊕(((Ŀ Ĳ)×(Ŀ Zo)×(Ŀ Zo)×Int))):=
 Cq.Κ h.l f λi=>Cq.bind (Bh i (i64.wrap (Int.tmod h.n 4)) 2 3) λg=>if(Int.tmod f 3)=2 then(Cq.ì ((b++[(Zo.mk (i64.wrap (a+c)) g)]).length<=small) (Cq.ret (.inl (i64.wrap (f+1),e,d,(b++[(Zo.mk (i64.wrap (a+c)) g)]),i64.wrap ((i64.wrap (a+c))+1)))))else(Cq.ì ((d++[(Zo.mk (i64.wrap (a+c)) g)]).length<=small) (Cq.ret (.inl (i64.wrap (f+1),e,(d++[(Zo.mk (i64.wrap (a+c)) g)]),b,i64.wrap ((i64.wrap (a+c))+1)))))
def EV(a:ZA)(f:Int)(b:(Ŀ Ĳ))(e:(Ŀ Zo))(c:(Ŀ Zo))(d:Int):Cq ((Int×(Ŀ Ĳ)×(Ŀ Zo)×(Ŀ Zo)×Int)⊕(((Ŀ Ĳ)×(Ŀ Zo)×(Ŀ Zo)×Int))):=
 if 0<(a.il.length:Int)then(Cq.ì ((a.il.length:Int)≠0) (Cq.Κ a.il (Int.tmod f (a.il.length:Int)) λg=>EU a f b e c d (i64.wrap (Int.tmod g 4))))else(EU a f b e c d 0)
def Ztd(f:ZA):(Int×(Ŀ Ĳ)×(Ŀ Zo)×(Ŀ Zo)×Int)->Cq (((Ŀ Ĳ)×(Ŀ Zo)×(Ŀ Zo)×Int)):=
 Cq.loop λg=>match g with|(e,a,d,b,c)=>if e<(f.l.length:Int)then(if e<6 then(EV f e a d b c)else(Cq.ret (.inr (a,d,b,c))))else(Cq.ret (.inr (a,d,b,c)))
def FX(a:ZA):Cq Zx:=
 Cq.ì (0<=(0:Int)/\(0:Int)<=(i64.wrap (Int.tmod a.n 4))/\(i64.wrap (Int.tmod a.n 4))<=([AJ,AI,AH].length:Int)) (Cq.next (Ztd a (0,(([AJ,AI,AH].take (i64.wrap (Int.tmod a.n 4)).toNat).drop (0:Int).toNat),[],[],1)) λf=>match f with|(b,e,c,d)=>Ka b e c d)
def Zth:Cq Bool:=
 Cq.ret true
def Ztg(b:(Ŀ Zo))(d:Int)(c:Int):Int->Cq (Bool⊕Unit):=
 Cq.loop λg=>match g with|a=>if a<(b.length:Int)then(Cq.Κ b a λh=>if h.id<1 then(Cq.ret (.inr (.inl false)))else(Cq.Κ b a λi=>if c<=i.id then(Cq.ret (.inr (.inl false)))else(if 0<a then(Cq.Κ b (i64.wrap (a-1)) λj=>Cq.Κ b a λk=>if k.id<=j.id then(Cq.ret (.inr (.inl false)))else(Cq.Κ b a λl=>Cq.bind (yS l.p d) λe=>if(!e)=true then(Cq.ret (.inr (.inl false)))else(Cq.ret (.inl (i64.wrap (a+1))))))else(Cq.Κ b a λm=>Cq.bind (yS m.p d) λf=>if(!f)=true then(Cq.ret (.inr (.inl false)))else(Cq.ret (.inl (i64.wrap (a+1))))))))else(Cq.ret (.inr (.inr ())))
def Bj(b:(Ŀ Zo))(d:Int)(a:Int):Cq Bool:=
 if 12<(b.length:Int)then(Cq.ret false)else(Cq.next (Ztg b d a 0) λe=>match e with|.inl c=>Cq.ret c|.inr ()=>Zth)
def AN(a:Int):Cq Bool:=
 if 65<=a then(if a<=90 then(Cq.ret true)else(if 97<=a then(Cq.ret (decide (a<=122)))else(Cq.ret false)))else(if 97<=a then(Cq.ret (decide (a<=122)))else(Cq.ret false))
def Ztf:Cq Bool:=
 Cq.ret true
def Zte(b:Ĳ):Int->Cq (Bool⊕Unit):=
 Cq.loop λd=>match d with|a=>if a<(b.size:Int)then(Cq.ì (0<=(a:Int)/\a<(b.size:Int)) (Cq.bind (AN (eN b a)) λc=>match c with|false=>(Cq.ì (0<=(a:Int)/\a<(b.size:Int)) (if 48<=(eN b a)then(Cq.ì (0<=(a:Int)/\a<(b.size:Int)) (if(eN b a)<=57 then(Cq.ret (.inl (i64.wrap (a+1))))else(Cq.ì (0<=(a:Int)/\a<(b.size:Int)) (if ¬(eN b a)=95 then(Cq.ret (.inr (.inl false)))else(Cq.ret (.inl (i64.wrap (a+1))))))))else(Cq.ì (0<=(a:Int)/\a<(b.size:Int)) (if ¬(eN b a)=95 then(Cq.ret (.inr (.inl false)))else(Cq.ret (.inl (i64.wrap (a+1))))))))|true=>(Cq.ret (.inl (i64.wrap (a+1))))))else(Cq.ret (.inr (.inr ())))
def Re(b:Ĳ):Cq Bool:=
 Cq.next (Zte b 1) λc=>match c with|.inl a=>Cq.ret a|.inr ()=>Ztf
def FY(a:Ĳ):Cq Bool:=
 if(a.size:Int)<1 then(Cq.ret false)else(if 12<(a.size:Int)then(Cq.ret false)else(Cq.ì (0<=(0:Int)/\0<(a.size:Int)) (Cq.bind (AN (eN a 0)) λb=>if(!b)=true then(Cq.ret false)else(Re a))))
def ZqX:Cq Bool:=
 Cq.ret true
def ZqY(a:Int):Cq (Int⊕(Bool⊕Unit)):=
 Cq.ret (.inl (i64.wrap (a+1)))
def ZqU(a:Zx)(c:Int):Int->Cq (Bool⊕Unit):=
 Cq.loop λd=>match d with|b=>if b<(a.ε.length:Int)then(Cq.Κ a.eqs c λe=>Cq.Κ a.ε b λf=>if e.id=f.id then(Cq.ret (.inr (.inl false)))else(Cq.ret (.inl (i64.wrap (b+1)))))else(Cq.ret (.inr (.inr ())))
def ZqT(b:Zx):Int->Cq (Bool⊕Unit):=
 Cq.loop λd=>match d with|a=>if a<(b.eqs.length:Int)then(Cq.next (ZqU b a 0) λe=>match e with|.inl c=>Cq.ret (.inr (.inl c))|.inr ()=>ZqY a)else(Cq.ret (.inr (.inr ())))
def QB(a:Zx):Cq Bool:=
 Cq.next (ZqT a 0) λc=>match c with|.inl b=>Cq.ret b|.inr ()=>ZqX
def QC(b:Zx)(a:Int):Cq (Int⊕(Bool⊕Unit)):=
 Cq.Κ b.vars a λd=>Cq.bind (FY d) λc=>if(!c)=true then(Cq.ret (.inr (.inl false)))else(Cq.ret (.inl (i64.wrap (a+1))))
def ZqW(b:Zx)(c:Int):Int->Cq (Bool⊕Unit):=
 Cq.loop λd=>match d with|a=>if a<c then(Cq.Κ b.vars c λe=>Cq.Κ b.vars a λf=>if e=f then(Cq.ret (.inr (.inl false)))else(Cq.ret (.inl (i64.wrap (a+1)))))else(Cq.ret (.inr (.inr ())))
def ZqV(a:Zx):Int->Cq (Bool⊕Unit):=
 Cq.loop λd=>match d with|b=>if b<(a.vars.length:Int)then(Cq.next (ZqW a b 0) λe=>match e with|.inl c=>Cq.ret (.inr (.inl c))|.inr ()=>QC a b)else(Cq.ret (.inr (.inr ())))
def QD(a:Zx):Cq Bool:=
 Cq.next (ZqV a 0) λc=>match c with|.inl b=>Cq.ret b|.inr ()=>QB a
def FK(a:Zx):Cq Bool:=
 if 4<(a.vars.length:Int)then(Cq.ret false)else(if a.next<1 then(Cq.ret false)else(if 1000000<a.next then(Cq.ret false)else(Cq.bind (Bj a.eqs (a.vars.length:Int) a.next) λb=>match b with|false=>(Cq.ret false)|true=>(Cq.bind (Bj a.ε (a.vars.length:Int) a.next) λc=>if(!c)=true then(Cq.ret false)else(QD a)))))
def ZqS(a:(Ŀ (Ŀ Za))):Cq ((Ŀ (Ŀ Za))):=
 Cq.ret a
def ZqR(c:(Ŀ Zo)):((Ŀ (Ŀ Za))×Int)->Cq (((Ŀ (Ŀ Za)))):=
 Cq.loop λe=>match e with|(a,b)=>if b<(c.length:Int)then(Cq.Κ c b λd=>Cq.ì ((a++[d.p]).length<=small) (Cq.ret (.inl ((a++[d.p]),i64.wrap (b+1)))))else(Cq.ret (.inr a))
def FJ(b:(Ŀ Zo)):Cq ((Ŀ (Ŀ Za))):=
 Cq.next (ZqR b ([],0)) λc=>match c with|a=>ZqS a
def LC(a:Zx):Cq (Zb×Int):=
 Cq.bind (FK a) λc=>if(!c)=true then(Cq.ret ((Zb.mk 0 [] []),320))else(Cq.bind (FJ a.eqs) λd=>Cq.bind (FJ a.ε) λe=>Cq.bind (Fb (if 1<(a.vars.length:Int)then(a.vars.length:Int)else 1) d e) λb=>Cq.ret (b.1,b.2))
def Bl(d:Zr):Cq Zb:=
 Cq.bind (FX d.c) λa=>Cq.bind (LC a) λb=>Cq.ret b.1
def UA:Cq ((Ŀ (Fin 8->Int))):=
 Cq.ret []
def E4:Cq ((Ŀ (Fin 8->Int))):=
 Cq.ret [ζ (ζ (ζ (ζ (ζ (ζ (ζ (ζ (λ_=>0) 0 1) 1 1) 2 1) 3 1) 4 1) 5 1) 6 1) 7 1]
def ZnR(a:(Ŀ (Fin 8->Int))):Cq ((Ŀ (Fin 8->Int))):=
 Cq.ret a
def ZnQ:((Ŀ (Fin 8->Int))×Int)->Cq (((Ŀ (Fin 8->Int)))):=
 Cq.loop λd=>match d with|(b,c)=>if 0<c then(Cq.bind (FU c (-1)) λa=>Cq.ì ((b++[a]).length<=small) (Cq.ret (.inl ((b++[a]),i64.wrap (c-1)))))else(Cq.ret (.inr b))
def ES:Cq ((Ŀ (Fin 8->Int))):=
 Cq.bind (E4) λa=>Cq.next (ZnQ (a,7)) λb=>match b with|c=>ZnR c
def Vo(a:Int)(b:Int):Cq Bool:=
 Cq.ì (0<=(u64.wrap b)) (Cq.ret (decide ((u8.wrap (BitVec.ofInt u8.bits (Int.fdiv a (2 ^ (min (u64.wrap b).toNat u8.bits))) &&& BitVec.ofInt u8.bits 1).toNat)=1)))
def Zjk(a:(Fin 8->Int)):Cq ((Ŀ (Fin 8->Int))):=
 Cq.bind (ES) λb=>Cq.ì (([a]++b).length<=small) (Cq.ret ([a]++b))
def Zjj(c:Int):(Int×(Fin 8->Int))->Cq (Fin 8->Int):=
 Cq.loop λe=>match e with|(a,b)=>if a<8 then(Cq.bind (Vo c a) λd=>if d=true then(Cq.ì (0<=a/\a<8) (Cq.ret (.inl (i64.wrap (a+1),ζ b a.toNat 1))))else(Cq.ret (.inl (i64.wrap (a+1),b))))else(Cq.ret (.inr b))
def Jy(a:Int):Cq ((Ŀ (Fin 8->Int))):=
 Cq.next (Zjj a (0,(λ_=>0))) λc=>match c with|b=>Zjk b
def ET(b:Int)(a:Bool):Cq ((Ŀ (Fin 8->Int))):=
 if a=true then(Cq.bind (ES) λc=>Cq.ret c)else(if(Int.tmod b 8)=4 then(Cq.ret [ζ (ζ (ζ (ζ (ζ (ζ (ζ (ζ (λ_=>0) 0 2) 1 3) 2 1) 3 1) 4 1) 5 1) 6 1) 7 1])else(if(Int.tmod b 8)=5 then(Cq.ret [ζ (ζ (ζ (ζ (ζ (ζ (ζ (ζ (λ_=>0) 0 1) 1 1) 2 0) 3 0) 4 0) 5 0) 6 0) 7 0,ζ (ζ (ζ (ζ (ζ (ζ (ζ (ζ (λ_=>0) 0 1) 1 0) 2 2) 3 1) 4 1) 5 1) 6 1) 7 1])else(Cq.bind (Jy (Int.tmod (u8.wrap (Int.tdiv b 8)) 16)) λd=>Cq.ret d)))
def xw(a:Int):Cq ((Ŀ (Fin 8->Int))):=
 if(Int.tmod a 8)=0 then(Cq.bind (UA) λb=>Cq.ret b)else(if(Int.tmod a 8)=1 then(Cq.bind (E4) λc=>Cq.ret c)else(if(Int.tmod a 8)=2 then(ET a (decide ((Int.tmod a 8)=2)))else(ET a (decide ((Int.tmod a 8)=3)))))
def EW(c:Zr)(a:Zc):Cq Zc:=
 if a.kind=3 then(Cq.bind (xw c.o) λb=>Cq.ret (Zc.mk a.kind a.p b))else(Cq.ret a)
def Bk(a:Zr)(b:Zb):Cq Zc:=
 Cq.bind (Es (i64.wrap (Int.tmod a.kind 12))) λc=>if c=true then(Cq.bind (Bh a.p (if 3<b.n then 3 else b.n) 2 3) λd=>EW a (Zc.mk (i64.wrap (Int.tmod a.kind 12)) d []))else(EW a (Zc.mk (i64.wrap (Int.tmod a.kind 12)) [] []))
def QN(a:(Ŀ (Ŀ Za))):Cq ((Ŀ (Ŀ Za))):=
 Cq.ret a
def ZsY(g:(Ŀ Zu))(h:Int)(f:Int)(b:Int)(c:Int):((Ŀ (Ŀ Za))×Int)->Cq (((Ŀ (Ŀ Za)))):=
 Cq.loop λi=>match i with|(a,d)=>if d<(g.length:Int)then(if d<c then(Cq.Κ g d λj=>Cq.bind (Bh j h f b) λe=>Cq.ì ((a++[e]).length<=small) (Cq.ret (.inl ((a++[e]),i64.wrap (d+1)))))else(Cq.ret (.inr a)))else(Cq.ret (.inr a))
def LB(e:(Ŀ Zu))(f:Int)(c:Int)(a:Int)(b:Int):Cq ((Ŀ (Ŀ Za))):=
 Cq.next (ZsY e f c a b ([],0)) λg=>match g with|d=>QN d
def Ztc(a:(Ŀ (Ŀ Za))):Cq ((Ŀ (Ŀ Za))):=
 Cq.ret a
def Ztb(b:(Ŀ (Ŀ Za)))(e:Int)(f:Int):((Ŀ (Ŀ Za))×Int)->Cq (((Ŀ (Ŀ Za)))):=
 Cq.loop λg=>match g with|(a,c)=>if c<f then(if(b.length:Int)=0 then(Cq.ì ((a++[[]]).length<=small) (Cq.ret (.inl ((a++[[]]),i64.wrap (c+1)))))else(Cq.ì ((b.length:Int)≠0) (Cq.Κ b (Int.tmod (i64.wrap (e+c)) (b.length:Int)) λd=>Cq.ì ((a++[d]).length<=small) (Cq.ret (.inl ((a++[d]),i64.wrap (c+1)))))))else(Cq.ret (.inr a))
def xx(b:(Ŀ (Ŀ Za)))(c:Int)(d:Int):Cq ((Ŀ (Ŀ Za))):=
 Cq.next (Ztb b c d ([],0)) λe=>match e with|a=>Ztc a
def tY(a:(Ŀ Int))(b:Int):Cq Int:=
 if(a.length:Int)=0 then(Cq.ret 0)else(Cq.ì ((a.length:Int)≠0) (Cq.Κ a (Int.tmod b (a.length:Int)) λc=>Cq.ret (i64.wrap c)))
def ZsJ(d:vj)(a:Zg)(b:Zg):Cq Zf:=
 if(Int.tmod d.k 8)=6 then Cq.fail else(Cq.bind (AS b a) λc=>Cq.ret c)
def QH(a:vj)(b:Zg)(c:Zg):Cq Zf:=
 Cq.bind (uk (i64.wrap (4611686018427387904+(i64.wrap a.k)))) λd=>if(Int.tmod a.k 8)=7 then Cq.fail else(ZsJ a c b)
def xv(a:vj):Cq Zf:=
 Cq.bind (uk (i64.wrap a.n)) λb=>Cq.bind (uk (i64.wrap a.d)) λc=>if a.d=0 then Cq.fail else(QH a b c)
def ZuW(a:(Ŀ Zl)):Cq (Ŀ Zl):=
 Cq.ret a
def RK(d:(Ŀ Int))(e:Int):(Int×(Ŀ Zl))->Cq (Ŀ Zl):=
 Cq.loop λj=>match j with|(a,b)=>if a<2 then(Cq.bind (tY d (i64.wrap (e+a))) λf=>Cq.bind (xv (vj.mk (i8.wrap f) 3 0)) λc=>Cq.bind (tY d e) λg=>Cq.bind (xv (vj.mk (i8.wrap (i64.wrap (BitVec.ofInt i64.bits g &&& BitVec.ofInt i64.bits 7).toNat)) 2 0)) λh=>Cq.bind (vE c h) λi=>Cq.Κ b a λk=>Cq.ret (.inl (i64.wrap (a+1),b.set a.toNat (Zl.mk c i))))else(Cq.ret (.inr b))
def ZuX(c:(Ŀ Int))(d:Int)(a:(Ŀ Zl)):Cq (Ŀ Zl):=
 Cq.next (RK c d (0,a)) λe=>match e with|b=>ZuW b
def RL:(Int×(Ŀ Zl))->Cq (Ŀ Zl):=
 Cq.loop λe=>match e with|(b,a)=>if b<8 then(Cq.bind (ZX 0) λc=>Cq.bind (ZX 0) λd=>Cq.Κ a b λf=>Cq.ret (.inl (i64.wrap (b+1),a.set b.toNat (Zl.mk c d))))else(Cq.ret (.inr a))
def Mk(b:(Ŀ Int))(c:Int):Cq (Ŀ Zl):=
 Cq.next (RL (0,(List.replicate 8 (Zl.mk (Zf.mk (Zg.mk false []) (Zg.mk false [])) (Zf.mk (Zg.mk false []) (Zg.mk false [])))))) λd=>match d with|a=>ZuX b c a
def ZlN(j:(Ŀ Za))(a:Int)(i:(Ŀ Za))(b:Int)(c:Int)(d:Int)(e:(Ŀ (Fin 8->Int)))(f:(Ŀ (Ŀ Za)))(g:(Ŀ Int))(h:(Ŀ (Ŀ Zl))):Cq Zj:=
 if a=8 then(Cq.ret (Zj.mk a j b c d e f g h))else(Cq.ret (Zj.mk a i b c d e f g h))
def Je(k:ZM)(o:(Ŀ Za))(n:Int):(Int×Int×(Ŀ Za)×Int×Int×Int×(Ŀ (Fin 8->Int))×(Ŀ (Ŀ Za))×(Ŀ Int)×(Ŀ (Ŀ Zl)))->Cq ((Int×(Ŀ Za)×Int×Int×Int×(Ŀ (Fin 8->Int))×(Ŀ (Ŀ Za))×(Ŀ Int)×(Ŀ (Ŀ Zl)))):=
 Cq.loop λp=>match p with|(b,a,l,e,f,g,h,i,c,d)=>if b<(i64.wrap (BitVec.ofInt i64.bits (i64.wrap (BitVec.ofInt i64.bits n &&& BitVec.ofInt i64.bits 7).toNat) &&& BitVec.ofInt i64.bits 3).toNat)then(Cq.bind (Mk k.v b) λj=>Cq.ì ((d++[j]).length<=small) (if a=8 then(Cq.bind (tY k.v b) λm=>Cq.ì ((c++[i64.wrap ((Int.tmod (i64.wrap (BitVec.ofInt i64.bits m &&& BitVec.ofInt i64.bits 127).toNat) 3)-1)]).length<=small) (Cq.ret (.inl (i64.wrap (b+1),a,o,e,f,g,h,i,(c++[i64.wrap ((Int.tmod (i64.wrap (BitVec.ofInt i64.bits m &&& BitVec.ofInt i64.bits 127).toNat) 3)-1)]),(d++[j])))))else(Cq.ret (.inl (i64.wrap (b+1),a,l,e,f,g,h,i,c,(d++[j]))))))else(Cq.ret (.inr (a,l,e,f,g,h,i,c,d)))
def Jf(a:ZM)(n:(Ŀ (Ŀ Za)))(o:(Ŀ Za))(b:Int)(d:Bool):Cq Zj:=
 if d=true then(Cq.next (Je a o b (0,i64.wrap (1+(i64.wrap (Int.tmod a.kind 13))),[],0,0,0,[],[],[],[])) λp=>match p with|(c,e,f,g,h,i,j,k,l)=>ZlN o c e f g h i j k l)else(if(i64.wrap (1+(i64.wrap (Int.tmod a.kind 13))))=11 then(Cq.bind (xx n 1 (i64.wrap (BitVec.ofInt i64.bits (i64.wrap (BitVec.ofInt i64.bits b &&& BitVec.ofInt i64.bits 7).toNat) &&& BitVec.ofInt i64.bits 3).toNat)) λm=>Cq.ret (Zj.mk (i64.wrap (1+(i64.wrap (Int.tmod a.kind 13)))) [] 0 0 0 [] m [] []))else(if(i64.wrap (1+(i64.wrap (Int.tmod a.kind 13))))=12 then(if(i64.wrap (1+(i64.wrap (Int.tmod a.kind 13))))=12 then(Cq.ret (Zj.mk (i64.wrap (1+(i64.wrap (Int.tmod a.kind 13)))) [] (i64.wrap (BitVec.ofInt i64.bits b &&& BitVec.ofInt i64.bits 7).toNat) 0 0 [] [] [] []))else(Cq.ret (Zj.mk (i64.wrap (1+(i64.wrap (Int.tmod a.kind 13)))) [] 0 0 0 [] [] [] [])))else(if(i64.wrap (1+(i64.wrap (Int.tmod a.kind 13))))=13 then(Cq.ret (Zj.mk (i64.wrap (1+(i64.wrap (Int.tmod a.kind 13)))) [] (i64.wrap (BitVec.ofInt i64.bits b &&& BitVec.ofInt i64.bits 7).toNat) 0 0 [] [] [] []))else(Cq.ret (Zj.mk (i64.wrap (1+(i64.wrap (Int.tmod a.kind 13)))) [] 0 0 0 [] [] [] [])))))
def w7(a:ZM)(c:(Ŀ (Ŀ Za)))(e:(Ŀ Za))(b:Int)(d:Bool):Cq Zj:=
 if d=true then(Cq.ret (Zj.mk (i64.wrap (1+(i64.wrap (Int.tmod a.kind 13)))) e 0 0 0 [] [] [] []))else(if(i64.wrap (1+(i64.wrap (Int.tmod a.kind 13))))=4 then(Cq.bind (tY a.v 2) λg=>Cq.bind (xw (u8.wrap g)) λh=>Cq.bind (xx c 1 (i64.wrap (BitVec.ofInt i64.bits (i64.wrap (BitVec.ofInt i64.bits b &&& BitVec.ofInt i64.bits 7).toNat) &&& BitVec.ofInt i64.bits 3).toNat)) λi=>Cq.ret (Zj.mk (i64.wrap (1+(i64.wrap (Int.tmod a.kind 13)))) [] 0 0 0 h i [] []))else(if(i64.wrap (1+(i64.wrap (Int.tmod a.kind 13))))=5 then(Cq.bind (tY a.v 3) λf=>Cq.ret (Zj.mk (i64.wrap (1+(i64.wrap (Int.tmod a.kind 13)))) [] (i64.wrap (BitVec.ofInt i64.bits f &&& BitVec.ofInt i64.bits 15).toNat) (i64.wrap ((i64.wrap (BitVec.ofInt i64.bits (i64.wrap (BitVec.ofInt i64.bits b &&& BitVec.ofInt i64.bits 7).toNat) &&& BitVec.ofInt i64.bits 3).toNat)-1)) 0 [] [] [] []))else(if(i64.wrap (1+(i64.wrap (Int.tmod a.kind 13))))=6 then(Cq.ret (Zj.mk (i64.wrap (1+(i64.wrap (Int.tmod a.kind 13)))) [] (i64.wrap (BitVec.ofInt i64.bits b &&& BitVec.ofInt i64.bits 7).toNat) (i64.wrap ((i64.wrap (BitVec.ofInt i64.bits b &&& BitVec.ofInt i64.bits 7).toNat)-(i64.wrap (Int.tdiv (i64.wrap (BitVec.ofInt i64.bits b &&& BitVec.ofInt i64.bits 7).toNat) 3)))) (i64.wrap (Int.tdiv (i64.wrap (BitVec.ofInt i64.bits b &&& BitVec.ofInt i64.bits 7).toNat) 2)) [] [] [] []))else(if(i64.wrap (1+(i64.wrap (Int.tmod a.kind 13))))=7 then(Jf a c e b (decide ((i64.wrap (1+(i64.wrap (Int.tmod a.kind 13))))=7)))else(Jf a c e b (decide ((i64.wrap (1+(i64.wrap (Int.tmod a.kind 13))))=8)))))))
def El(a:ZM):Cq Zj:=
 Cq.bind (LB a.l 2 2 3 6) λb=>Cq.bind (xx b 2 1) λe=>Cq.Κ e 0 λd=>Cq.bind (tY a.v 1) λc=>if(i64.wrap (1+(i64.wrap (Int.tmod a.kind 13))))=1 then(w7 a b d c (decide ((i64.wrap (1+(i64.wrap (Int.tmod a.kind 13))))=1)))else(if(i64.wrap (1+(i64.wrap (Int.tmod a.kind 13))))=2 then(w7 a b d c (decide ((i64.wrap (1+(i64.wrap (Int.tmod a.kind 13))))=2)))else(w7 a b d c (decide ((i64.wrap (1+(i64.wrap (Int.tmod a.kind 13))))=10))))
def Zpy(a:(Ŀ Zj)):Cq (Ŀ Zj):=
 Cq.ret a
def Qb(d:Zr):((Ŀ Zj)×Int)->Cq (Ŀ Zj):=
 Cq.loop λe=>match e with|(a,b)=>if b<(d.l.length:Int)then(if b<4 then(Cq.Κ d.l b λf=>Cq.bind (El f) λc=>Cq.ì ((a++[c]).length<=small) (Cq.ret (.inl ((a++[c]),i64.wrap (b+1)))))else(Cq.ret (.inr a)))else(Cq.ret (.inr a))
def AO(a:Zr):Cq (Ŀ Zj):=
 Cq.next (Qb a ([],0)) λb=>match b with|c=>Zpy c
def KM(d:Ze)(c:Zr):Cq (Ze×Int×Int):=
 if(Int.tmod c.fC 2)=0 then(Cq.bind (Bl c) λe=>Cq.bind (Bk c e) λf=>Cq.bind (xE d e f) λa=>if ¬a.2.2=0 then(Cq.ret (d,a.2.1,a.2.2))else(Cq.ret (a.1,a.2.1,a.2.2)))else(Cq.bind (AO c) λg=>Cq.bind (xh d c.id g c.Ζ) λb=>if ¬b.2=0 then(Cq.ret (d,0,b.2))else(Cq.ret (b.1,0,b.2)))
def Zti:Cq (Zd×Bool):=
 Cq.ret ((Zd.mk 0 (Zb.mk 0 [] []) (Zc.mk 0 [] []) 0 0 0 false),false)
def Kb(c:Ze)(d:Int):(Int×Zd)->Cq ((Zd×Bool)⊕Zd):=
 Cq.loop λe=>match e with|(a,b)=>if a<(c.t.length:Int)then(Cq.Κ c.t a λf=>if f.id=d then(Cq.Κ c.t a λg=>Cq.ret (.inr (.inl (g,true))))else(Cq.ret (.inl (i64.wrap (a+1),b))))else(Cq.ret (.inr (.inr b)))
def LG(c:Ze)(a:Int):Cq (Zd×Bool):=
 Cq.next (Kb c a (0,(Zd.mk 0 (Zb.mk 0 [] []) (Zc.mk 0 [] []) 0 0 0 false))) λd=>match d with|.inl b=>Cq.ret b|.inr e=>Zti
def Zta:Cq Bool:=
 Cq.ret true
def Zs9(b:(Ŀ (Ŀ Za)))(d:Int):Int->Cq (Bool⊕Unit):=
 Cq.loop λe=>match e with|a=>if a<(b.length:Int)then(Cq.Κ b a λf=>Cq.bind (xg f d 64) λc=>if(!c)=true then(Cq.ret (.inr (.inl false)))else(Cq.ret (.inl (i64.wrap (a+1)))))else(Cq.ret (.inr (.inr ())))
def FW(b:(Ŀ (Ŀ Za)))(c:Int):Cq Bool:=
 Cq.next (Zs9 b c 0) λd=>match d with|.inl a=>Cq.ret a|.inr ()=>Zta
def FH(a:Int):Cq Bool:=
 if 0<=a then(Cq.ret (decide (a<=1000000)))else(Cq.ret false)
def JW(a:Zl):Cq Bool:=
 Cq.bind (ug a.lo) λb=>match b with|false=>(Cq.ret false)|true=>(Cq.bind (ug a.hi) λc=>match c with|false=>(Cq.ret false)|true=>(Cq.bind (vF a.lo a.hi) λd=>Cq.ret (decide (d<=0))))
def vy(c:Zf):Cq Bool:=
 Cq.bind (ZX 0) λa=>Cq.bind (Bg c a) λb=>Cq.ret b
def ZqD:Cq Bool:=
 Cq.ret true
def ZqE(a:Int):Cq (Int⊕(Bool⊕Unit)):=
 Cq.ret (.inl (i64.wrap (a+1)))
def QA(b:(Ŀ (Ŀ Zl)))(g:Int)(c:Int):Int->Cq (Bool⊕Unit):=
 Cq.loop λh=>match h with|a=>if a<8 then(Cq.Κ b c λi=>Cq.Κ i a λj=>Cq.bind (JW j) λd=>match d with|false=>(Cq.ret (.inr (.inl false)))|true=>(if g<=a then(Cq.Κ b c λk=>Cq.Κ k a λl=>Cq.bind (vy l.lo) λe=>match e with|false=>(Cq.ret (.inr (.inl false)))|true=>(Cq.Κ b c λm=>Cq.Κ m a λn=>Cq.bind (vy n.hi) λf=>if(!f)=true then(Cq.ret (.inr (.inl false)))else(Cq.ret (.inl (i64.wrap (a+1))))))else(Cq.ret (.inl (i64.wrap (a+1))))))else(Cq.ret (.inr (.inr ())))
def ZqC(b:(Ŀ (Ŀ Zl)))(d:Int):Int->Cq (Bool⊕Unit):=
 Cq.loop λe=>match e with|a=>if a<(b.length:Int)then(Cq.next (QA b d a 0) λf=>match f with|.inl c=>Cq.ret (.inr (.inl c))|.inr ()=>ZqE a)else(Cq.ret (.inr (.inr ())))
def FG(a:(Ŀ (Ŀ Zl)))(c:Int):Cq Bool:=
 if 64<(a.length:Int)then Cq.fail else(Cq.next (ZqC a c 0) λd=>match d with|.inl b=>Cq.ret b|.inr ()=>ZqD)
def ZqG:Cq Bool:=
 Cq.ret true
def ZqF(b:(Ŀ Int)):Int->Cq (Bool⊕Unit):=
 Cq.loop λc=>match c with|a=>if a<(b.length:Int)then(Cq.Κ b a λd=>if d<(-1)then(Cq.ret (.inr (.inl false)))else(Cq.Κ b a λe=>if 1<e then Cq.fail else(Cq.ret (.inl (i64.wrap (a+1))))))else(Cq.ret (.inr (.inr ())))
def Lf(b:(Ŀ Int)):Cq Bool:=
 Cq.next (ZqF b 0) λc=>match c with|.inl a=>Cq.ret a|.inr ()=>ZqG
def EA(a:Zj)(c:Bool):Cq Bool:=
 if c=true then(if(a.p.length:Int)=0 then(if(a.l.length:Int)=0 then(if(a.o.length:Int)=0 then(if(a.s.length:Int)=0 then(if(a.b.length:Int)=0 then(if a.d=0 then(if a.r=0 then(Cq.bind (FH a.n) λe=>Cq.ret e)else(Cq.ret false))else(Cq.ret false))else(Cq.ret false))else(Cq.ret false))else(Cq.ret false))else(Cq.ret false))else(Cq.ret false))else(Cq.ret false)
def EB(e:Zb)(a:Zj)(c:Bool)(h:Bool)(f:Bool):Cq Bool:=
 if f=true then(if(a.p.length:Int)=0 then(if(a.l.length:Int)=0 then(if(a.o.length:Int)=0 then(if(a.s.length:Int)=0 then(if(a.b.length:Int)=0 then(Cq.ret c)else(Cq.ret false))else(Cq.ret false))else(Cq.ret false))else(Cq.ret false))else(Cq.ret false))else(if a.kind=4 then(if(a.p.length:Int)=0 then(if(a.s.length:Int)=0 then(if(a.b.length:Int)=0 then(if c=true then(Cq.bind (yX a.o) λi=>match i with|false=>(Cq.ret false)|true=>(if(a.l.length:Int)<=64 then(Cq.bind (FW a.l e.n) λj=>Cq.ret j)else(Cq.ret false)))else(Cq.ret false))else(Cq.ret false))else(Cq.ret false))else(Cq.ret false))else(if a.kind=5 then(if(a.p.length:Int)=0 then(if(a.l.length:Int)=0 then(if(a.o.length:Int)=0 then(if(a.s.length:Int)=0 then(if(a.b.length:Int)=0 then(if a.r=0 then(if(-1)<=a.d then(if a.d<=e.n then(Cq.bind (FH a.n) λk=>Cq.ret k)else(Cq.ret false))else(Cq.ret false))else(Cq.ret false))else(Cq.ret false))else(Cq.ret false))else(Cq.ret false))else(Cq.ret false))else(Cq.ret false))else(if a.kind=6 then(if(a.p.length:Int)=0 then(if(a.l.length:Int)=0 then(if(a.o.length:Int)=0 then(if(a.s.length:Int)=0 then(if(a.b.length:Int)=0 then(Cq.bind (FH a.n) λm=>match m with|false=>(Cq.ret false)|true=>(if 0<=a.r then(if a.r<=a.d then(Cq.ret (decide (a.d<=a.n)))else(Cq.ret false))else(Cq.ret false)))else(Cq.ret false))else(Cq.ret false))else(Cq.ret false))else(Cq.ret false))else(Cq.ret false))else(if a.kind=7 then(if(a.p.length:Int)=0 then(if(a.l.length:Int)=0 then(if(a.o.length:Int)=0 then(if(a.s.length:Int)=0 then(if c=true then(Cq.bind (FG a.b e.n) λq=>Cq.ret q)else(Cq.ret false))else(Cq.ret false))else(Cq.ret false))else(Cq.ret false))else(Cq.ret false))else(if a.kind=8 then(if h=true then(if(a.l.length:Int)=0 then(if(a.o.length:Int)=0 then(if c=true then(Cq.bind (FG a.b e.n) λt=>match t with|false=>(Cq.ret false)|true=>(if(a.s.length:Int)=(a.b.length:Int)then(Cq.bind (Lf a.s) λu=>Cq.ret u)else(Cq.ret false)))else(Cq.ret false))else(Cq.ret false))else(Cq.ret false))else(Cq.ret false))else(if a.kind=11 then(if(a.p.length:Int)=0 then(if(a.o.length:Int)=0 then(if(a.s.length:Int)=0 then(if(a.b.length:Int)=0 then(if c=true then(if(a.l.length:Int)<=64 then(Cq.bind (FW a.l e.n) λg=>Cq.ret g)else(Cq.ret false))else(Cq.ret false))else(Cq.ret false))else(Cq.ret false))else(Cq.ret false))else(Cq.ret false))else(if a.kind=12 then(EA a (decide (a.kind=12)))else(EA a (decide (a.kind=13))))))))))
def AF(d:Zb)(a:Zj)(c:Bool)(e:Bool)(f:Bool):Cq Bool:=
 if f=true then(if e=true then(if(a.l.length:Int)=0 then(if(a.o.length:Int)=0 then(if(a.s.length:Int)=0 then(if(a.b.length:Int)=0 then(Cq.ret c)else(Cq.ret false))else(Cq.ret false))else(Cq.ret false))else(Cq.ret false))else(Cq.ret false))else(if a.kind=3 then(EB d a c e (decide (a.kind=3)))else(EB d a c e (decide (a.kind=9))))
def wV(b:Zb)(a:Zj)(c:Bool):Cq Bool:=
 Cq.bind (xg a.p b.n 12) λd=>if a.kind=1 then(AF b a c d (decide (a.kind=1)))else(if a.kind=2 then(AF b a c d (decide (a.kind=2)))else(AF b a c d (decide (a.kind=10))))
def FF(b:Zb)(a:Zj):Cq Bool:=
 Cq.bind (AW b) λc=>if(!c)=true then Cq.fail else(if a.n=0 then(if a.d=0 then(wV b a (decide (a.r=0)))else(wV b a false))else(wV b a false))
def P8(a:Zj)(c:Bool)(b:Bool):Cq (Int×Int):=
 if b=true then(Cq.ret (0,0))else(if c=true then(if a.kind=13 then(Cq.ret (a.n,(-1)))else(Cq.ret (0,(-1))))else(Cq.ret (0,(-1))))
def Ej(a:Zj)(c:Bool)(d:Bool):Cq (Int×Int):=
 if d=true then(Cq.ret ((a.b.length:Int),(a.b.length:Int)))else(if c=true then(P8 a c (decide (a.kind=9)))else(P8 a c false))
def JB(a:Zj)(b:Bool)(c:Bool):Cq (Int×Int):=
 if c=true then(Cq.ret (a.r,a.r))else(if b=true then(if a.kind=7 then(Ej a b true)else(Ej a b (decide (a.kind=8))))else(Ej a b false))
def Ek(a:Zj)(b:Bool)(c:Bool):Cq (Int×Int):=
 if c=true then(Cq.ret (0,a.n))else(if b=true then(JB a b (decide (a.kind=6)))else(JB a b false))
def JC(a:Zj)(d:Bool)(b:Bool)(c:Bool):Cq (Int×Int):=
 if c=true then(Cq.ret (a.n,a.n))else(if d=true then(Ek a b (decide (a.kind=12)))else(if b=true then(Ek a b (decide (a.kind=12)))else(Ek a b false)))
def yK(a:Zj)(b:Bool)(c:Bool):Cq (Int×Int):=
 if b=true then(JC a b c (decide (a.kind=6)))else(JC a b c false)
def Kz(a:Zc)(b:Zj):Cq (Int×Int):=
 if a.kind=8 then(yK b (decide (a.kind=5)) true)else(yK b (decide (a.kind=5)) (decide (a.kind=6)))
def ZsQ:Cq Bool:=
 Cq.ret true
def ZsP(b:(Ŀ (Fin 8->Int)))(c:(Ŀ (Fin 8->Int))):Int->Cq (Bool⊕Unit):=
 Cq.loop λd=>match d with|a=>if a<(b.length:Int)then(Cq.Κ b a λe=>Cq.Κ c a λf=>if ¬e=f then(Cq.ret (.inr (.inl false)))else(Cq.ret (.inl (i64.wrap (a+1)))))else(Cq.ret (.inr (.inr ())))
def FR(a:(Ŀ (Fin 8->Int)))(b:(Ŀ (Fin 8->Int))):Cq Bool:=
 if ¬(a.length:Int)=(b.length:Int)then(Cq.ret false)else(Cq.next (ZsP a b 0) λd=>match d with|.inl c=>Cq.ret c|.inr ()=>ZsQ)
def J9(d:Zb)(b:Zc)(a:Zj):Cq Bool:=
 Cq.bind (tX b.p a.p) λc=>if b.kind=1 then(if a.kind=1 then(Cq.ret c)else(if a.kind=2 then(Cq.ret c)else(Cq.ret false)))else(if b.kind=2 then(if a.kind=3 then(Cq.ret true)else(if(d.ε.length:Int)=0 then(if a.kind=2 then(Cq.bind (ZX 1) λe=>Cq.bind (Ey e) λf=>Cq.bind (tX a.p f) λg=>Cq.ret g)else(Cq.ret false))else(Cq.ret false)))else(if b.kind=3 then(if a.kind=4 then(Cq.bind (FR b.o a.o) λh=>Cq.ret h)else(Cq.ret false))else(if b.kind=4 then(Cq.ret (decide (a.kind=5)))else(if b.kind=5 then(Cq.ret (decide (a.kind=6)))else(if b.kind=6 then(Cq.ret (decide (a.kind=7)))else(if b.kind=7 then(if a.kind=8 then(Cq.ret c)else(Cq.ret false))else(if b.kind=8 then(if a.kind=9 then(Cq.ret true)else(if a.kind=6 then(Cq.ret true)else(if a.kind=13 then(Cq.ret (decide (1<=a.n)))else(Cq.ret false))))else(if b.kind=9 then(if a.kind=10 then(Cq.ret c)else(Cq.ret false))else(if b.kind=10 then(Cq.ret (decide (a.kind=11)))else(Cq.ret false))))))))))
def Er(b:Int×Int)(a:Zd):Cq Zd:=
 if 0<=b.2 then(if a.high<0 then(Cq.ret (Zd.mk a.id a.k a.q a.ξ (if a.low<b.1 then b.1 else a.low) b.2 a.done))else(if b.2<a.high then(Cq.ret (Zd.mk a.id a.k a.q a.ξ (if a.low<b.1 then b.1 else a.low) b.2 a.done))else(Cq.ret (Zd.mk a.id a.k a.q a.ξ (if a.low<b.1 then b.1 else a.low) a.high a.done))))else(Cq.ret (Zd.mk a.id a.k a.q a.ξ (if a.low<b.1 then b.1 else a.low) a.high a.done))
def Kc(a:Zd)(c:Zj):Cq Zd:=
 Cq.bind (Kz a.q c) λb=>if a.done=true then(Er b (Zd.mk a.id a.k a.q a.ξ a.low a.high true))else(Cq.bind (J9 a.k a.q c) λd=>Er b (Zd.mk a.id a.k a.q a.ξ a.low a.high d))
def Zq4(b:(Ŀ Zd))(a:Int):Cq (Ze×Int):=
 Cq.ret ((Ze.mk b a),0)
def EE(c:Int)(b:(Ŀ Zd))(a:Int)(d:Zd):Cq ((Int×(Ŀ Zd)×Int)⊕(((Ŀ Zd)×Int))):=
 Cq.ì ((b++[d]).length<=small) (Cq.ret (.inl (i64.wrap (c+1),(b++[d]),a)))
def JZ(f:Int)(d:Int)(c:Int)(e:(Ŀ Zd))(b:Int)(a:Zd):Cq ((Int×(Ŀ Zd)×Int)⊕(((Ŀ Zd)×Int))):=
 if a.id=f then(EE c e b (Zd.mk a.id a.k a.q (if a.ξ<(i64.wrap (d+1))then(i64.wrap (d+1))else a.ξ) a.low a.high a.done))else(EE c e b a)
def Qp(c:(Ŀ Zj))(d:Zd×Bool):(Int×Zd)->Cq Zd:=
 Cq.loop λg=>match g with|(a,b)=>if a<(c.length:Int)then(Cq.bind (Z7 b.k d.1.k) λe=>if e=true then(Cq.Κ c a λh=>Cq.bind (Kc b h) λf=>Cq.ret (.inl (i64.wrap (a+1),f)))else(Cq.ret (.inr b)))else(Cq.ret (.inr b))
def Zq2(c:Ze)(e:Int)(f:(Ŀ Zj))(g:Int)(h:Zd×Bool):(Int×(Ŀ Zd)×Int)->Cq (((Ŀ Zd)×Int)):=
 Cq.loop λj=>match j with|(b,d,a)=>if b<(c.t.length:Int)then(Cq.Κ c.t b λk=>Cq.next (Qp f h (0,k)) λl=>match l with|i=>JZ e g b d a i)else(Cq.ret (.inr (d,a)))
def Zq5(b:Ze)(c:Int)(d:(Ŀ Zj))(e:Int)(g:Zd×Bool):Cq (Ze×Int):=
 Cq.next (Zq2 b c d e g (0,[],b.next)) λh=>match h with|(f,a)=>Zq4 f a
def Zq3(b:(Ŀ Zj))(d:Zd×Bool):(Int×Ze)->Cq ((Ze×Int)⊕Ze):=
 Cq.loop λf=>match f with|(a,c)=>if a<(b.length:Int)then(Cq.Κ b a λg=>Cq.bind (FF d.1.k g) λe=>if(!e)=true then(Cq.ret (.inr (.inl ((Ze.mk [] 0),1))))else(Cq.ret (.inl (i64.wrap (a+1),c))))else(Cq.ret (.inr (.inr c)))
def Qq(c:Ze)(d:Int)(a:(Ŀ Zj))(e:Int)(b:Zd×Bool)(f:Ze):Cq (Ze×Int):=
 Cq.next (Zq3 a b (0,f)) λh=>match h with|.inl g=>Cq.ret g|.inr i=>Zq5 c d a e b
def KY(b:Ze)(c:Int)(e:(Ŀ Zj))(a:Int):Cq (Ze×Int):=
 Cq.bind (LG b c) λd=>if(!d.2)=true then(Cq.ret ((Ze.mk [] 0),380))else(if a<0 then(Cq.ret ((Ze.mk [] 0),1))else(if 12<a then(Cq.ret ((Ze.mk [] 0),1))else(Qq b c e a d (Ze.mk [] 0))))
def LD(f:Ze)(c:Zr):Cq (Ze×Int×Int):=
 if(Int.tmod c.fC 2)=0 then(Cq.bind (Bl c) λg=>Cq.bind (Bk c g) λh=>Cq.bind (AY 5 f g h) λa=>if ¬a.e=0 then(Cq.ret (f,0,a.e))else(Cq.ret (a.b,a.id,0)))else(Cq.bind (AO c) λi=>Cq.bind (KY f c.id i c.Ζ) λd=>if ¬d.2=0 then(Cq.ret (f,0,d.2))else(Cq.ret (d.1,0,0)))
def Zq7(a:(Ŀ Zc)):Cq (Ŀ Zc):=
 Cq.ret a
def Zq6(e:Zd)(b:(Ŀ Zc)):((Ŀ Zc)×Int)->Cq (Ŀ Zc):=
 Cq.loop λf=>match f with|(a,d)=>if d<(b.length:Int)then(Cq.Κ b d λg=>Cq.bind (AZ e.k g) λc=>Cq.ì ((a++[c.q]).length<=small) (Cq.ret (.inl ((a++[c.q]),i64.wrap (d+1)))))else(Cq.ret (.inr a))
def Zv4(b:Zd):Cq (Ŀ Zc):=
 Cq.bind (FI b.q) λc=>Cq.next (Zq6 b c ([],0)) λd=>match d with|a=>Zq7 a
def Ztj(a:Ze):Cq Ze:=
 Cq.ret a
def Rf(c:(Ŀ Zr)):(Int×Ze)->Cq Ze:=
 Cq.loop λe=>match e with|(b,a)=>if b<(c.length:Int)then(if b<6 then(Cq.Κ c b λf=>Cq.bind (LD a f) λd=>Cq.ret (.inl (i64.wrap (b+1),d.1)))else(Cq.ret (.inr a)))else(Cq.ret (.inr a))
def LH(c:(Ŀ Zr)):Cq Ze:=
 Cq.bind (UB) λa=>Cq.next (Rf c (0,a)) λd=>match d with|b=>Ztj b
def Zid(a:Bool):Cq Bool:=
 Cq.ret a
def yE(d:Zr)(b:Zd×Bool)(a:Int)(e:Zd)(c:Zd×Bool):Cq (Int⊕(Bool⊕Unit)):=
 if(Int.tmod d.fC 2)=0 then(Cq.bind (yN e c.1) λf=>if(!f)=true then(Cq.ret (.inr (.inl false)))else(Cq.ret (.inl (i64.wrap (a+1)))))else(if b.2=true then(Cq.bind (Z7 e.k b.1.k) λg=>match g with|false=>(Cq.bind (yN e c.1) λh=>if(!h)=true then(Cq.ret (.inr (.inl false)))else(Cq.ret (.inl (i64.wrap (a+1)))))|true=>(Cq.ret (.inl (i64.wrap (a+1)))))else(Cq.ret (.inl (i64.wrap (a+1)))))
def Pe(d:Zr)(f:Ze)(o:Ze×Int×Int)(e:Zd×Bool):Int->Cq (Bool⊕Unit):=
 Cq.loop λr=>match r with|c=>if c<(f.t.length:Int)then(Cq.Κ f.t c λb=>Cq.bind (xA o.1 b.id) λa=>if a.2=true then(if a.1.low<b.low then(Cq.ret (.inr (.inl false)))else(if 0<=b.high then(if a.1.high<0 then(Cq.ret (.inr (.inl false)))else(if b.high<a.1.high then(Cq.ret (.inr (.inl false)))else(if a.1.ξ<b.ξ then(Cq.ret (.inr (.inl false)))else(if b.done=true then(if a.1.done=true then(Cq.bind (Z7 b.k a.1.k) λp=>match p with|false=>(Cq.ret (.inr (.inl false)))|true=>(Cq.bind (ZY b.q a.1.q) λg=>if(!g)=true then(Cq.ret (.inr (.inl false)))else(yE d e c b a)))else(Cq.ret (.inr (.inl false))))else(Cq.bind (Z7 b.k a.1.k) λh=>match h with|false=>(Cq.ret (.inr (.inl false)))|true=>(Cq.bind (ZY b.q a.1.q) λi=>if(!i)=true then(Cq.ret (.inr (.inl false)))else(yE d e c b a)))))))else(if a.1.ξ<b.ξ then(Cq.ret (.inr (.inl false)))else(if b.done=true then(if a.1.done=true then(Cq.bind (Z7 b.k a.1.k) λj=>match j with|false=>(Cq.ret (.inr (.inl false)))|true=>(Cq.bind (ZY b.q a.1.q) λl=>if(!l)=true then(Cq.ret (.inr (.inl false)))else(yE d e c b a)))else(Cq.ret (.inr (.inl false))))else(Cq.bind (Z7 b.k a.1.k) λm=>match m with|false=>(Cq.ret (.inr (.inl false)))|true=>(Cq.bind (ZY b.q a.1.q) λn=>if(!n)=true then(Cq.ret (.inr (.inl false)))else(yE d e c b a)))))))else(Cq.ret (.inr (.inl false))))else(Cq.ret (.inr (.inr ())))
def D3(a:Zr)(c:Bool)(b:Ze)(d:Ze×Int×Int):Cq Bool:=
 Cq.bind (xA b a.id) λe=>Cq.next (Pe a b d e 0) λg=>match g with|.inl f=>Cq.ret f|.inr ()=>Zid c
def Jj(e:(Ŀ Zr))(c:Zr):Cq Bool:=
 Cq.bind (JN) λd=>if(!d)=true then(Cq.ret false)else(Cq.bind (LH e) λa=>Cq.bind (KM a c) λb=>if(b.1.t.length:Int)<(a.t.length:Int)then(Cq.ret false)else(if ¬b.2.2=0 then(Cq.bind (Bm a b.1) λf=>if(!f)=true then(Cq.ret false)else(D3 c d a b))else(D3 c d a b)))
end Go.EL

namespace Go.EL
open Go.IntKind (i8 i16 i32 i64 u8 u16 u32 u64)
open Go
namespace Cq
variable {α β σ ρ:Type}
theorem wp_ret{a:α}{p:α->Prop}:(Cq.ret a).wp p↔p a:=Iff.rfl
theorem Zm{q:Prop}[Decidable q]{c d:Cq α}{p:α->Prop}:(if q then c else d).wp p↔if q then c.wp p else d.wp p:=by split<;>rfl
theorem Zzf{A:σ->Prop}{Φ:ρ->Prop}{s:σ}:Out A Φ (.inl s)↔A s:=Iff.rfl
theorem Α.then{c:Cq α}{a:α}(h:c.Α a){p:α->Prop}(hp:p a):c.wp p:=c.mono (λb e=>by rw[e];exact hp) h
end Cq
theorem wrap64{x:Int}(h:-9223372036854775808<=x/\x<=9223372036854775807):i64.wrap x=x:=IntWalk.i64_in _ h
theorem mY{a:Fin 8->Int}{i:Int}(h:0<=i/\i<8):Θ a i=a ⟨i.toNat,ŉ⟩:=zo a ŉ
theorem Ju(a b:M):(yO a b).Α (Ü a b):=by
 unfold yO;by_cases h:a=b
 .rw[ą h];subst h;exact(A2 a).symm
 rw[ā h];have n:∀k:Nat,k<=8->(∀j:Fin 8,j.val<k->a j=b j)->k<8:=λk l g=>by
  rcases ŝ k 8 with q|q
  .exact q
  exact absurd (funext λj=>g j ŉ) h
 refine Cq.LP (I:=λi:Int=>0<=i/\i<8/\∀j:Fin 8,(j.val:Int)<i->a j=b j) (m:=λi=>(8-i).toNat) (λi hi=>?_) 0 ⟨ŉ,ŉ,λj g=>by omega⟩;obtain⟨c,d,g⟩:=hi;refine⟨⟨c,d⟩,⟨c,d⟩,?_⟩;rw[Cq.Zm,mY ⟨c,d⟩,mY ⟨c,d⟩];split
 .rename_i e;have kl:∀j:Fin 8,(j.val:Int)<i+1->a j=b j:=λj f=>by
   by_cases h2:(j.val:Int)<i
   .exact g j h2
   have:j=⟨i.toNat,ŉ⟩:=abd ab0;rw[this];exact e
  have:=n (i+1).toNat ŉ (λj f=>kl j ŉ);rw[Cq.wp_ret,Cq.Zzf,wrap64 ŉ];exact⟨⟨ŉ,ŉ,kl⟩,ŉ⟩
 rename_i e;refine⟨⟨c,d⟩,⟨c,d⟩,?_⟩;rw[Cq.Zm,mY ⟨c,d⟩,mY ⟨c,d⟩];have l:i.toNat<8:=ŉ;split
 .rename_i p;exact(UM a b l (λj f=>g j ŉ) p).symm
 rename_i p;exact(UL a b l (λj f=>g j ŉ) ŉ).symm
end Go.EL

namespace Go.EL
open Go.IntKind (i8 i16 i32 i64 u8 u16 u32 u64)
open Go
instance MW:DecidableEq Zg:=λ⟨a1,a2⟩ ⟨a,c⟩=>decidable_of_iff (a1=a/\a2=c) ß
instance MX:DecidableEq Zf:=λ⟨a1,a2⟩ ⟨a,c⟩=>decidable_of_iff (a1=a/\a2=c) ß
def þ(n:Int):Zf:=⟨⟨decide (n<0),if n=0 then[]else[(n.natAbs:Int)]⟩,⟨false,[1]⟩⟩
def á(l h:Int)(p:Int->Bool):Bool:=(List.range (h-l+1).toNat).all λk=>p (l+(k:Int))
theorem Zq{l h:Int}{p:Int->Bool}(a:á l h p=true){x:Int}(c:l<=x)(h2:x<=h):p x=true:=by have:=Ć.1 a (x-l).toNat (ĺ.2 ŉ);rwa [show l+((x-l).toNat:Int)=x by omega]at this
def runs{α:Type}[DecidableEq α](n:Nat)(c:Cq α)(a:α):Bool:=decide (c.ev n=some a)
theorem Zs{α:Type}[DecidableEq α]{n:Nat}{c:Cq α}{a:α}(h:runs n c a=true):c.Α a:=Cq.Α.mm n (ĥ h)
theorem ZxG:(á (-8) 8 λn=>runs 20 (ZX n) (þ n))=true:=by decide +kernel
theorem Zzi:(á (-12) 12 λa=>á (-3) 3 λb=>runs 30 (vE (þ a) (þ b)) (þ (a+b)))=true:=by decide +kernel
theorem ZzY:(á (-3) 3 λa=>runs 30 (rn (þ a) (þ 1)) (þ a))=true:=by decide +kernel
theorem F9:(á (-15) 15 λa=>runs 30 (oC (þ a)) (if a<0 then -1 else if a=0 then 0 else 1))=true:=by decide +kernel
theorem ZxC:(á (-15) 15 λa=>a == 0 || runs 30 (ug (þ a)) true)=true:=by decide +kernel
theorem Su:(á (-12) 12 λa=>a == 0 || runs 30 (ZH (þ a)) (if a<0 then -1 else if a=0 then 0 else 1))=true:=by decide +kernel
theorem ZvP:(á (-12) 12 λa=>a == 0 || runs 30 (Z0 (þ a)) true)=true:=by decide +kernel
theorem ZyG:(á (-12) 12 λa=>a == 0 || á (-12) 12 λb=>b == 0 || runs 30 (vi (þ a) (þ b)) (if a<b then -1 else if a=b then 0 else 1))=true:=by decide +kernel
end Go.EL

namespace Go.EL
open Go.IntKind (i8 i16 i32 i64 u8 u16 u32 u64)
open Go Go.RowKit
def lU(k:Nat)(f a:M):M:=λi=>if i.val<k then f i else a i
theorem TJ{k:Nat}(f a:M)(h:k<8):ζ (lU k f a) k (f ⟨k,h⟩)=lU (k+1) f a:=by
 funext i;unfold ζ lU;by_cases e:i.val=k
 .have:i=⟨k,h⟩:=abd e;subst this;simp
 have c:(i.val<k+1)=(i.val<k):=by apply propext;omega
 simp[e,c]
theorem Vq{k:Nat}(f a:M)(h:k<8):lU k f a ⟨k,h⟩=a ⟨k,h⟩:=by unfold lU;simp
theorem TK(f a:M):lU 0 f a=a:=by funext i;simp[lU]
theorem Vc{k:Nat}(f a:M)(h:¬k<8):lU k f a=f:=by funext i;have:i.val<k:=ŉ;simp[lU,this]
theorem ZxY{p:Fin 8->Prop}{k:Nat}(a:∀i:Fin 8,i.val<k->p i)(h:k<8)(c:p ⟨k,h⟩):∀i:Fin 8,i.val<k+1->p i:=λi hi=>by
 by_cases e:i.val=k
 .have:i=⟨k,h⟩:=abd e;rw[this];exact c
 exact a i ŉ
def Ok(a:M):Prop:=∀i,0<=a i/\a i<=65535
def p2:Nat->Int
 |0=>1
 |k+1=>2*p2 k
theorem ZBc:∀{k:Nat},k<=8->1<=p2 k/\p2 k<=256
 |0,_=>by decide
 |1,_=>by decide
 |2,_=>by decide
 |3,_=>by decide
 |4,_=>by decide
 |5,_=>by decide
 |6,_=>by decide
 |7,_=>by decide
 |8,_=>by decide
 |k+9,h=>by omega
theorem Mz{k:Nat}(h:k<8):1<=p2 k/\p2 k<=128:=by have:=ZBc (k:=k+1) ŉ;simp only[p2]at this;omega
theorem Zyq{k:Nat}(h:k<8):u8.wrap (1*2 ^ (min (k:Int).toNat u8.bits))=p2 k:=by
 match k,h with
 |0,_=>decide|1,_=>decide|2,_=>decide|3,_=>decide|4,_=>decide|5,_=>decide|6,_=>decide|7,_=>decide
theorem Zz4{k:Nat}(h:k<8):u8.wrap (p2 k)=p2 k:=by
 match k,h with
 |0,_=>decide|1,_=>decide|2,_=>decide|3,_=>decide|4,_=>decide|5,_=>decide|6,_=>decide|7,_=>decide
def Û(a:M):Nat->Int
 |0=>0
 |k+1=>Û a k+(if h:k<8 then(if 0<a ⟨k,h⟩then p2 k else 0)else 0)
def jK(a:M):Int:=Û a 8
theorem Bb(a:M):∀k:Nat,0<=Û a k/\Û a k<p2 k
 |0=>by simp[Û,p2]
 |k+1=>by
  have c:=Bb a k;simp only[Û,p2];split
  .split<;>omega
  omega
theorem Si(a:M){k:Nat}(h:k<8)(c:0<a ⟨k,h⟩):Û a k+p2 k=Û a (k+1):=by simp[Û,h,c]
theorem Sx(a:M){k:Nat}(h:k<8)(c:¬0<a ⟨k,h⟩):Û a k=Û a (k+1):=by simp[Û,h,c]
theorem Zxb:∀k:Fin 8,∀s:Fin 128,s.val<2 ^ k.val->u8.wrap (BitVec.ofInt u8.bits (s.val:Int) ||| BitVec.ofInt u8.bits (p2 k.val)).toNat=s.val+p2 k.val:=by decide +kernel
theorem zy:∀k:Nat,p2 k=((2 ^ k:Nat):Int)
 |0=>rfl
 |k+1=>by rw[p2,zy k,Nat.pow_succ];omega
theorem ZBb{k:Nat}(h:k<8){s:Int}(a:0<=s)(c:s<p2 k):u8.wrap (BitVec.ofInt u8.bits s ||| BitVec.ofInt u8.bits (p2 k)).toNat=s+p2 k:=by obtain⟨n,rfl⟩:=aas a;have h2:=Mz h;rw[zy]at c;exact Zxb ⟨k,h⟩ ⟨n,by rw[zy]at h2;omega⟩ ab0
theorem ZAs{k:Nat}(h:k<8){s:Int}(a:0<=s)(c:s<p2 k):u8.wrap (s+p2 k)=s+p2 k:=by have h2:=Mz h;simp only[IntKind.wrap,IntKind.bits,IntKind.signed,ŵ,ś,aaK];omega
theorem Cq.Zn{σ ρ:Type}{step:σ->Cq (σ⊕ρ)}{Φ:ρ->Prop}(n:Nat)(I:Nat->σ->Prop)(h:∀k s,k<n->I k s->(step s).wp (Out (λs'=>I (k+1) s') Φ))(a:∀s,I n s->(step s).wp (Out (λ_=>False) Φ)):
  ∀{s:σ},I 0 s->(Cq.loop step s).wp Φ:=by
 have key:∀d k s,k+d=n->I k s->(Cq.loop step s).wp Φ:=by
  intro d;induction d with
  |zero=>intro k s e c;rw[ek]at e;subst e;exact Cq.Zt ((step s).mono (Out.mono (λ_ h=>h.elim) (λ_ x=>x)) (a s c))
  |succ d f=>intro k s e c;exact Cq.Zt ((step s).mono (Out.mono (λs' h'=>f (k+1) s' ŉ h') (λ_ x=>x)) (h k s ŉ c))
 exact λ{s} c=>key n 0 s ŉ c
theorem ψ{k:Nat}(h:k<1000000000000):i64.wrap ((k:Int)+1)=((k+1:Nat):Int):=by rw[wrap64 ŉ];simp
theorem Ξ{α:Type}{l:Ŀ α}{k:Nat}(h:k<l.length):(0:Int)<=(k:Int)/\l[(k:Int).toNat]?=some l[k]:=⟨ŉ,by simp[h]⟩
theorem Ö{a:M}{k:Nat}(h:k<8):Θ a (k:Int)=a ⟨k,h⟩:=by rw[mY ŉ];rfl
theorem Ztq(m:M):(Jv m).Α (jK m):=by
 show(Cq.loop _ _).wp _;refine Cq.Zn 8 (λk s=>s=(Û m k,(k:Int))) (λk s a c=>?_) (λs c=>?_) rfl
 .subst c;refine Cq.wp.yes (p:=(k:Int)<8) ŉ ?_;refine⟨ŉ,?_⟩;rw[Cq.Zm,Ö a];have d:=Bb m k;split
  .rename_i h;refine⟨ŉ,?_⟩;show _=_;rw[ψ ŉ,Zyq a,ZBb a d.1 d.2,Si m a h]
  rename_i h;show _=_;rw[ψ ŉ,Sx m a h]
 subst c;refine Cq.wp.no (p:=((8:Nat):Int)<8) ŉ ?_;rfl
theorem Az(a b:M):(xH a b).Α (Ü a b):=by
 refine Cq.Zn 8 (λk s=>s=(k:Int)/\∀i:Fin 8,i.val<k->a i=b i) (λk s c d=>?_) (λs d=>?_) ⟨rfl,λi hi=>by omega⟩
 .obtain⟨rfl,hi⟩:=d;rw[Cq.Zm,ą ŉ];refine⟨ŉ,ŉ,?_⟩;rw[Cq.Zm,Ö c,Ö c];split
  .rename_i h;show _=_;exact(UM a b c hi h).symm
  rename_i h;refine⟨ŉ,ŉ,?_⟩;rw[Cq.Zm];split
  .rename_i h2;show _=_;exact(UL a b c hi h2).symm
  exact⟨ψ ŉ,ZxY hi c ŉ⟩
 obtain⟨rfl,hi⟩:=d;rw[Cq.Zm,ā ŉ];show _=_;exact(UK a b (λi=>hi i i.isLt)).symm
theorem ZsM{i:Nat}(hi:i<8):(Mh (i:Int)).Α (p2 i):=by
 refine Cq.Zn i (λk s=>s=(p2 k,(k:Int))) (λk s c a=>?_) (λs a=>?_) rfl
 .subst a;show(if(k:Int)<(i:Int)then _ else _:Cq _).wp _;have:=Mz (k:=k) ŉ;rw[Cq.Zm,ą ŉ];show _=_;rw[ψ ŉ,wrap64 ŉ];rfl
 subst a;refine Cq.wp.no (p:=(i:Int)<(i:Int)) ŉ ?_;exact Zz4 hi
theorem ZmD(m:M):(Kj m).Α (jK m):=by
 refine Cq.Zn 8 (λk s=>s=(Û m k,(k:Int))) (λk s a c=>?_) (λs c=>?_) rfl
 .subst c;have d:=Bb m k;refine Cq.wp.yes (p:=(k:Int)<8) ŉ ?_;refine⟨ŉ,?_⟩;rw[Cq.Zm,Ö a];split
  .rename_i hp;refine⟨_,ZsM a,?_⟩;show _=_;rw[ψ ŉ,ZAs a d.1 d.2,Si m a hp]
  rename_i hp;show _=_;rw[ψ ŉ,Sx m a hp]
 subst c;refine Cq.wp.no (p:=((8:Nat):Int)<8) ŉ ?_;rfl
theorem P6{m:M}(h:Ok m):(FC m).Α true:=by
 refine Cq.Zn 8 (λk s=>s=(k:Int)) (λk s c a=>?_) (λs a=>?_) rfl
 .subst a;have:=h ⟨k,c⟩;rw[Cq.Zm,ą ŉ];refine⟨ŉ,?_⟩;rw[Cq.Zm,Ö c,ā ŉ];refine⟨ŉ,?_⟩;rw[Cq.Zm,ā ŉ];exact ψ ŉ
 subst a;rw[Cq.Zm,ā ŉ];rfl
theorem Sy{m:M}(h:Ok m):(Ef m).Α true:=by
 refine Cq.Zn 8 (λk s=>s=(k:Int)) (λk s c a=>?_) (λs a=>?_) rfl
 .subst a;have:=h ⟨k,c⟩;refine Cq.wp.yes (p:=(k:Int)<8) ŉ ?_;refine⟨ŉ,?_⟩;rw[Cq.Zm,Ö c,ā ŉ,Cq.Zm,ā ŉ];exact ψ ŉ
 subst a;refine Cq.wp.no (p:=((8:Nat):Int)<8) ŉ ?_;rfl
def fD(m:M):Nat->Int
 |0=>0
 |k+1=>fD m k+(if h:k<8 then m ⟨k,h⟩else 0)
def fH(m:M):Int:=fD m 8
theorem FO{m:M}(h:Ok m):∀k:Nat,0<=fD m k/\fD m k<=65535*k
 |0=>by simp[fD]
 |k+1=>by
  have c:=FO h k;simp only[fD];split
  .rename_i a;have:=h ⟨k,a⟩;omega
  omega
theorem ZnJ{m:M}(h:Ok m):(Kv m).Α (fH m):=by
 refine Cq.Zn 8 (λk s=>s=(fD m k,(k:Int))) (λk s a c=>?_) (λs c=>?_) rfl
 .subst c;have d:=FO h k;have h2:=h ⟨k,a⟩;refine Cq.wp.yes (p:=(k:Int)<8) ŉ ?_;refine⟨ŉ,?_⟩;show _=_;rw[ψ ŉ,Ö a,wrap64 ŉ,fD,Ŷ a]
 subst c;refine Cq.wp.no (p:=((8:Nat):Int)<8) ŉ ?_;rfl
theorem ZuM{m:M}(h:Ok m):(Jq m).Α (fH m):=by
 refine Cq.Zn 8 (λk s=>s=(fD m k,(k:Int))) (λk s a c=>?_) (λs c=>?_) rfl
 .subst c;have d:=FO h k;have h2:=h ⟨k,a⟩;refine Cq.wp.yes (p:=(k:Int)<8) ŉ ?_;refine⟨ŉ,?_⟩;show _=_;rw[ψ ŉ,Ö a,wrap64 ŉ,fD,Ŷ a]
 subst c;refine Cq.wp.no (p:=((8:Nat):Int)<8) ŉ ?_;rfl
def mulM(a b:M):M:=λi=>a i+b i
theorem QI{a b:M}(f:Ok a)(g:Ok b)(d:Ok (mulM a b)):(Mi a b).Α (mulM a b,0):=by
 show(Cq.next _ _).wp _;refine Cq.Zn 8 (λk s=>s=((k:Int),lU k (mulM a b) a)) (λk s c e=>?_) (λs e=>?_) (by rw[TK];rfl)
 .subst e;have h:=f ⟨k,c⟩;have h2:=g ⟨k,c⟩;rw[Cq.Zm,ą ŉ];refine⟨ŉ,ŉ,ŉ,?_⟩;show _=_;rw[ψ ŉ,Ö c,Ö c,Vq,wrap64 ŉ];exact đ (Prod.mk _) (TJ (mulM a b) a c)
 subst e;rw[Cq.Zm,ā ŉ,Vc _ _ ŉ];exact⟨true,P6 d,rfl⟩
end Go.EL

namespace Go.EL
open Go.IntKind (i8 i16 i32 i64 u8 u16 u32 u64)
open Go Go.RowKit
theorem ub{c:Zf}(h:fp c=true):∃n:Int,c=þ n/\n≠0/\-12<=n/\n<=12:=by
 obtain⟨⟨e,i⟩,⟨f,dm⟩⟩:=c;unfold fp at h;dsimp only at h;split at h
 .rename_i w d;simp only[Ĉ,ő,Ę]at h;obtain⟨⟨⟨a,h2⟩,h3⟩,g⟩:=h;subst a h2;cases e with
  |true=>
   refine⟨-w,?_,ŉ,ŉ,ŉ⟩;unfold þ;rw[ā ŉ,Ă ŉ,show((-w).natAbs:Int)=w by omega]
  |false=>
   refine⟨w,?_,ŉ,ŉ,ŉ⟩;unfold þ;rw[ā ŉ,ċ ŉ,show((w).natAbs:Int)=w by omega]
 cases h
theorem pB(n:Int):Î (þ n)=n:=by
 unfold Î þ;by_cases h:n<0
 .rw[Ă h,ą rfl,ā ŉ];simp;omega
 rw[ċ h];by_cases a:n=0
 .subst a;rfl
 simp[a];omega
theorem Zvn{n:Int}(a:n≠0)(c:-12<=n)(h2:n<=12):fp (þ n)=true:=by unfold fp þ;rw[ā a];simp;omega
def hJ(a b:Zf):Int:=if Î a<Î b then -1 else if Î a=Î b then 0 else 1
theorem TL{a b:Zf}(e:fp a=true)(f:fp b=true):(vi a b).Α (hJ a b):=by
 obtain⟨m,rfl,g,i,j⟩:=ub e;obtain⟨n,rfl,k,l,p⟩:=ub f;have h:=Zq ZyG i j;have c:(m == 0)=false:=by simpa using g
 rw[c,Ľ]at h;have h':=Zq h l p;have d:(n == 0)=false:=by simpa using k
 rw[d,Ľ]at h';have:=Zs h';unfold hJ;rw[pB,pB];exact this
theorem Zwf{a b:Zf}(c:fp a=true)(d:fp b=true)(h:hJ a b=0):a=b:=by
 obtain⟨m,rfl,_⟩:=ub c;obtain⟨n,rfl,_⟩:=ub d;unfold hJ at h;rw[pB,pB]at h;split at h
 .omega
 split at h
 .rename_i e;rw[e]
 omega
theorem Zx3(a b:Zf):hJ b a = - hJ a b:=by unfold hJ;split<;>split<;>(try split)<;>omega
theorem Zzl{a b:Zf}:hJ a b<=0↔Î a<=Î b:=by unfold hJ;split<;>(try split)<;>constructor<;>intro h<;>omega
theorem Zzm{a b:Zf}:hJ a b<0↔Î a<Î b:=by unfold hJ;split<;>(try split)<;>constructor<;>intro h<;>omega
theorem Zve{a b c:Zf}(d:hJ a b<=0)(h2:hJ b c<=0):hJ a c<=0/\((hJ a b<0\/hJ b c<0)->hJ a c<0):=by rw[Zzl]at *;simp only[Zzm];omega
theorem FN(s t:Za):fB t s = - fB s t:=by
 unfold fB;by_cases h:s.m=t.m
 .rw[ą h,ą h.symm];exact Zx3 s.c t.c
 rw[ā h,ā (λe=>h e.symm)];exact tZ _ _
theorem Fi(a b c:Za)(g:fB a b<=0)(h2:fB b c<=0):fB a c<=0/\((fB a b<0\/fB b c<0)->fB a c<0):=by
 have j:∀{x y:Za},x.m≠y.m->Ü x.m y.m<=0->Ü x.m y.m<0:=λh h'=>by
  rcases Int.lt_or_eq_of_le h' with h'|h'
  .exact h'
  exact absurd (uh h') h
 unfold fB at *;by_cases d:a.m=b.m
 .by_cases f:b.m=c.m
  .rw[ą d]at g⊢;rw[ą f]at h2⊢;rw[ą (d.trans f)];exact Zve g h2
  rw[ą d]at g⊢;rw[ā f]at h2⊢;rw[ā (λe=>f (d.symm.trans e))];have:=j f h2;rw[d];exact⟨h2,λ_=>this⟩
 by_cases f:b.m=c.m
 .rw[ā d]at g⊢;rw[ą f]at h2⊢;rw[ā (λe=>d (e.trans f.symm))];have:=j d g;rw[<-f];exact⟨g,λ_=>this⟩
 rw[ā d]at g⊢;rw[ā f]at h2⊢;have i:=j d g;have h3:=JH g h2 (.inl i);have:a.m≠c.m:=λe=>by rw[e,A2]at h3;omega
 rw[ā this];exact⟨Int.le_of_lt h3,λ_=>h3⟩
theorem Zwh{s t:Za}(a:fp s.c=true)(c:fp t.c=true)(h:fB s t=0):s=t:=by
 unfold fB at h;have key:s.m=t.m/\s.c=t.c:=by
  by_cases e:s.m=t.m
  .rw[ą e]at h;exact⟨e,Zwf a c h⟩
  rw[ā e]at h;exact absurd (uh h) e
 cases s;cases t;simp only at key;rw[key.1,key.2]
theorem qH:∀p q:Ŀ Za,ë q p = - ë p q
 |[],[]=>rfl
 |[],_::_=>rfl
 |_::_,[]=>rfl
 |s::p,t::q=>by
  unfold ë;rw[FN s t,qH p q];by_cases h:fB s t=0
  .rw[ą h,ą ŉ]
  rw[ā h,ā ŉ]
theorem yU:∀a b c:Ŀ Za,ë a b<=0->ë b c<=0->ë a c<=0/\((ë a b<0\/ë b c<0)->ë a c<0)
 |[],[],[],d,h2=>⟨ĳ,λh=>by rcases h with h|h<;>exact absurd h ĳ⟩
 |[],[],_::_,d,h2=>⟨by simp[ë],λ_=>by simp[ë]⟩
 |[],_::_,[],d,h2=>by simp[ë]at h2
 |[],_::_,_::_,d,h2=>⟨by simp[ë],λ_=>by simp[ë]⟩
 |_::_,[],_,d,h2=>by simp[ë]at d
 |_::_,_::_,[],d,h2=>by simp[ë]at h2
 |s::a,t::b,u::c,d,h2=>by
  have l:=FN s t;have i:=yU a b c;have tr:=Fi s t u;have j:=Fi t s u;have k:=Fi s u t;have m:=FN t u;have n3:=FN s u;simp only[ë]at *;by_cases g:fB s t=0
  .rw[ą g]at d⊢;by_cases e:fB t u=0
   .rw[ą e]at h2⊢;have h3:fB s u=0:=by
     have f:=(tr ŉ ŉ).1;have n:=(Fi u t s ŉ ŉ).1;omega
    rw[ą h3];exact i d h2
   rw[ā e]at h2⊢;have f:=(tr ŉ h2).2 (.inr ŉ);rw[ā ŉ];exact⟨ŉ,λ_=>f⟩
  rw[ā g]at d⊢;have e:fB t u<=0:=by
   by_cases e:fB t u=0
   .omega
   rw[ā e]at h2;exact h2
  have f:=(tr d e).2 (.inl ŉ);rw[ā ŉ];exact⟨ŉ,λ_=>f⟩
theorem xy(p:Ŀ Za):ë p p=0:=by have:=qH p p;omega
theorem RY{t:Za}{p:Ŀ Za}(h:Ó (t::p)=true):fp t.c=true/\Ó p=true:=by unfold Ó at *;simp only[Ĉ,Ę,Ě,abk]at h⊢;exact⟨h.2.1,ŉ,h.2.2⟩
theorem A3:∀{p q:Ŀ Za},Ó p=true->Ó q=true->ë p q=0->p=q
 |[],[],_,_,_=>rfl
 |[],_::_,_,_,h=>by simp[ë]at h
 |_::_,[],_,_,h=>by simp[ë]at h
 |s::p,t::q,hp,a,h=>by
  obtain⟨p1,p2⟩:=RY hp;obtain⟨c,d⟩:=RY a;simp only[ë]at h;by_cases e:fB s t=0
  .rw[ą e]at h;rw[Zwh p1 c e,A3 p2 d h]
  rw[ā e]at h;exact absurd h e
abbrev mK:={ p:Ŀ Za // Ó p=true }
theorem Ou:Go.Sort.SWO (Go.Proofs.ltOf λa b:mK=>ë a.1 b.1) where
 irrefl x:=by show decide (ë x.1 x.1<0)=false;rw[xy];rfl
 trans x y z c h2:=by simp only[Go.Proofs.ltOf,Ę]at *;exact(yU x.1 y.1 z.1 ŉ ŉ).2 (.inl c)
 ntrans x y z c h2:=by simp only[Go.Proofs.ltOf,aar,aaH]at *;have d:=qH x.1 y.1;have e:=qH y.1 z.1;have n3:=qH x.1 z.1;have:=(yU z.1 y.1 x.1 ŉ ŉ).1;omega
theorem Lw(x:Ŀ Za):∀l,(zS x l).Perm (x::l)
 |[]=>u1 _
 |y::l=>by
  unfold zS;split
  .exact ((Lw x l).cons y).trans (List.Perm.swap x y l)
  exact u1 _
theorem vu:∀l,(jF l).Perm l
 |[]=>u1 _
 |x::l=>(Lw x (jF l)).trans ((vu l).cons x)
theorem R0(x:Ŀ Za):∀l,l.Pairwise (λa b=>ë a b<=0)->(zS x l).Pairwise (λa b=>ë a b<=0)
 |[],_=>Ū _ _
 |y::l,h=>by
  unfold zS;obtain⟨d,h2⟩:=Į.1 h;have n:=qH x y;split
  .refine Į.2 ⟨λz c=>?_,R0 x l h2⟩;rcases Ď.1 ((Lw x l).mem_iff.1 c)with rfl|c
   .omega
   exact d z c
  refine Į.2 ⟨λz c=>?_,h⟩;rcases Ď.1 c with rfl|c
  .omega
  exact(yU x y z ŉ (d z c)).1
theorem Kf:∀l,(jF l).Pairwise (λa b=>ë a b<=0)
 |[]=>List.Pairwise.nil
 |x::l=>R0 x _ (Kf l)
theorem Q3:∀{l m:Ŀ (Ŀ Za)},l.Perm m->(∀p∈l,Ó p=true)->l.Pairwise (λa b=>ë a b<=0)->m.Pairwise (λa b=>ë a b<=0)->l=m
 |[],m,h,_,_,_=>(List.Perm.nil_eq h)
 |x::l,[],h,_,_,_=>by have:=h.length_eq;simp at this
 |x::l,y::m,h,d,j,h2=>by
  obtain⟨a1,a2⟩:=Į.1 j;obtain⟨g,i⟩:=Į.1 h2;have e:x=y:=by
   have f:x∈y::m:=h.mem_iff.1 ß;have c:y∈x::l:=h.mem_iff.2 ß;have k:ë x y<=0:=by
    rcases Ď.1 c with rfl|c
    .rw[xy];exact Ō 0
    exact a1 y c
   have q:ë y x<=0:=by
    rcases Ď.1 f with rfl|f
    .rw[xy];exact Ō 0
    exact g x f
   have n:=qH x y;exact A3 (d x ß) (d y c) ŉ
  subst e;rw[Q3 (List.Perm.cons_inv h) (λp hp=>d p (by simp[hp])) a2 i]
theorem ZxO{s t:Za}(a:fp s.c=true)(c:fp t.c=true):(Ea s t).Α (fB s t):=by
 unfold Ea fB;by_cases h:s.m=t.m
 .rw[ą h];exact Cq.wp.no (by simpa using h) ⟨_,TL a c,rfl⟩
 rw[ā h];exact Cq.wp.yes h ⟨_,Ju _ _,rfl⟩
theorem tG{p:Ŀ Za}(h:Ó p=true){k:Nat}(a:k<p.length):fp p[k].c=true:=by unfold Ó at h;simp only[Ĉ]at h;exact Ć.1 h.2 _ (ă a)
theorem vr{p:Ŀ Za}(h:Ó p=true):p.length<=1000:=by unfold Ó at h;simp only[Ĉ,Ę]at h;exact h.1
theorem Fk(p q:Ŀ Za){k:Nat}(hp:k<p.length)(a:k<q.length):ë (p.drop k) (q.drop k)=if fB p[k] q[k]=0 then ë (p.drop (k+1)) (q.drop (k+1))else fB p[k] q[k]:=by rw[ĭ hp,ĭ a];rfl
theorem Tb{p q:Ŀ Za}(hp:Ó p=true)(g:Ó q=true):(Eh p q).Α (ë p q):=by
 have j:=vr hp;have l:=vr g;refine⟨ë p q,?_,rfl⟩;unfold ZB;refine(ZI p q 0).mono (p:=λo=>match o with|.inl v=>v=ë p q|.inr ()=>q.length ≥ p.length/\ë p q=ë [] (q.drop p.length)) (λo h=>?_) (Cq.Zn p.length (λk s=>s=(k:Int)/\k<=p.length/\k<=q.length/\ë p q=ë (p.drop k) (q.drop k)) ?_ ?_ ⟨rfl,Ĝ _,Ĝ _,rfl⟩)
 .match o,h with
  |.inl v,h=>exact h
  |.inr (),⟨f,h2⟩=>
   show(Zz p q).Α _;unfold Zz;by_cases i:p.length<q.length
   .refine Cq.wp.yes ŉ ?_;show(-1:Int)=_;rw[h2,ĭ i];rfl
   refine Cq.wp.no ŉ ?_;show(0:Int)=_;rw[h2,Ķ ŉ];rfl
 .rintro k s d ⟨rfl,f,h2,h3⟩;refine Cq.wp.yes ŉ ⟨_,Ξ d,?_⟩;by_cases a:k<q.length
  .refine Cq.wp.no ŉ ⟨_,Ξ a,_,ZxO (tG hp d) (tG g a),?_⟩;have c:=Fk p q d a;by_cases e:fB p[k] q[k]=0
   .rw[ą e]at c;refine Cq.wp.no ŉ ?_;exact⟨ψ ŉ,ŉ,ŉ,h3.trans c⟩
   rw[ā e]at c;refine Cq.wp.yes e ?_;exact(h3.trans c).symm
  refine Cq.wp.yes ŉ ?_;show(1:Int)=_;rw[h3,ĭ d,Ķ (show q.length<=k by omega)];rfl
 rintro s ⟨rfl,f,h2,h3⟩;refine Cq.wp.no ŉ ?_;refine⟨h2,?_⟩;rw[h3,Ķ (ĉ _)]
theorem SL(y:Ŀ Za):∀(x:Ŀ Za) (l:Ŀ (Ŀ Za)),jV x (l++[y])=jV x l++(if ë y (l.getLastD x)=0 then[]else[y])
 |x,[]=>by
  show jV x [y]=_;unfold jV;by_cases h:ë y x=0
  .rw[ą h];simp[h,jV]
  rw[ā h];simp[h,jV]
 |x,z::l=>by
  have a:=SL y z l;show jV x (z::(l++[y]))=_;have e:(z::l).getLastD x=l.getLastD z:=by cases l<;>simp[List.getLastD]
  rw[e];simp only[jV];split
  .exact a
  rw[a];rfl
theorem SM{xs:Ŀ (Ŀ Za)}{j:Nat}(c:1<=j)(a:j<xs.length):gh (xs.take (j+1))=if ë xs[j] xs[j-1]=0 then gh (xs.take j)else gh (xs.take j)++[xs[j]]:=by
 match xs,a with
 |x::l,a=>
  obtain⟨i,rfl⟩:∃i,j=i+1:=⟨j-1,ŉ⟩;have hi:i<l.length:=by simpa using a
  rw[č a];simp only[List.take_succ_cons,ĸ,gh,SL,x6,Nat.add_sub_cancel];have e:(l.take i).getLastD x=(x::l)[i]:=by
   cases i with
   |zero=>rfl
   |succ i=>
    rw[List.getLastD_eq_getLast?,List.getLast?_eq_getElem?,Č];rw[show min (i+1) l.length-1=i by omega,ų ŉ,Ą ŉ];rfl
  rw[e];split<;>simp
theorem TV:∀{xs:Ŀ (Ŀ Za)},(gh xs).length<=xs.length
 |[]=>ĉ _
 |x::l=>by
  have key:∀(x:Ŀ Za) (l:Ŀ (Ŀ Za)),(jV x l).length<=l.length:=by
   intro x l;induction l generalizing x with
   |nil=>exact ĉ _
   |cons y l a=>
    unfold jV;split
    .exact aav (a y)
    simpa using a y
  simpa[gh]using key x l
theorem RW{xs:Ŀ (Ŀ Za)}(h:xs.length<2):gh xs=xs:=by
 match xs,h with
 |[],_=>rfl
 |[x],_=>rfl
theorem Zwa{s t:Za}(a:fp s.c=true)(c:fp t.c=true):(D' s t).Α (decide (fB s t=0)):=by
 unfold D' fB;by_cases h:s.m=t.m
 .simp only[ą h];exact⟨_,TL a c,rfl⟩
 simp only[ā h];show false=_;have:¬Ü s.m t.m=0:=λe=>h (uh e);simp[this]
theorem LM:∀{p q:Ŀ Za},ë p q=0->p.length=q.length
 |[],[],_=>rfl
 |[],_::_,h=>by simp[ë]at h
 |_::_,[],h=>by simp[ë]at h
 |s::p,t::q,h=>by
  simp only[ë]at h;split at h
  .simp[LM h]
  rename_i h';exact absurd h h'
theorem Fc{p q:Ŀ Za}(hp:Ó p=true)(f:Ó q=true):(ZU p q).Α (decide (ë p q=0)):=by
 have j:=vr hp;have l:=vr f;refine⟨decide (ë p q=0),?_,rfl⟩;unfold ZC;by_cases i:p.length=q.length
 .refine Cq.wp.no ŉ ?_;refine(ZJ p q 0).mono (p:=λo=>match o with|.inl v=>v=decide (ë p q=0)|.inr ()=>ë p q=0) (λo h=>?_) (Cq.Zn p.length (λk s=>s=(k:Int)/\k<=p.length/\ë p q=ë (p.drop k) (q.drop k)) ?_ ?_ ⟨rfl,Ĝ _,rfl⟩)
  .match o,h with
   |.inl v,h=>exact h
   |.inr (),h=>show true=_;rw[Ă h]
  .rintro k s d ⟨rfl,g,h3⟩;have a:k<q.length:=ŉ;refine Cq.wp.yes ŉ ⟨_,Ξ d,_,Ξ a,_,Zwa (tG hp d) (tG f a),?_⟩;have c:=Fk p q d a;by_cases e:fB p[k] q[k]=0
   .rw[ą e]at c;rw[Ă e];exact⟨ψ ŉ,ŉ,h3.trans c⟩
   rw[ā e]at c;rw[ċ e];show false=_;rw[h3,c,ċ e]
  rintro s ⟨rfl,g,h3⟩;refine Cq.wp.no ŉ ?_;show ë p q=0;rw[h3,Ķ (ĉ _),Ķ ŉ];rfl
 refine Cq.wp.yes ŉ ?_;show false=_;rw[ċ (λh=>i (LM h))]
theorem Zx1:(á 0 100 λn=>match(tW (u64.wrap n)).ev 30 with|some v=>decide (0<=v/\v<1000000)|none=>false)=true:=by decide +kernel
theorem TR{n:Nat}(h:n<=100):∃v,(tW (u64.wrap (n:Int))).Α v/\0<=v/\v<1000000:=by
 have:=Zq Zx1 (show(0:Int)<=(n:Int) by omega) (show(n:Int)<=100 by omega);cases a:(tW (u64.wrap (n:Int))).ev 30 with
 |none=>rw[a]at this;cases this
 |some v=>rw[a]at this;exact⟨v,Cq.Α.mm 30 a,ĥ this⟩
end Go.EL

namespace Go.EL
open Go.IntKind (i8 i16 i32 i64 u8 u16 u32 u64)
open Go Go.RowKit
structure iv (t:Za):Prop where
 c:∃c:Int,t.c=þ c/\c≠0/\-12<=c/\c<=12
 m:Ok t.m
structure ω (p:Ŀ Za):Prop where
 ord:p.Pairwise λx y=>0<Ü x.m y.m
 ts:∀t∈p,iv t
 len:p.length<=100
theorem iv.rv{t:Za}(h:iv t):(ug t.c).Α true:=by obtain⟨⟨c,e,a,d,h2⟩,_⟩:=h;have:=Zq ZxC (x:=c) ŉ ŉ;rw[e];exact Zs (by simpa[a]using this)
theorem iv.rs{t:Za}(h:iv t):∃s,(oC t.c).Α s/\s≠0:=by obtain⟨⟨c,e,a,d,h2⟩,_⟩:=h;have:=Zq F9 (x:=c) ŉ ŉ;rw[e];exact⟨_,Zs this,by split<;>omega⟩
theorem iv.pv{t:Za}(h:iv t):(Z0 t.c).Α true:=by obtain⟨⟨c,e,a,d,h2⟩,_⟩:=h;have:=Zq ZvP (x:=c) ŉ ŉ;rw[e];exact Zs (by simpa[a]using this)
theorem iv.ps{t:Za}(h:iv t):∃s,(ZH t.c).Α s/\s≠0:=by
 obtain⟨⟨c,e,a,d,h2⟩,_⟩:=h;have:=Zq Su (x:=c) ŉ ŉ;rw[e];refine⟨_,Zs (by simpa[a]using this),?_⟩;split<;>first|omega|(split<;>omega)
theorem ω.at{p:Ŀ Za}(h:ω p){k:Nat}(a:k<p.length):iv p[k]:=h.ts _ (ă a)
theorem ω.step{p:Ŀ Za}(h:ω p){k:Nat}(a:k+1<p.length):0<Ü p[k].m p[k+1].m:=ħ.1 h.ord k (k+1) ŉ a ŉ
theorem Aq{p:Ŀ Za}(h:ω p):(AV p).Α true:=by
 have i:=h.len;refine Cq.Zn p.length (λk s=>s=(k:Int)) (λk s a c=>?_) (λs c=>?_) rfl
 .subst c;have d:=h.at a;obtain⟨s,e,h2⟩:=d.rs;rw[Cq.Zm,ą ŉ];refine⟨p[k],Ξ a,true,d.rv,p[k],Ξ a,s,e,?_⟩;rw[Cq.Zm,ā h2];refine⟨p[k],Ξ a,true,P6 d.m,?_⟩;rw[Cq.Zm,ā ĳ];show(JV p (k:Int)).wp _;unfold JV;rw[Cq.Zm];split
  .rename_i g;obtain⟨j,rfl⟩:∃j,k=j+1:=⟨k-1,ŉ⟩;have f:i64.wrap (((j+1:Nat):Int)-1)=(j:Int):=by rw[wrap64 ŉ];omega
   rw[f];refine⟨p[j],Ξ ŉ,p[j+1],Ξ a,_,Az _ _,?_⟩;have:=h.step a;rw[Cq.Zm,ā ŉ];exact ψ ŉ
  exact ψ ŉ
 subst c;rw[Cq.Zm,ā ŉ];rfl
theorem D4{p:Ŀ Za}(h:ω p):(Ap p).Α true:=by
 have i:=h.len;refine Cq.Zn p.length (λk s=>s=(k:Int)) (λk s a c=>?_) (λs c=>?_) rfl
 .subst c;have d:=h.at a;obtain⟨s,e,h2⟩:=d.ps;refine Cq.wp.yes (p:=(k:Int)<(p.length:Int)) ŉ ?_;refine⟨p[k],Ξ a,true,d.pv,s,e,?_⟩;rw[Cq.Zm,ā h2];refine⟨true,Sy d.m,?_⟩;rw[Cq.Zm,ā ĳ];show(Jd p (k:Int) p[k]).wp _;unfold Jd;rw[Cq.Zm];split
  .rename_i g;obtain⟨j,rfl⟩:∃j,k=j+1:=⟨k-1,ŉ⟩;have f:i64.wrap (((j+1:Nat):Int)-1)=(j:Int):=by rw[wrap64 ŉ];omega
   rw[f];refine⟨p[j],Ξ ŉ,_,Ju _ _,?_⟩;have:=h.step a;rw[Cq.Zm,ā ŉ];exact ψ ŉ
  exact ψ ŉ
 subst c;refine Cq.wp.no (p:=((p.length:Nat):Int)<(p.length:Int)) ŉ ?_;rfl
def hW(p:Ŀ Za):Nat->Int
 |0=>0
 |k+1=>u8.wrap (BitVec.ofInt u8.bits (hW p k) ||| BitVec.ofInt u8.bits (match p[k]? with|some t=>jK t.m|none=>0)).toNat
def ð(p:Ŀ Za):Int:=hW p p.length
def fI(p:Ŀ Za):Nat->Int
 |0=>-1
 |k+1=>match p[k]? with|some t=>if fI p k<fH t.m then fH t.m else fI p k|none=>fI p k
def gi(p:Ŀ Za):Int:=fI p p.length
theorem AE{p:Ŀ Za}(d:p.length<=100):(Bi p).Α (ð p):=by
 refine Cq.Zn p.length (λk s=>s=(hW p k,(k:Int))) (λk s c a=>?_) (λs a=>?_) rfl
 .subst a;refine Cq.wp.yes (p:=(k:Int)<(p.length:Int)) ŉ ?_;refine⟨p[k],Ξ c,_,ZmD _,?_⟩;show _=_;rw[ψ ŉ];simp only[hW,Ą c]
 subst a;refine Cq.wp.no (p:=((p.length:Nat):Int)<(p.length:Int)) ŉ ?_;rfl
theorem FZ{p:Ŀ Za}(d:p.length<=100):(Av p).Α (ð p):=by
 refine Cq.Zn p.length (λk s=>s=(hW p k,(k:Int))) (λk s c a=>?_) (λs a=>?_) rfl
 .subst a;refine Cq.wp.yes (p:=(k:Int)<(p.length:Int)) ŉ ?_;refine⟨p[k],Ξ c,_,Ztq _,?_⟩;show _=_;rw[ψ ŉ];simp only[hW,Ą c]
 subst a;refine Cq.wp.no (p:=((p.length:Nat):Int)<(p.length:Int)) ŉ ?_;rfl
theorem wW{p:Ŀ Za}(h:ω p):(xf p).Α (gi p):=by
 have d:=h.len;refine Cq.Zn p.length (λk s=>s=(fI p k,(k:Int))) (λk s a c=>?_) (λs c=>?_) rfl
 .subst c;refine Cq.wp.yes (p:=(k:Int)<(p.length:Int)) ŉ ?_;refine⟨p[k],Ξ a,_,ZnJ (h.at a).m,?_⟩;show _=_;rw[ψ ŉ];simp only[fI,Ą a]
 subst c;refine Cq.wp.no (p:=((p.length:Nat):Int)<(p.length:Int)) ŉ ?_;rfl
theorem yG{p:Ŀ Za}(h:ω p):(wZ p).Α (gi p):=by
 have d:=h.len;refine Cq.Zn p.length (λk s=>s=(fI p k,(k:Int))) (λk s a c=>?_) (λs c=>?_) rfl
 .subst c;refine Cq.wp.yes (p:=(k:Int)<(p.length:Int)) ŉ ?_;refine⟨p[k],Ξ a,_,ZuM (h.at a).m,?_⟩;show _=_;rw[ψ ŉ];simp only[fI,Ą a]
 subst c;refine Cq.wp.no (p:=((p.length:Nat):Int)<(p.length:Int)) ŉ ?_;rfl
end Go.EL

namespace Go.EL
open Go.IntKind (i8 i16 i32 i64 u8 u16 u32 u64)
open Go Go.RowKit
def Ñ(p:Ŀ Za)(n:Int):Bool:=if(Int.fdiv (i64.wrap (ð p)) (2 ^ (min (n).toNat i64.bits)))=0 then decide (gi p<=12)else false
theorem Znv{p:Ŀ Za}(h:ω p){n:Int}(a:0<=n):(KD p n).Α (Ñ p n):=by
 refine⟨true,D4 h,_,FZ h.len,a,?_⟩;unfold Ñ;rw[Cq.Zm];split
 .exact⟨_,yG h,rfl⟩
 rfl
theorem Sh(a:M):∀k:Nat,k<=8->∀i:Fin 8,(Û a k).toNat.testBit i.val=(decide (i.val<k)&&decide (0<a i))
 |0,_,i=>by simp[Û]
 |k+1,g,i=>by
  have f:=Sh a k ŉ i;have c:=Bb a k;have im:k<8:=ŉ;rw[zy]at c;simp only[Û,Ŷ im];by_cases hi:i.val=k
  .have e:i=⟨k,im⟩:=abd hi;subst e;by_cases hp:0<a ⟨k,im⟩
   .rw[ą hp,zy,show(Û a k+((2 ^ k:Nat):Int)).toNat=2 ^ k+(Û a k).toNat by omega,Nat.testBit_two_pow_add_eq,dI ŉ];simp[hp]
   rw[ā hp,aaA];show(Û a k).toNat.testBit k=_;rw[dI ŉ];simp[hp]
  have d:(decide (i.val<k+1))=decide (i.val<k):=by
   by_cases h:i.val<k
   .simp[h,show i.val<k+1 by omega]
   simp[h,show ¬i.val<k+1 by omega]
  rw[d,<-f];by_cases hp:0<a ⟨k,im⟩
  .rw[ą hp,zy,show(Û a k+((2 ^ k:Nat):Int)).toNat=2 ^ k+(Û a k).toNat by omega];by_cases h:i.val<k
   .rw[Nat.testBit_two_pow_add_gt h]
   rw[dI (x:=(Û a k).toNat) (aan (by omega:(Û a k).toNat<2 ^ k) (aaN ŉ ŉ))];refine dI (aan (by have:=c.2;omega:2 ^ k+(Û a k).toNat<2 ^ (k+1)) (aaN ŉ ŉ))
  rw[ā hp,aaA]
theorem Zxy(a:M)(i:Fin 8):(jK a).toNat.testBit i.val=decide (0<a i):=by unfold jK;rw[Sh a 8 ŉ];simp[i.isLt]
theorem Uk(a:M):0<=jK a/\jK a<256:=Bb a 8
theorem VZ{a b:Nat}(c:a<256)(d:b<256):u8.wrap (BitVec.ofInt u8.bits (a:Int) ||| BitVec.ofInt u8.bits (b:Int)).toNat=((a ||| b:Nat):Int):=by
 have h:(BitVec.ofInt u8.bits (a:Int) ||| BitVec.ofInt u8.bits (b:Int)).toNat=a ||| b:=by rw[BitVec.toNat_or];simp only[IntKind.bits,BitVec.toNat_ofInt];rw[show(((a:Int) % ((2 ^ 8:Nat):Int)).toNat)=a by omega,show(((b:Int) % ((2 ^ 8:Nat):Int)).toNat)=b by omega]
 have h2:a ||| b<256:=Nat.or_lt_two_pow (n:=8) c d
 rw[h];simp only[IntKind.wrap,IntKind.bits,IntKind.signed,ŵ,ś,aaK];omega
def jM(p:Ŀ Za):Nat->Nat
 |0=>0
 |k+1=>jM p k ||| (match p[k]? with|some t=>(jK t.m).toNat|none=>0)
theorem L8(p:Ŀ Za):∀k,jM p k<256
 |0=>by simp[jM]
 |k+1=>by
  refine Nat.or_lt_two_pow (n:=8) (L8 p k) ?_;split
  .rename_i t _;have h:(jK t.m).toNat<256:=by have:=Uk t.m;omega
   exact h
  decide
theorem Sj(p:Ŀ Za):∀k,hW p k=(jM p k:Int)
 |0=>rfl
 |k+1=>by
  have a:=L8 p k;unfold hW jM;rw[Sj p k];cases p[k]? with
  |none=>exact VZ (b:=0) a ŉ
  |some t=>
   have h:=Uk t.m;obtain⟨n,c⟩:=aas h.1;show u8.wrap (BitVec.ofInt u8.bits (jM p k:Int) ||| BitVec.ofInt u8.bits (jK t.m)).toNat=((jM p k ||| (jK t.m).toNat:Nat):Int);rw[c];exact VZ a ŉ
theorem Td(p:Ŀ Za)(i:Fin 8):∀k,(jM p k).testBit i.val=(p.take k).any λt=>decide (0<t.m i)
 |0=>by simp[jM]
 |k+1=>by
  simp only[jM,Nat.testBit_or,Td p i k];cases h:p[k]? with
  |none=>
   have:p.length<=k:=aag.1 h;simp[ě this,ě (show p.length<=k+1 by omega)]
  |some t=>
   rw[List.take_add_one,h];simp[Zxy]
theorem Tf(p:Ŀ Za):ð p=(jM p p.length:Int):=Sj p _
theorem Te(p:Ŀ Za)(i:Fin 8):(ð p).toNat.testBit i.val=p.any λt=>decide (0<t.m i):=by rw[Tf,ē,Td,Ĥ]
theorem uf(p:Ŀ Za):0<=ð p/\ð p<256:=by have:=L8 p p.length;rw[Tf];omega
theorem Zyb(u n:Nat):Int.fdiv (u:Int) ((2:Int) ^ n)=((u >>> n:Nat):Int):=by rw[Ů,show((2:Int) ^ n)=((2 ^ n:Nat):Int) by simp,aae _ (Int.natCast_nonneg _)];simp
theorem ZvR(p:Ŀ Za){n:Int}(c:0<=n)(d:n<=8):Int.fdiv (i64.wrap (ð p)) (2 ^ (min (n).toNat i64.bits))=(((ð p).toNat >>> n.toNat:Nat):Int):=by have:=uf p;rw[wrap64 ŉ,show min n.toNat i64.bits=n.toNat by simp only[IntKind.bits];omega];obtain⟨u,a⟩:=aas this.1;rw[a];exact Zyb u _
theorem SN(p:Ŀ Za)(d:Int)(c:-1<=d):∀k,k<=p.length->(fI p k<=d↔∀i (h:i<p.length),i<k->fH p[i].m<=d)
 |0,_=>by simp[fI,c]
 |k+1,j=>by
  have f:=SN p d c k ŉ;have im:k<p.length:=ŉ;simp only[fI,Ą im];constructor
  .intro h i hi a;by_cases e:i=k
   .subst e;split at h<;>omega
   refine f.1 ?_ i hi ŉ;split at h<;>omega
  intro h;have g:=h k im ŉ;have h2:=f.2 λi hi a=>h i hi ŉ;split<;>omega
theorem tE{p:Ŀ Za}{d:Int}(a:-1<=d):gi p<=d↔∀t∈p,fH t.m<=d:=by
 unfold gi;rw[SN p d a p.length ŉ];constructor
 .intro h t c;obtain⟨i,hi,rfl⟩:=ķ.1 c;exact h i hi hi
 intro h i hi _;exact h _ (ă hi)
def lJ(n:Nat)(p:Ŀ Za):Prop:=∀t∈p,∀i:Fin 8,n<=i.val->¬0<t.m i
theorem yQ{p:Ŀ Za}{n:Nat}:((ð p).toNat >>> n=0)↔lJ n p:=by
 have e:=uf p;constructor
 .intro h t a i hi hp;have c:=Te p i;rw[show(p.any λt=>decide (0<t.m i))=true from dV.2 ⟨t,a,Ă hp⟩]at c;have h2:((ð p).toNat >>> n).testBit (i.val-n)=true:=by rw[Nat.testBit_shiftRight,show n+(i.val-n)=i.val by omega];exact c
  rw[h]at h2;simp at h2
 intro h;refine Nat.eq_of_testBit_eq λj=>?_;rw[Nat.testBit_shiftRight,Nat.zero_testBit];by_cases d:n+j<8
 .rw[Te p ⟨n+j,d⟩];refine List.any_eq_false.2 λt a=>?_;simp only[Ę];exact h t a _ ß
 exact dI (aan (show(ð p).toNat<2 ^ 8 by omega) (aaN ŉ ŉ))
theorem pC{p:Ŀ Za}{n:Nat}(a:n<=8):Ñ p (n:Int)=true↔lJ n p/\∀t∈p,fH t.m<=12:=by
 unfold Ñ;rw[ZvR p ŉ ŉ,ē];by_cases h:(ð p).toNat >>> n=0
 .rw[ą (by rw[h];rfl),Ę,tE ŉ];exact⟨λk=>⟨yQ.1 h,k⟩,λk=>k.2⟩
 rw[ā ŉ];exact⟨λk=>absurd k ĳ,λk=>absurd (yQ.2 k.1) h⟩
end Go.EL

namespace Go.EL
open Go.IntKind (i8 i16 i32 i64 u8 u16 u32 u64)
open Go Go.RowKit
def ju(r:Zf):Int:=if r.num.neg=true then -(r.num.χ.headD 0)else r.num.χ.headD 0
theorem Ln(c:Int):ju (þ c)=c:=by
 unfold ju þ;by_cases h:c<0
 .simp[h,show ¬c=0 by omega];omega
 by_cases a:c=0
 .simp[a]
 simp[h,a];omega
def gf:Ŀ Za->Za->Ŀ Za
 |[],t=>[t]
 |x::xs,t=>if 0<Ü x.m t.m then x::gf xs t else if Ü x.m t.m<0 then t::x::xs else if ju x.c+ju t.c=0 then xs else⟨þ (ju x.c+ju t.c),x.m⟩::xs
theorem Rl:∀(p:Ŀ Za) (t:Za),(gf p t).length<=p.length+1
 |[],_=>by simp[gf]
 |x::xs,t=>by
  have a:=Rl xs t;simp only[gf];split
  .simp;omega
  split
  .simp
  split<;>simp;omega
theorem K1:∀(k:Nat) (p:Ŀ Za) (t:Za),k<=p.length->(∀x∈p.take k,0<Ü x.m t.m)->gf p t=p.take k++gf (p.drop k) t
 |0,p,t,_,_=>by simp
 |k+1,[],t,h,_=>by simp at h
 |k+1,x::xs,t,h,a=>by have c:0<Ü x.m t.m:=a x ß;rw[gf,ą c,K1 k xs t (by simpa using h) (λy d=>a y (by simp[d]))];simp
def wS(p:Ŀ Za)(t:Za):Prop:=∀x∈p,x.m=t.m->∃a b,x.c=þ a/\t.c=þ b/\-12<=a/\a<=12/\-3<=b/\b<=3
theorem Zym{p:Ŀ Za}{t x:Za}(h:wS p t)(i:x∈p)(g:x.m=t.m):(vE x.c t.c).Α (þ (ju x.c+ju t.c))/\∃s,(oC (þ (ju x.c+ju t.c))).Α s/\(s=0↔ju x.c+ju t.c=0):=by
 obtain⟨a,b,c,d,e,h2,h3,f⟩:=h x i g;rw[c,d,Ln,Ln];have j:=Zq (Zq Zzi e h2) h3 f;have k2:=Zq F9 (x:=a+b) ŉ ŉ;refine⟨Zs j,_,Zs k2,?_⟩;split
 .omega
 split<;>omega
theorem ZsX{p:Ŀ Za}(d:p.length<=100):(Br p []).Α p:=by
 show(Cq.next _ _).wp _;refine Cq.Zn p.length (λk s=>s=(p.take k,(k:Int),0)) (λk s c a=>?_) (λs a=>?_) ß
 .subst a;refine Cq.wp.yes (p:=(k:Int)<(p.length:Int)) ŉ ?_;unfold xa;rw[Cq.Zm,ą ß];unfold vv;rw[Cq.Zm,ą rfl];refine⟨p[k],Ξ c,by simp[small];omega,?_⟩;show _=_;rw[ψ ŉ,Ţ c]
 subst a;show(if((p.length:Nat):Int)<(p.length:Int)then _ else _:Cq _).wp _;rw[Cq.Zm,ā ŉ,Cq.Zm,ā ß];exact Ĥ
theorem QM{p:Ŀ Za}{t:Za}(y:p.length<=100)(u:wS p t):(Br p [t]).Α (gf p t):=by
 show(Cq.next _ _).wp _;refine Cq.LP (λs=>(∃i:Nat,i<=p.length/\s=(p.take i,(i:Int),0)/\∀x∈p.take i,0<Ü x.m t.m)\/(∃i:Nat,∃f:Ŀ Za,i<=p.length/\s=(f,(i:Int),1)/\f++p.drop i=gf p t/\f.length<=i+1))
  (λs=>(p.length-s.2.1.toNat)+(1-s.2.2.toNat)) (λs v=>?_) _ (.inl ⟨0,ŉ,ß,ß⟩)
 have m:i64.wrap 1=1:=ĳ;rcases v with ⟨i,hi,rfl,k⟩|⟨i,f,hi,rfl,l,q⟩
 .by_cases a:i<p.length
  .refine Cq.wp.yes (p:=(i:Int)<(p.length:Int)) ŉ ?_;unfold xa;rw[Cq.Zm,ā ß,Cq.Zm,ą ŉ];refine⟨p[i],Ξ a,t,⟨ŉ,rfl⟩,_,Az _ _,?_⟩;unfold vv;rw[Cq.Zm];have d:gf p t=p.take i++gf (p.drop i) t:=K1 i p t hi k;have c:p.drop i=p[i]::p.drop (i+1):=ĭ a;by_cases g:0<Ü p[i].m t.m
   .rw[ą (Ă g)];refine⟨p[i],Ξ a,by simp[small];omega,?_⟩;rw[ψ ŉ,Ţ a];refine⟨.inl ⟨i+1,ŉ,rfl,λx qa=>?_⟩,ab0⟩;rw[<-Ţ a]at qa;rcases Ĩ.1 qa with h|h
    .exact k x h
    rw[Ĕ]at h;subst h;exact g
   rw[ā (by simpa using g)];show(AL p [t] 0 (p.take i) (i:Int)).wp _;unfold AL;rw[Cq.Zm,ā ŉ];refine⟨p[i],Ξ a,t,⟨ŉ,rfl⟩,_,Az _ _,?_⟩;unfold AK;rw[Cq.Zm];by_cases e:Ü p[i].m t.m<0
   .rw[ą (Ă e)];refine⟨t,⟨ŉ,rfl⟩,by simp[small];omega,?_⟩;refine⟨.inr ⟨i,_,hi,rfl,?_,ab0⟩,by simp[m]⟩;rw[d,c,gf,ā g,ą e];simp
   rw[ā (by simpa using e)];have r:p[i].m=t.m:=uh ŉ;obtain⟨n,s,h2,h3⟩:=Zym u (ă a) r;unfold Kw;refine⟨p[i],Ξ a,t,⟨ŉ,rfl⟩,_,n,s,h2,?_⟩;rw[Cq.Zm];by_cases j:ju p[i].c+ju t.c=0
   .rw[ā (by simpa using h3.2 j)];rw[ψ ŉ];refine⟨.inr ⟨i+1,_,ŉ,rfl,?_,ab0⟩,ab0⟩;rw[d,c,gf,ā g,ā e,ą j]
   rw[ą (λh=>j (h3.1 h))];refine⟨p[i],Ξ a,by simp[small];omega,?_⟩;rw[ψ ŉ];refine⟨.inr ⟨i+1,_,ŉ,rfl,?_,ab0⟩,ab0⟩;rw[d,c,gf,ā g,ā e,ā j];simp
  obtain rfl:i=p.length:=ŉ;show(if((p.length:Nat):Int)<(p.length:Int)then _ else _:Cq _).wp _;rw[Cq.Zm,ā ŉ,Cq.Zm,ą ß];unfold xa;rw[Cq.Zm,ā ß,Cq.Zm,ā ŉ];unfold vv;rw[Cq.Zm,ā ĳ];unfold AL;rw[Cq.Zm,ą rfl];unfold AK;rw[Cq.Zm,ą rfl];refine⟨t,⟨ŉ,rfl⟩,by simp[small];omega,?_⟩;refine⟨.inr ⟨p.length,_,ŉ,rfl,?_,ß⟩,by simp[m]⟩;rw[K1 p.length p t ŉ k,aaf];simp[gf]
 by_cases a:i<p.length
 .refine Cq.wp.yes (p:=(i:Int)<(p.length:Int)) ŉ ?_;unfold xa;rw[Cq.Zm,ą ß];unfold vv;rw[Cq.Zm,ą rfl];refine⟨p[i],Ξ a,by simp[small];omega,?_⟩;rw[ψ ŉ];refine⟨.inr ⟨i+1,_,ŉ,rfl,?_,ab0⟩,ab0⟩;rw[<-l,ĭ a];simp
 obtain rfl:i=p.length:=ŉ;show(if((p.length:Nat):Int)<(p.length:Int)then _ else _:Cq _).wp _;rw[Cq.Zm,ā ŉ,Cq.Zm,ā ß];show _=_;rw[<-l,aaf,ę]
end Go.EL

namespace Go.EL
open Go.IntKind (i8 i16 i32 i64 u8 u16 u32 u64)
open Go Go.RowKit
structure Ì (π:M):Prop where
 ow:∀i,0<=π i/\π i<8
 inj:∀i j,π i=π j->i=j
def ef(π m:M):Nat->M
 |0=>λ_=>0
 |k+1=>if h:k<8 then ζ (ef π m k) (π ⟨k,h⟩).toNat (m ⟨k,h⟩)else ef π m k
def fx(π m:M):M:=ef π m 8
theorem SZ{π:M}(h:Ì π)(m:M):∀k,k<=8->∀i:Fin 8,i.val<k->∀j:Fin 8,(j.val:Int)=π i->ef π m k j=m i
 |0,_,i,hi,_,_=>by omega
 |k+1,f,i,hi,j,c=>by
  have im:k<8:=ŉ;simp only[ef,Ŷ im,ζ];have r:=h.ow ⟨k,im⟩;by_cases e:i.val=k
  .have:i=⟨k,im⟩:=abd e;subst this;rw[ą ŉ]
  have d:π i≠π ⟨k,im⟩:=λa=>e (đ Fin.val (h.inj _ _ a));rw[ā ŉ];exact SZ h m k ŉ i ŉ j c
theorem RD{π:M}(h:Ì π)(m:M):∀k,k<=8->∀j:Fin 8,(∀i:Fin 8,i.val<k->π i≠(j.val:Int))->ef π m k j=0
 |0,_,_,_=>rfl
 |k+1,c,j,a=>by have im:k<8:=ŉ;have r:=h.ow ⟨k,im⟩;have:=a ⟨k,im⟩ ß;simp only[ef,Ŷ im,ζ];rw[ā ŉ];exact RD h m k ŉ j λi hi=>a i ŉ
theorem Ll{π m:M}(a:Ok m):∀k,Ok (ef π m k)
 |0=>λ_=>by simp[ef]
 |k+1=>λj=>by
  simp only[ef];split
  .rename_i c;simp only[ζ];split
   .exact a _
   exact Ll a k j
  exact Ll a k j
theorem T8{π m:M}(a:Ok m):Ok (fx π m):=Ll a 8
theorem ue{π:M}(h:Ì π)(m:M)(i j:Fin 8)(a:(j.val:Int)=π i):fx π m j=m i:=SZ h m 8 ŉ i i.isLt j a
theorem Lk{π:M}(h:Ì π){a b:M}(e:fx π a=fx π b):a=b:=by funext i;have r:=h.ow i;have c:=ue h a i ⟨(π i).toNat,ŉ⟩ ab0;have h2:=ue h b i ⟨(π i).toNat,ŉ⟩ ab0;rw[<-c,<-h2,e]
theorem K6(f:M)(x:Int)(q:Nat):∀k,k<=8->fD (ζ f q x) k=fD f k+(if h:q<8 then(if q<k then x-f ⟨q,h⟩else 0)else 0)
 |0,_=>by simp[fD]
 |k+1,d=>by
  have im:k<8:=ŉ;simp only[fD,Ŷ im,K6 f x q k ŉ,ζ];by_cases e:k=q
  .subst e;simp[im];omega
  rw[ā e];by_cases a:q<8
  .simp only[Ŷ a];by_cases c:q<k
   .rw[ą c,ą ŉ];omega
   rw[ā c,ā ŉ];omega
  simp only[dif_neg a];omega
theorem K5{π:M}(h:Ì π)(m:M):fH (fx π m)=fH m:=by
 have key:∀k,k<=8->fH (ef π m k)=fD m k:=by
  intro k;induction k with
  |zero=>intro _;simp[ef,fH,fD]
  |succ k c=>
   intro e;have im:k<8:=ŉ;have r:=h.ow ⟨k,im⟩;have a:(π ⟨k,im⟩).toNat<8:=ŉ;simp only[ef,Ŷ im,fD];unfold fH at c⊢;rw[K6 _ _ _ 8 ŉ,Ŷ a,ą a,c ŉ];have:ef π m k ⟨(π ⟨k,im⟩).toNat,a⟩=0:=RD h m k ŉ _ λi hi d=>by
    have:π i=π ⟨k,im⟩:=by simp at d;omega
    have:=đ Fin.val (h.inj _ _ this);simp at this;omega
   rw[this];omega
 exact key 8 ŉ
theorem Zxe{π:M}(h:Ì π)(x:Za):(Ph π x (0,λ_=>0)).Α (fx π x.m):=by
 refine Cq.Zn 8 (λk s=>s=((k:Int),ef π x.m k)) (λk s a c=>?_) (λs c=>?_) rfl
 .subst c;have r:=h.ow ⟨k,a⟩;refine Cq.wp.yes (p:=(k:Int)<8) ŉ ?_;refine⟨ŉ,ŉ,by rw[Ö a];exact r,?_⟩;show _=_;rw[ψ ŉ,Ö a,Ö a];simp only[ef,Ŷ a]
 subst c;refine Cq.wp.no (p:=((8:Nat):Int)<8) ŉ ?_;rfl
theorem ZvH{π:M}(h:Ì π){p:Ŀ Za}{k:Nat}(d:k<p.length):(PJ p π (k:Int) (0,λ_=>0)).Α (fx π p[k].m):=by
 refine Cq.Zn 8 (λj s=>s=((j:Int),ef π p[k].m j)) (λj s a c=>?_) (λs c=>?_) rfl
 .subst c;have r:=h.ow ⟨j,a⟩;refine Cq.wp.yes (p:=(j:Int)<8) ŉ ?_;refine⟨ŉ,p[k],Ξ d,ŉ,by rw[Ö a];exact r,?_⟩;show _=_;rw[ψ ŉ,Ö a,Ö a];simp only[ef,Ŷ a]
 subst c;refine Cq.wp.no (p:=((8:Nat):Int)<8) ŉ ?_;rfl
theorem Gn{π:M}(h:Ì π){k:Nat}(a:k<8){c:Fin 8->Bool}(d:∀j,c j=true->∃i:Fin 8,i.val<k/\(j.val:Int)=π i):¬Θ c (π ⟨k,a⟩)=true:=by
 have r:=h.ow ⟨k,a⟩;rw[zo c (show(π ⟨k,a⟩).toNat<8 by omega)];intro e;obtain⟨i,f,h2⟩:=d _ e;have:π i=π ⟨k,a⟩:=by simp at h2;omega
 have:=đ Fin.val (h.inj _ _ this);simp at this;omega
theorem Fv{π:M}(h:Ì π){k:Nat}(c:k<8){d:Fin 8->Bool}(e:∀j,d j=true->∃i:Fin 8,i.val<k/\(j.val:Int)=π i):∀j,ζ d (π ⟨k,c⟩).toNat true j=true->∃i:Fin 8,i.val<k+1/\(j.val:Int)=π i:=by
 intro j a;have r:=h.ow ⟨k,c⟩;simp only[ζ]at a;split at a
 .exact⟨⟨k,c⟩,ß,ŉ⟩
 obtain⟨i,f,h2⟩:=e j a;exact⟨i,ŉ,h2⟩
theorem ZkS{π:M}(h:Ì π):(Ji π).Α true:=by
 show(Cq.next _ _).wp _;refine Cq.Zn 8 (λk s=>∃a:Fin 8->Bool,s=((k:Int),a)/\∀j,a j=true->∃i:Fin 8,i.val<k/\(j.val:Int)=π i) (λk s c e=>?_) (λs e=>?_) ⟨_,rfl,λj f=>by cases f⟩
 .obtain⟨a,rfl,d⟩:=e;have r:=h.ow ⟨k,c⟩;refine Cq.wp.yes (p:=(k:Int)<8) ŉ ?_;refine⟨ŉ,?_⟩;rw[Ö c,Cq.Zm,ā ŉ];refine⟨ŉ,?_⟩;rw[Cq.Zm,ā ŉ];refine⟨ŉ,r,?_⟩;rw[Cq.Zm,ā (Gn h c d)];refine⟨ŉ,r,?_⟩;rw[ψ ŉ];exact⟨_,rfl,Fv h c d⟩
 obtain⟨a,rfl,d⟩:=e;refine Cq.wp.no (p:=((8:Nat):Int)<8) ŉ ?_;rfl
end Go.EL

namespace Go.EL
open Go.IntKind (i8 i16 i32 i64 u8 u16 u32 u64)
open Go Go.RowKit
def jn(π:M)(t:Za):Za:=⟨t.c,fx π t.m⟩
def gA(π:M)(l:Ŀ Za):Ŀ Za:=l.foldl (λa t=>gf a (jn π t)) []
def à(π:M)(p:Ŀ Za):Ŀ Za:=gA π p
theorem ZxW{p:Ŀ Za}{t:Za}:(∀x∈p,x.m≠t.m)->(gf p t).Perm (t::p):=by
 induction p with
 |nil=>intro _;exact u1 _
 |cons x xs d=>
  intro h;have a:=h x ß;simp only[gf];split
  .exact ((d λy c=>h y (by simp[c])).cons x).trans (List.Perm.swap _ _ _)
  split
  .exact u1 _
  exact absurd (uh ŉ) a
theorem ZpF{a b c:M}(d:0<Ü a b)(h2:0<Ü b c):0<Ü a c:=by have e:=tZ a b;have k2:=tZ b c;have k3:=tZ a c;have:=JH (a:=c) (b:=b) (c:=a) ŉ ŉ (.inl ŉ);omega
abbrev jx(p:Ŀ Za):Prop:=p.Pairwise λx y=>0<Ü x.m y.m
theorem SA{p:Ŀ Za}{t:Za}:jx p->jx (gf p t)/\∀z,(∀x∈p,0<Ü z x.m)->0<Ü z t.m->∀y∈gf p t,0<Ü z y.m:=by
 induction p with
 |nil=>intro _;exact⟨by simp[gf],λz _ h y a=>by simp[gf]at a;subst a;exact h⟩
 |cons x xs l=>
  intro g;obtain⟨e,h2⟩:=Į.1 g;obtain⟨k,i⟩:=l h2;simp only[gf];split
  .rename_i f;refine⟨Į.2 ⟨i _ e f,k⟩,λz c d y a=>?_⟩;rcases Ď.1 a with rfl|a
   .exact c _ ß
   exact i z (λw j=>c w (by simp[j])) d y a
  split
  .rename_i f;have nK:0<Ü t.m x.m:=by have:=tZ x.m t.m;omega
   refine⟨Į.2 ⟨λy a=>?_,g⟩,λz c d y a=>?_⟩
   .rcases Ď.1 a with rfl|a
    .exact nK
    exact ZpF nK (e y a)
   rcases Ď.1 a with rfl|a
   .exact d
   exact c y a
  split
  .exact⟨h2,λz c _ y a=>c y (by simp[a])⟩
  refine⟨Į.2 ⟨e,h2⟩,λz c _ y a=>?_⟩;rcases Ď.1 a with rfl|a
  .exact c x ß
  exact c y (by simp[a])
theorem QQ(π:M)(l:Ŀ Za)(t:Za):gA π (l++[t])=gf (gA π l) (jn π t):=by simp[gA,abf]
theorem Fj{p:Ŀ Za}(h:jx p):p.Pairwise λx y=>x.m≠y.m:=h.imp λhp e=>by rw[e,A2]at hp;omega
theorem KR{π:M}(h:Ì π){p:Ŀ Za}(d:jx p):∀k,k<=p.length->(gA π (p.take k)).Perm ((p.take k).map (jn π))/\jx (gA π (p.take k))
 |0,_=>by simp[gA]
 |k+1,l=>by
  obtain⟨c,h2⟩:=KR h d k ŉ;have im:k<p.length:=ŉ;rw[<-Ţ im,QQ];refine⟨?_,(SA h2).1⟩;have a:∀x∈gA π (p.take k),x.m≠(jn π p[k]).m:=by intro x g e;obtain⟨y,j,rfl⟩:=Ğ.1 (c.mem_iff.1 g);have f:=Lk h e;obtain⟨i,hi,rfl⟩:=ķ.1 j;simp only[Č]at hi;rw[aad]at f;exact ħ.1 (Fj d) i k ŉ im ŉ f
  refine(ZxW a).trans ?_;rw[Ī];exact(c.cons _).trans (List.perm_append_comm (l₁:=[jn π p[k]]))
theorem rl{π:M}(h:Ì π){p:Ŀ Za}(a:jx p):(à π p).Perm (p.map (jn π))/\jx (à π p):=by have:=KR h a p.length ŉ;rwa [Ĥ]at this
theorem oF{π:M}(h:Ì π){p:Ŀ Za}(hp:ω p):ω (à π p):=by obtain⟨a,h2⟩:=rl h hp.ord;refine⟨h2,λt d=>?_,by rw[a.length_eq,ć];exact hp.len⟩;obtain⟨y,c,rfl⟩:=Ğ.1 (a.mem_iff.1 d);exact⟨(hp.ts y c).c,T8 (hp.ts y c).m⟩
theorem Jo{π:M}(h:Ì π){p:Ŀ Za}(hp:ω p):(AA p π).Α (à π p,0):=by
 have l:=hp.len;refine⟨true,ZkS h,?_⟩;show(Cq.next _ _).wp _;refine Cq.Zn p.length (λk s=>s=(gA π (p.take k),(k:Int))) (λk s a c=>?_) (λs c=>?_) (by simp[gA])
 .subst c;obtain⟨d,h2⟩:=KR h hp.ord k ŉ;refine Cq.wp.yes (p:=(k:Int)<(p.length:Int)) ŉ ?_;refine(ZvH h a).then ?_;refine⟨p[k],Ξ a,_,QM (by rw[d.length_eq,ć,Č];omega) (λx g e=>?_),?_⟩
  .obtain⟨y,j,rfl⟩:=Ğ.1 (d.mem_iff.1 g);have f:=Lk h e;obtain⟨i,hi,rfl⟩:=ķ.1 j;simp only[Č]at hi;rw[aad]at f;exact absurd f (ħ.1 (Fj hp.ord) i k ŉ a ŉ)
  show _=_;rw[ψ ŉ,<-Ţ a,QQ];rfl
 subst c;refine Cq.wp.no (p:=((p.length:Nat):Int)<(p.length:Int)) ŉ ?_;show _=_;rw[Ĥ];rfl
end Go.EL

namespace Go.EL
open Go.IntKind (i8 i16 i32 i64 u8 u16 u32 u64)
open Go Go.RowKit
theorem ZzS:(á 0 100 λn=>match(tW (u64.wrap n)).ev 30 with|some v=>decide (0<=v/\v<1000000)|none=>false)=true:=by decide +kernel
theorem ZzT{n:Nat}(h:n<=100):∃v,(tW (u64.wrap (n:Int))).Α v/\0<=v/\v<1000000:=by
 have:=Zq ZzS (x:=(n:Int)) ŉ ŉ;split at this
 .rename_i v a;have:=ĥ this;exact⟨v,Cq.Α.mm 30 a,this.1,this.2⟩
 cases this
theorem Zzq{p:Ŀ Za}(h:jx p){x y:Za}(d:x∈p)(f:y∈p)(e:x.m=y.m):x=y:=by
 obtain⟨i,hi,rfl⟩:=ķ.1 d;obtain⟨j,c,rfl⟩:=ķ.1 f;have key:=ħ.1 (Fj h);rcases aau i j with a|a|a
 .exact absurd e (key i j hi c a)
 .subst a;rfl
 exact absurd e.symm (key j i c hi a)
theorem SO{p:Ŀ Za}(h:jx p):p.Pairwise λx y=>¬Ü x.m y.m<0:=h.imp λhp=>by omega
theorem Sg{p ys:Ŀ Za}(c:jx p)(hp:ys.Perm p)(f:ys.Pairwise λx y=>¬Ü x.m y.m<0):ys=p:=
 abl (le:=λx y:Za=>¬Ü x.m y.m<0) (λa b d e g h2=>by
  have:=tZ a.m b.m;exact Zzq c (hp.mem_iff.1 d) e (uh ŉ)) f (SO c) hp
theorem Zrg{p l:Ŀ Za}(c:jx p)(f:p.length<=100)(hp:l.Perm p):(ZK l).Α p:=by have e:=hp.length_eq;obtain⟨v,a,h2,h3⟩:=ZzT (n:=l.length) ŉ;refine⟨v,a,p,?_,rfl⟩;refine⟨⟨rfl,rfl,⟨h2,h3⟩,ŉ⟩,λys ⟨d,k2⟩=>?_⟩;exact Sg c (d.trans hp) k2
def kX(q:M×Zf):Za:=⟨q.2,q.1⟩
theorem ZvT{p:Ŀ Za}(hp:ω p){D:Ŀ (M×Zf)}(j:(D.map kX).Perm p):(Jl D).Α p:=by
 have l:=hp.len;have e:=j.length_eq;rw[ć]at e;refine⟨⟨ŉ,ŉ⟩,?_⟩;show(Cq.next _ _).wp _;refine Cq.LP (λs=>(s.1++s.2.map kX).Perm p) (λs=>s.2.length) (λs d=>?_) _ (by simpa using j);obtain⟨rv,R⟩:=s;simp only at d;have c:=d.length_eq;simp only[Ā,ć]at c;refine⟨λi=>?_,λg q h i=>?_⟩
 .subst i;rw[Œ,ę]at d;exact⟨_,Zrg hp.ord l d,rfl⟩
 subst i;have f:kX q∈p:=d.mem_iff.1 ß;obtain⟨s,k,h2⟩:=(hp.ts _ f).ps;refine⟨s,k,?_⟩;rw[Cq.Zm,ą h2];simp only[Ā,Ě]at c;refine⟨by simp[small];omega,?_,?_⟩
 .refine List.Perm.trans ?_ d;simp only[Ī,ġ,Đ,List.singleton_append];refine List.Perm.append_left rv ?_;exact(List.perm_middle (a:=kX q) (l₁:=g.map kX) (l₂:=h.map kX)).symm
 show(g++h).length<(g++q::h).length;simp
theorem ZBh{m:M}(h:Ok m):∀i,(Lit.int i64 (m i)).wf=true:=λi=>by have:=h i;simp only[Lit.wf,Ĉ,Ę];exact⟨dO ĳ this.1,dO this.2 ĳ⟩
def sP(π:M)(t:Za):M×Zf:=(fx π t.m,t.c)
theorem QF{π:M}(h:Ì π){p:Ŀ Za}(hp:ω p):(D9 p π).Α (à π p,0):=by
 have u:=hp.len;show(Cq.next _ _).wp _;refine Cq.Zn 8 (λk s=>∃f:Fin 8->Bool,s=((k:Int),f)/\∀j,f j=true->∃i:Fin 8,i.val<k/\(j.val:Int)=π i) (λk s a d=>?_) (λs d=>?_) ⟨_,rfl,λj m=>by cases m⟩
 .obtain⟨f,rfl,g⟩:=d;have r:=h.ow ⟨k,a⟩;refine Cq.wp.yes (p:=(k:Int)<8) ŉ ?_;refine⟨ŉ,?_⟩;rw[Ö a,Cq.Zm,ā ŉ,Cq.Zm,ā ŉ];refine⟨r,?_⟩;rw[Cq.Zm,ā (Gn h a g)];refine⟨r,?_⟩;rw[ψ ŉ];exact⟨_,rfl,Fv h a g⟩
 obtain⟨f,rfl,g⟩:=d;refine Cq.wp.no (p:=((8:Nat):Int)<8) ŉ ?_;show(Pj p π).wp _;show(Cq.next _ _).wp _;refine Cq.Zn p.length (λk s=>s=((k:Int),(p.take k).map (sP π))) (λk s a d=>?_) (λs d=>?_) ß
 .subst d;refine Cq.wp.yes (p:=(k:Int)<(p.length:Int)) ŉ ?_;refine⟨p[k],Ξ a,?_⟩;refine(Zxe h p[k]).then ?_;have c:eT ((p.take k).map (sP π)) (fx π p[k].m) p[k].c=(p.take (k+1)).map (sP π):=by
   rw[F4,<-Ţ a,Ī]
   .rfl
   intro q n e;obtain⟨y,t,rfl⟩:=Ğ.1 n;have l:=Lk h e;obtain⟨i,hi,rfl⟩:=ķ.1 t;simp only[Č]at hi;rw[aad]at l;exact ħ.1 (Fj hp.ord) i k ŉ a ŉ l
  refine⟨⟨ZBh (T8 (hp.at a).m),?_⟩,?_⟩
  .rw[c,ć,Č];simp only[small];omega
  show _=_;rw[c,ψ ŉ]
 subst d;refine Cq.wp.no (p:=((p.length:Nat):Int)<(p.length:Int)) ŉ ?_;refine⟨à π p,ZvT (oF h hp) ?_,rfl⟩;rw[Ĥ,aaa];exact(rl h hp.ord).1.symm
end Go.EL

namespace Go.EL
open Go.IntKind (i8 i16 i32 i64 u8 u16 u32 u64)
open Go Go.RowKit
theorem Tg{n:Int}(a:-8<=n)(h2:n<=8):(ZX n).Α (þ n):=Zs (Zq ZxG a h2)
theorem mul_zero(m:M):mulM (λ_=>0) m=m:=by funext i;simp[mulM]
theorem Zwb{c:Int}(g:-3<=c)(h2:c<=3){m:M}(f:Ok m):(Ld (þ c) [⟨þ 1,m⟩]).Α (if c=0 then[]else[⟨þ c,m⟩]):=by
 have d:=Zs (Zq F9 (x:=c) ŉ ŉ);by_cases e:c=0
 .subst e;rw[ą rfl];refine⟨([],0),⟨_,d,?_⟩,rfl⟩;rw[Cq.Zm,ą ĳ];rfl
 rw[ā e];refine⟨([⟨þ c,m⟩],0),⟨_,d,?_⟩,rfl⟩;rw[Cq.Zm,ā (by split<;>first|omega|(split<;>omega))];show(Cq.next _ _).wp _;refine Cq.Zn 1 (λk s=>s=((if k=0 then[]else[⟨þ c,m⟩]),(k:Int))) (λk s i d=>?_) (λs d=>?_) rfl
 .obtain rfl:k=0:=ŉ;subst d;refine⟨⟨þ 1,m⟩,⟨ŉ,rfl⟩,(m,0),?_,?_⟩
  .have:=QI (a:=λ_=>0) (b:=m) (λ_=>⟨Ō 0,show(0:Int)<=65535 by decide⟩) f (by rw[mul_zero];exact f);rwa [mul_zero]at this
  rw[Cq.Zm,ā (λh=>h rfl)];exact⟨⟨þ 1,m⟩,⟨ŉ,rfl⟩,_,Zs (Zq ZzY g h2),by simp[small],rfl⟩
 subst d;rfl
def jg(x:Zu):Prop:=∀v∈x.t,∀j:Fin 5,-128<=v j/\v j<=127
structure gM (K:Int) (n:Nat) (d:Int) (k:Nat) (p:Ŀ Za):Prop where
 ord:jx p
 BQ:∀t∈p,∃c:Int,t.c=þ c/\c≠0/\-K<=c/\c<=K
 yg:∀t∈p,(∀i,0<=t.m i)/\(∀i:Fin 8,n<=i.val->t.m i=0)/\fH t.m<=d
 len:p.length<=k
theorem LN{m:M}(h:∀i,0<=m i):∀k,k<=8->0<=fD m k/\∀i:Fin 8,i.val<k->m i<=fD m k
 |0,_=>by simp[fD]
 |k+1,c=>by
  obtain⟨a,h2⟩:=LN h k ŉ;have im:k<8:=ŉ;have:=h ⟨k,im⟩;simp only[fD,Ŷ im];refine⟨ŉ,λi hi=>?_⟩;by_cases e:i.val=k
  .have:i=⟨k,im⟩:=abd e;subst this;omega
  have:=h2 i ŉ;omega
theorem SS{m:M}(h:∀i,0<=m i){d:Int}(a:fH m<=d)(h2:d<=65535):Ok m:=λi=>by have:=(LN h 8 ŉ).2 i i.isLt;unfold fH at a;exact⟨h i,ŉ⟩
theorem gM.ia{K:Int}{n:Nat}{d:Int}{k:Nat}{p:Ŀ Za}(h:gM K n d k p)(i:K<=12)(j:d<=100)(l:k<=100):ω p:=
 ⟨h.ord,λt a=>⟨by obtain⟨c,e,f,g,h2⟩:=h.BQ t a;exact⟨c,e,f,ŉ,ŉ⟩,SS (h.yg t a).1 (h.yg t a).2.2 ŉ⟩,by have:=h.len;omega⟩
theorem TP{p:Ŀ Za}{t y:Za}:y∈gf p t->y∈p\/y=t\/∃x∈p,x.m=t.m/\ju x.c+ju t.c≠0/\y=⟨þ (ju x.c+ju t.c),x.m⟩:=by
 induction p with
 |nil=>intro h;simp[gf]at h;exact .inr (.inl h)
 |cons x xs e=>
  intro h;simp only[gf]at h;split at h
  .rcases Ď.1 h with rfl|h
   .exact .inl ß
   rcases e h with h|h|⟨z,c,h2⟩
   .exact .inl (by simp[h])
   .exact .inr (.inl h)
   exact .inr (.inr ⟨z,by simp[c],h2⟩)
  split at h
  .rcases Ď.1 h with rfl|h
   .exact .inr (.inl rfl)
   exact .inl h
  have d:x.m=t.m:=uh ŉ;split at h
  .exact .inl (by simp[h])
  rename_i a;rcases Ď.1 h with rfl|h
  .exact .inr (.inr ⟨x,ß,d,a,rfl⟩)
  exact .inl (by simp[h])
theorem gM.add{K:Int}{n:Nat}{d:Int}{k:Nat}{p:Ŀ Za}(h:gM K n d k p){c:Int}{m:M}(y:0<=K)(r:c≠0)(v:-3<=c)(h2:c<=3)(s:(∀i,0<=m i)/\(∀i:Fin 8,n<=i.val->m i=0)/\fH m<=d):
  gM (K+3) n d (k+1) (gf p ⟨þ c,m⟩):=by
 refine⟨(SA h.ord).1,λt g=>?_,λt g=>?_,by have:=Rl p ⟨þ c,m⟩;have:=h.len;omega⟩
 .rcases TP g with g|rfl|⟨x,j,l,f,rfl⟩
  .obtain⟨a,e,q,u,k2⟩:=h.BQ t g
   exact⟨a,e,q,ŉ,ŉ⟩
  .exact⟨c,rfl,r,ŉ,ŉ⟩
  obtain⟨a,e,q,u,k2⟩:=h.BQ x j
  simp only[Ln,e]at f⊢
  exact⟨a+c,rfl,f,ŉ,ŉ⟩
 rcases TP g with g|rfl|⟨x,j,l,f,rfl⟩
 .exact h.yg t g
 .exact s
 exact h.yg x j
theorem gM.grow{K K':Int}{n:Nat}{d:Int}{k k':Nat}{p:Ŀ Za}(h:gM K n d k p)(g:K<=K')(h2:k<=k'):gM K' n d k' p:=
 ⟨h.ord,λt c=>by obtain⟨a,e,f,i,k2⟩:=h.BQ t c;exact⟨a,e,f,ŉ,ŉ⟩,h.yg,by have:=h.len;omega⟩
theorem gM.Od{K:Int}{n:Nat}{d:Int}{k:Nat}{p:Ŀ Za}(h:gM K n d k p)(i:K<=12){c:Int}{m:M}(f:-3<=c)(h2:c<=3):wS p ⟨þ c,m⟩:=λx g _=>by obtain⟨a,e,j,l,k2⟩:=h.BQ x g;exact⟨a,c,e,rfl,ŉ,ŉ,f,h2⟩
def nS(n:Int):Int:=if n<0 then -n else n
theorem Zzh{n:Int}(a:-128<=n)(h2:n<=127):(Gf n).Α (nS n):=by
 unfold Gf nS;by_cases h:n<0
 .rw[ą h,ą h];show _=_;simp(disch:=omega) only[wrap64];omega
 rw[ā h,ā h];exact wrap64 ŉ
theorem Bq{a b:Int}(c:0<=a)(d:0<b):0<=Int.tmod a b/\Int.tmod a b<b:=by rw[ŕ c];exact⟨Int.emod_nonneg _ ŉ,Int.emod_lt_of_pos _ d⟩
theorem DI{a:Int}(c:-128<=a)(h2:a<=127):-3<=Int.tmod a 4/\Int.tmod a 4<=3:=by
 by_cases h:0<=a
 .have:=Bq (b:=4) h ŉ;omega
 have:=Bq (a:=-a) (b:=4) ŉ ŉ;rw[Int.neg_tmod]at this;omega
def gm(v:Fin 5->Int)(d:Int):Nat->Int×M
 |0=>(d,λ_=>0)
 |j+1=>((gm v d j).1-Int.tmod (nS (Θ v ((j+1:Nat):Int))) ((gm v d j).1+1),ζ (gm v d j).2 j (Int.tmod (nS (Θ v ((j+1:Nat):Int))) ((gm v d j).1+1)))
theorem L3{v:Fin 5->Int}{d:Int}(a:0<=d):∀j,j<=4->0<=(gm v d j).1/\(∀i,0<=(gm v d j).2 i)/\(∀i:Fin 8,j<=i.val->(gm v d j).2 i=0)/\fH (gm v d j).2+(gm v d j).1=d
 |0,_=>⟨a,λ_=>Ō 0,λ_ _=>rfl,by simp[gm,fH,fD]⟩
 |j+1,h=>by
  obtain⟨g,c,h2,h3⟩:=L3 (v:=v) a j ŉ;have e:0<=nS (Θ v ((j+1:Nat):Int)):=by unfold nS;split<;>omega
  have f:=Bq e (show 0<(gm v d j).1+1 by omega);simp only[gm];refine⟨ŉ,λi=>?_,λi hi=>?_,?_⟩
  .simp only[ζ];split
   .exact f.1
   exact c i
  .simp only[ζ];rw[ā ŉ];exact h2 i ŉ
  unfold fH at h3⊢;rw[K6 _ _ _ 8 ŉ,Ŷ ŉ,ą ŉ,h2 _ ß];omega
def q0(v:Fin 5->Int)(d:Int)(n:Nat):M:=(gm v d n).2
theorem Vm{v:Fin 5->Int}{d:Int}(c:0<=d){n:Nat}(e:n<=4):(∀i,0<=q0 v d n i)/\(∀i:Fin 8,n<=i.val->q0 v d n i=0)/\fH (q0 v d n)<=d:=by obtain⟨f,a,h2,h3⟩:=L3 (v:=v) c n e;exact⟨a,h2,by unfold q0;omega⟩
theorem ZvZ{x:Zu}(t:jg x){n:Nat}(D:n<=4){d:Int}(c:0<=d)(A:d<=100){k:Nat}(m:k<x.t.length):
  (QO x (n:Int) (k:Int) (d,0,λ_=>0)).Α (q0 x.t[k] d n):=by
 refine Cq.Zn n (λj s=>s=((gm x.t[k] d j).1,(j:Int),(gm x.t[k] d j).2)) (λj s B g=>?_) (λs g=>?_) rfl
 .subst g
  obtain⟨u,q,h2,h3⟩:=L3 (v:=x.t[k]) c j ŉ
  have y:=(LN q 8 ŉ).1
  have f:j<8:=ŉ
  have hr:=t _ (ă m)
  show(if(j:Int)<(n:Int)then _ else _:Cq _).wp _
  rw[Cq.Zm,ą ŉ,Cq.Zm,ą ŉ]
  have r:i64.wrap (1+(j:Int))=((j+1:Nat):Int):=by rw[wrap64 ŉ];omega
  have i:i64.wrap ((gm x.t[k] d j).1+1)=(gm x.t[k] d j).1+1:=wrap64 (by unfold fH at h3;omega)
  rw[r,i]
  have l:Θ x.t[k] ((j+1:Nat):Int)=x.t[k] ⟨j+1,ŉ⟩:=zo _ ab0
  have C:=Bq (a:=nS (Θ x.t[k] ((j+1:Nat):Int))) (b:=(gm x.t[k] d j).1+1) (by unfold nS;split<;>omega) ŉ
  refine⟨x.t[k],Ξ m,ŉ,_,Zzh (by rw[l];exact(hr _).1) (by rw[l];exact(hr _).2),ŉ,ŉ,ŉ,?_⟩
  show _=_
  have h:∀e:Int,Θ (ζ (gm x.t[k] d j).2 (j:Int).toNat e) (j:Int)=e:=λe=>by rw[Ö f];simp[ζ]
  rw[h,ψ ŉ,wrap64 (by unfold fH at h3;omega)]
  rfl
 subst g
 refine Cq.wp.no (p:=(n:Int)<(n:Int)) ŉ ?_
 rfl
def gQ(x:Zu)(n:Nat)(d:Int):Nat->Ŀ Za
 |0=>[]
 |k+1=>match x.t[k]? with
  |some v=>if Int.tmod (Θ v 0) 4=0 then gQ x n d k else gf (gQ x n d k) ⟨þ (Int.tmod (Θ v 0) 4),q0 v d n⟩
  |none=>gQ x n d k
theorem C9{x:Zu}(c:jg x){v:Fin 5->Int}(a:v∈x.t):-3<=Int.tmod (Θ v 0) 4/\Int.tmod (Θ v 0) 4<=3:=by have:=c v a 0;rw[zo v ĳ];exact DI this.1 this.2
theorem KW{x:Zu}(g:jg x){n:Nat}(f:n<=4){d:Int}(e:0<=d):∀k:Nat,gM (3*k) n d k (gQ x n d k)
 |0=>⟨List.Pairwise.nil,λt a=>by simp[gQ]at a,λt a=>by simp[gQ]at a,by simp[gQ]⟩
 |k+1=>by
  have c:=KW g f e k;simp only[gQ];split
  .rename_i v i;have hr:=C9 g (ń i);split
   .exact c.grow ŉ ŉ
   rename_i h;exact(c.add ŉ h hr.1 hr.2 (Vm e f)).grow ŉ ŉ
  exact c.grow ŉ ŉ
def iF(x:Zu)(n:Nat)(d:Int)(k:Nat):Ŀ Za:=gQ x n d (min k x.t.length)
theorem Zyk{x:Zu}(e:jg x){n:Nat}(c:n<=4){d:Int}(a:0<=d)(k:Nat):gM (3*k) n d k (iF x n d k):=(KW e c a _).grow ŉ ŉ
theorem Ly{x:Zu}(g:jg x){n:Nat}(e:n<=4){d:Int}(a:0<=d)(p:d<=100){k:Nat}(t:k<=4):(Bh x (n:Int) d (k:Int)).Α (iF x n d k):=by
 refine Cq.Zn (min k x.t.length) (λj s=>s=(gQ x n d j,(j:Int))) (λj s r f=>?_) (λs f=>?_) rfl
 .subst f;have kl:j<x.t.length:=ŉ;have m:=KW g e a j;have hr:=C9 g (ă kl);show(if(j:Int)<(x.t.length:Int)then _ else _:Cq _).wp _;rw[Cq.Zm,ą ŉ,Cq.Zm,ą ŉ];show(Cq.next _ _).wp _;refine(ZvZ g e a p kl).then ?_;have q:i64.wrap (Int.tmod (Θ x.t[j] 0) 4)=Int.tmod (Θ x.t[j] 0) 4:=wrap64 ŉ;have l:=Vm (v:=x.t[j]) a e;refine⟨x.t[j],Ξ kl,_,(by rw[q];exact Tg ŉ ŉ),_,Tg ŉ ŉ,_,Zwb hr.1 hr.2 (SS l.1 l.2.2 ŉ),?_⟩;have i:=m.len;by_cases c:Int.tmod (Θ x.t[j] 0) 4=0
  .rw[ą c];refine⟨_,ZsX ŉ,?_⟩;show _=_;rw[ψ ŉ];simp only[gQ,Ą kl,ą c]
  rw[ā c];refine⟨_,QM ŉ (m.Od ŉ hr.1 hr.2),?_⟩;show _=_;rw[ψ ŉ];simp only[gQ,Ą kl,ā c]
 subst f;show(if((min k x.t.length:Nat):Int)<(x.t.length:Int)then _ else _:Cq _).wp _;by_cases h:min k x.t.length<x.t.length
 .rw[Cq.Zm,ą ŉ,Cq.Zm,ā ŉ];rfl
 rw[Cq.Zm,ā ŉ];rfl
end Go.EL

namespace Go.EL
open Go.IntKind (i8 i16 i32 i64 u8 u16 u32 u64)
open Go Go.RowKit
theorem qJ{x:Int}(h:0<=x/\x<18446744073709551616):u64.wrap x=x:=by simp only[IntKind.wrap,IntKind.bits,IntKind.signed,ŵ,ś,aaK];omega
def uP(x:Int):Ŀ Int:=if x=0 then[]else[x]
def ä(n:Int):Zg:=⟨decide (n<0),uP (n.natAbs:Int)⟩
theorem ZyC(n:Int):þ n=⟨ä n,⟨false,[1]⟩⟩:=by
 unfold þ ä uP;by_cases h:n=0
 .subst h;rfl
 rw[ā h,ā ŉ]
end Go.EL

namespace Go.EL
open Go.IntKind (i8 i16 i32 i64 u8 u16 u32 u64)
open Go Go.RowKit
theorem ZxQ{a b:M}(f:Ok a)(g:Ok b)(d:Ok (mulM a b)):(JU a b).Α (mulM a b,0):=by
 show(Cq.next _ _).wp _;refine Cq.Zn 8 (λk s=>s=((k:Int),lU k (mulM a b) a)) (λk s c e=>?_) (λs e=>?_) (by rw[TK];rfl)
 .subst e;have h:=f ⟨k,c⟩;have h2:=g ⟨k,c⟩;rw[Cq.Zm,ą ŉ];refine⟨ŉ,ŉ,ŉ,?_⟩;show _=_;rw[ψ ŉ,Ö c,Ö c,Vq,wrap64 ŉ];exact đ (Prod.mk _) (TJ (mulM a b) a c)
 subst e;rw[Cq.Zm,ā ŉ,Vc _ _ ŉ];exact⟨true,Sy d,rfl⟩
end Go.EL

namespace Go.EL
open Go.IntKind (i8 i16 i32 i64 u8 u16 u32 u64)
open Go Go.RowKit
def ô:Ŀ Za->Nat
 |[]=>0
 |t::p=>Nat.gcd (Î t.c).natAbs (ô p)
def jJ(p:Ŀ Za):Int:=match p with
 |[]=>1
 |t::_=>if Î t.c<0 then -1 else 1
def fK(s:Int)(g:Nat)(c:Zf):Zf:=þ (s*(Î c / (g:Int)))
def Χ(p:Ŀ Za):Ŀ Za:=p.map λt=>⟨fK (jJ p) (ô p) t.c,t.m⟩
theorem Zyi:(á 0 12 λa=>á (-12) 12 λb=>runs 60 (xl (ä a) (ä b)) (ä (Nat.gcd a.natAbs b.natAbs:Nat)))=true:=by decide +kernel
theorem ZyI:(á 0 12 λa=>á (-12) 12 λb=>runs 60 (xB (ä a) (ä b)) (ä (Nat.gcd a.natAbs b.natAbs:Nat)))=true:=by decide +kernel
theorem Zyj:(á 1 12 λg=>runs 60 (Eu (ä 1) (ä g)) (⟨ä 1,ä g⟩,0)&&runs 60 (Eu (ä (-1)) (ä g)) (⟨ä (-1),ä g⟩,0))=true:=by decide +kernel
theorem ZyJ:(á 1 12 λg=>runs 60 (Gc (ä 1) (ä g)) (⟨ä 1,ä g⟩,0)&&runs 60 (Gw ⟨ä 1,ä g⟩) ⟨ä (-1),ä g⟩)=true:=by decide +kernel
theorem ZwW:(á 1 12 λg=>á (-12) 12 λn=>n == 0 || n % g != 0 || (runs 60 (Z9 ⟨ä 1,ä g⟩ (þ n)) (þ (1*(n / g)))&&runs 60 (Z9 ⟨ä (-1),ä g⟩ (þ n)) (þ (-1*(n / g)))))=true:=by decide +kernel
theorem Zxp:(á 1 12 λg=>á (-12) 12 λn=>n == 0 || n % g != 0 || (runs 60 (rn ⟨ä 1,ä g⟩ (þ n)) (þ (1*(n / g)))&&runs 60 (rn ⟨ä (-1),ä g⟩ (þ n)) (þ (-1*(n / g)))))=true:=by decide +kernel
theorem F3:(xl (ä 1) ⟨false,[1]⟩).Α (ä 1)/\(Ay ⟨false,[1]⟩ (ä 1)).Α (ä 1,ä 0,0)/\(EK (ä 1) (ä 1)).Α (ä 1)/\(yH (ä 1)).Α (ä (-1)):=⟨Cq.Α.mm 60 (by decide +kernel),Cq.Α.mm 60 (by decide +kernel),Cq.Α.mm 60 (by decide +kernel),Cq.Α.mm 60 (by decide +kernel)⟩
theorem F7:(xB (ä 1) ⟨false,[1]⟩).Α (ä 1)/\(yR ⟨false,[1]⟩ (ä 1)).Α (ä 1,ä 0,0)/\(ri (ä 1) (ä 1)).Α (ä 1)/\(yR (ä 1) ⟨false,[1]⟩).Α (ä 1,ä 0,0):=⟨Cq.Α.mm 60 (by decide +kernel),Cq.Α.mm 60 (by decide +kernel),Cq.Α.mm 60 (by decide +kernel),Cq.Α.mm 60 (by decide +kernel)⟩
theorem Zxo:(á (-12) 12 λn=>runs 60 (ri (ä n) (ä 1)) (ä n))=true:=by decide +kernel
theorem Ui:(á 1 12 λg=>runs 60 (ZH ⟨ä 1,ä g⟩) 1&&runs 60 (ZH ⟨ä (-1),ä g⟩) (-1)&&runs 60 (oC ⟨ä 1,ä g⟩) 1&&runs 60 (oC ⟨ä (-1),ä g⟩) (-1))=true:=by decide +kernel
theorem ω.num{p:Ŀ Za}(h:ω p){t:Za}(d:t∈p):t.c=þ (Î t.c)/\Î t.c≠0/\-12<=Î t.c/\Î t.c<=12:=by
 obtain⟨⟨n,e,a,c,h2⟩,_⟩:=h.ts t d;have:Î t.c=n:=by rw[e,pB]
 rw[this];exact⟨e,a,c,h2⟩
theorem ω.parts{p:Ŀ Za}(h:ω p){t:Za}(a:t∈p):t.c.num=ä (Î t.c)/\t.c.den=⟨false,[1]⟩:=by
 obtain⟨⟨n,e,_⟩,_⟩:=h.ts t a;have:Î t.c=n:=by rw[e,pB]
 rw[this,e,ZyC];exact⟨rfl,rfl⟩
theorem ω.gp{p:Ŀ Za}(h:ω p):Ó p=true:=by have f:=h.len;unfold Ó;rw[Ĉ];refine⟨Ă ŉ,Ć.2 λt d=>?_⟩;obtain⟨e,a,c,h2⟩:=h.num d;rw[e];exact Zvn a c h2
theorem Fq:∀{p:Ŀ Za}{t:Za},t∈p->ô p ∣ (Î t.c).natAbs
 |x::p,t,h=>by
  rcases Ď.1 h with rfl|h
  .exact Nat.gcd_dvd_left _ _
  exact Nat.dvd_trans (Nat.gcd_dvd_right _ _) (Fq h)
theorem xz{p:Ŀ Za}(h:ω p)(a:p≠[]):1<=ô p/\ô p<=12:=by
 match p,a with
 |t::p,_=>
  have c:=Fq (p:=t::p) (t:=t) ß;obtain⟨e,d,f,h2⟩:=h.num (t:=t) ß;have:=Nat.le_of_dvd ŉ c;have:=Nat.pos_of_dvd_of_pos c ŉ;omega
theorem xJ{p:Ŀ Za}{t:Za}(a:t∈p):Î t.c % (ô p:Int)=0:=Int.emod_eq_zero_of_dvd (Int.ofNat_dvd_left.2 (Fq a))
theorem Mn(p:Ŀ Za):jJ p=1\/jJ p = -1:=by
 unfold jJ;split
 .exact .inl rfl
 split
 .exact .inr rfl
 exact .inl rfl
theorem Tw(p:Ŀ Za)(k:Nat)(h:k<p.length):ô (p.take (k+1))=Nat.gcd (ô (p.take k)) (Î p[k].c).natAbs:=by
 rw[č h];generalize p.take k=l;generalize p[k]=t;induction l with
 |nil=>simp[ô]
 |cons x l a=>simp only[ĸ,ô,a];rw[Nat.gcd_assoc]
theorem Tv{p:Ŀ Za}(h:ω p)(k:Nat):ô (p.take k)<=12:=by
 by_cases a:p.take k=[]
 .rw[a];exact Ĝ _
 have e:∃t,t∈p.take k:=aba _ a;obtain⟨t,c⟩:=e;have d:=Fq c;obtain⟨_,f,g,h2⟩:=h.num (Ŝ c);have:=Nat.le_of_dvd ŉ d;omega
theorem Ve{m:M}(h:Ok m):Ok (mulM (λ_=>0) m):=by rw[mul_zero];exact h
theorem Oi:Ok λ_=>0:=λ_=>⟨Ō 0,(by decide:(0:Int)<=65535)⟩
theorem R1{c:Zf}{f:Zf->Zf}{p:Ŀ Za}(j:p.length<=100)(e:∀t∈p,Ok t.m){s:Int}(d:(ZH c).Α s)(g:s≠0)(i:∀t∈p,(Z9 c t.c).Α (f t.c)):
  (Jw c (λ_=>0) p).Α (p.map λt=>⟨f t.c,t.m⟩,0):=by
 refine⟨s,d,Cq.wp.no g ⟨⟨ŉ,ŉ⟩,?_⟩⟩
 refine Cq.Zn p.length (λk s=>s=((p.take k).map λt=>⟨f t.c,t.m⟩,(k:Int))) (λk s a d=>?_) (λs d=>?_) rfl
 .subst d
  refine Cq.wp.yes ŉ ⟨p[k],Ξ a,_,ZxQ Oi (e _ (ă a)) (Ve (e _ (ă a))),Cq.wp.no (λh=>h rfl) ⟨_,i _ (ă a),?_,?_⟩⟩
  .simp only[Ā,ć,Č,ė,small];omega
  show _=_
  rw[ψ ŉ,mul_zero,č a,Ī]
  rfl
 subst d
 refine Cq.wp.no ŉ ?_
 show _=_
 rw[ě (ĉ _)]
theorem RO{c:Zf}{f:Zf->Zf}{p:Ŀ Za}(j:p.length<=100)(e:∀t∈p,Ok t.m){s:Int}(d:(oC c).Α s)(g:s≠0)(i:∀t∈p,(rn c t.c).Α (f t.c)):
  (FD c (λ_=>0) p).Α (p.map λt=>⟨f t.c,t.m⟩,0):=by
 refine⟨s,d,Cq.wp.no g ?_⟩
 refine Cq.Zn p.length (λk s=>s=((p.take k).map λt=>⟨f t.c,t.m⟩,(k:Int))) (λk s a d=>?_) (λs d=>?_) rfl
 .subst d
  refine Cq.wp.yes ŉ ⟨p[k],Ξ a,_,QI Oi (e _ (ă a)) (Ve (e _ (ă a))),Cq.wp.no (λh=>h rfl) ⟨p[k],Ξ a,_,i _ (ă a),?_,?_⟩⟩
  .simp only[Ā,ć,Č,ė,small];omega
  show _=_
  rw[ψ ŉ,mul_zero,č a,Ī]
  rfl
 subst d
 refine Cq.wp.no ŉ ?_
 show _=_
 rw[ě (ĉ _)]
theorem ω.mono{p:Ŀ Za}(h:ω p):∀t∈p,Ok t.m:=λt a=>(h.ts t a).m
theorem Tz{p:Ŀ Za}(a:0<p.length):(p[0]'a)∈p:=ă a
theorem Sv{p:Ŀ Za}(a:0<p.length):jJ p=if Î (p[0]'a).c<0 then -1 else 1:=by
 match p,a with
 |t::p,_=>rfl
theorem Kt{p:Ŀ Za}(h:ω p)(f:p≠[]):(AD p).Α (Χ p):=by
 have u:=h.len;have m:0<p.length:=ş.2 f;obtain⟨A,B⟩:=xz h f;refine Cq.wp.no ŉ ⟨ä 0,Cq.Α.mm 20 (by decide +kernel),ä 1,Cq.Α.mm 20 (by decide +kernel),?_⟩;show(PN p (0,ä 0,ä 1)).wp _;refine Cq.Zn p.length (λk s=>s=((k:Int),ä (ô (p.take k):Int),ä 1)) (λk s l c=>?_) (λs c=>?_) rfl
 .subst c;obtain⟨e,g,i,j⟩:=h.num (ă l);obtain⟨y,r⟩:=h.parts (ă l);have C:=Tv h k;have hr:=Zq (Zq Zyi (x:=(ô (p.take k):Int)) ŉ ŉ) i j;refine Cq.wp.yes ŉ ⟨p[k],Ξ l,ä (Nat.gcd (ô (p.take k):Int).natAbs (Î p[k].c).natAbs:Nat),(by rw[y];exact Zs hr),ä 1,(by rw[r];exact F3.1),(ä 1,ä 0,0),(by rw[r];exact F3.2.1),ä 1,F3.2.2.1,?_⟩;show _=_;rw[ψ ŉ,Tw p k l];simp only[aa6]
 subst c;refine Cq.wp.no ŉ ?_;rw[ě (ĉ _)];show(JO p (ä (ô p:Int)) (ä 1)).Α _;unfold JO;obtain⟨e,g,i,j⟩:=h.num (Tz m);have c:=Zq Su i j;rw[show(Î p[0].c == 0)=false by simpa using g,Ľ]at c;have n:=Zq Zyj (x:=(ô p:Int)) ŉ ŉ;have q:=Zq Ui (x:=(ô p:Int)) ŉ ŉ;simp only[Ĉ]at n q;have v:∀t∈p,(Z9 ⟨ä 1,ä (ô p:Int)⟩ t.c).Α (fK 1 (ô p) t.c)/\(Z9 ⟨ä (-1),ä (ô p:Int)⟩ t.c).Α (fK (-1) (ô p) t.c):=λt d=>by obtain⟨e,g,i,j⟩:=h.num d;have:=Zq (Zq ZwW (x:=(ô p:Int)) ŉ ŉ) i j;rw[show(Î t.c == 0)=false by simpa using g,show(Î t.c % (ô p:Int) != 0)=false by simpa using xJ d,Ľ,Ľ,Ĉ]at this;unfold fK;rw[e,pB];exact⟨Zs this.1,Zs this.2⟩
 refine⟨p[0],⟨ŉ,by simp[m]⟩,_,(by rw[e];exact Zs c),?_⟩;unfold Χ;rw[Sv m];by_cases a:Î p[0].c<0
 .rw[ą a,ą a];refine Cq.wp.yes ĳ ⟨_,F3.2.2.2,?_⟩;exact⟨_,Zs n.2,_,R1 u h.mono (Zs q.1.1.2) ĳ (λt d=>(v t d).2),rfl⟩
 rw[ā a,ā a,ā g];refine Cq.wp.no ĳ ?_;exact⟨_,Zs n.1,_,R1 u h.mono (Zs q.1.1.1) ĳ (λt d=>(v t d).1),rfl⟩
theorem PK{p:Ŀ Za}(h:ω p):(E5 p).Α (Χ p):=by
 have v:=h.len;by_cases f:p=[]
 .subst f;exact Cq.wp.yes rfl rfl
 have n:0<p.length:=ş.2 f;obtain⟨A,B⟩:=xz h f;refine Cq.wp.no ŉ ⟨ä 1,Cq.Α.mm 20 (by decide +kernel),ä 0,Cq.Α.mm 20 (by decide +kernel),?_⟩;refine Cq.Zn p.length (λk s=>s=((k:Int),ä 1)) (λk s c d=>?_) (λs d=>?_) rfl
 .subst d;obtain⟨e,l,i,j⟩:=h.num (ă c);obtain⟨u,m⟩:=h.parts (ă c);refine Cq.wp.yes ŉ ⟨p[k],Ξ c,p[k],Ξ c,ä 1,(by rw[m];exact F7.1),(ä 1,ä 0,0),(by rw[m];exact F7.2.1),ä 1,F7.2.2.1,?_⟩;show _=_;rw[ψ ŉ]
 subst d;refine Cq.wp.no ŉ ?_;show(P7 p (ä 0) (ä 1)).Α _;refine Cq.Zn p.length (λk s=>s=((k:Int),ä (ô (p.take k):Int))) (λk s c d=>?_) (λs d=>?_) rfl
 .subst d;obtain⟨e,l,i,j⟩:=h.num (ă c);have C:=Tv h k;have hr:=Zq (Zq ZyI (x:=(ô (p.take k):Int)) ŉ ŉ) i j;obtain⟨u,m⟩:=h.parts (ă c);refine Cq.wp.yes ŉ ⟨p[k],Ξ c,(ä 1,ä 0,0),(by rw[m];exact F7.2.2.2),p[k],Ξ c,ä (Î p[k].c),(by rw[u];exact Zs (Zq Zxo i j)),ä (Nat.gcd (ô (p.take k):Int).natAbs (Î p[k].c).natAbs:Nat),Zs hr,?_⟩;show _=_;rw[ψ ŉ,Tw p k c];simp only[aa6]
 subst d;refine Cq.wp.no ŉ ?_;rw[ě (ĉ _)];show(JA p (ä 1) (ä (ô p:Int))).Α _;unfold JA;obtain⟨e,l,i,j⟩:=h.num (Tz n);have d:=Zq F9 (x:=Î p[0].c) ŉ ŉ;have q:=Zq ZyJ (x:=(ô p:Int)) ŉ ŉ;have r:=Zq Ui (x:=(ô p:Int)) ŉ ŉ;simp only[Ĉ]at q r;have y:∀t∈p,(rn ⟨ä 1,ä (ô p:Int)⟩ t.c).Α (fK 1 (ô p) t.c)/\(rn ⟨ä (-1),ä (ô p:Int)⟩ t.c).Α (fK (-1) (ô p) t.c):=λt g=>by obtain⟨e,l,i,j⟩:=h.num g;have:=Zq (Zq Zxp (x:=(ô p:Int)) ŉ ŉ) i j;rw[show(Î t.c == 0)=false by simpa using l,show(Î t.c % (ô p:Int) != 0)=false by simpa using xJ g,Ľ,Ľ,Ĉ]at this;unfold fK;rw[e,pB];exact⟨Zs this.1,Zs this.2⟩
 refine⟨_,Zs q.1,p[0],⟨ŉ,by simp[n]⟩,_,(by rw[e];exact Zs d),?_⟩;unfold Χ;rw[Sv n];by_cases a:Î p[0].c<0
 .rw[ą a,ą a];refine Cq.wp.yes ĳ ⟨_,Zs q.2,?_⟩;exact⟨_,RO v h.mono (Zs r.2) ĳ (λt g=>(y t g).2),rfl⟩
 rw[ā a,ā a,ā l];refine Cq.wp.no ĳ ?_;exact⟨_,RO v h.mono (Zs r.1.2) ĳ (λt g=>(y t g).1),rfl⟩
end Go.EL

namespace Go.EL
open Go.IntKind (i8 i16 i32 i64 u8 u16 u32 u64)
open Go Go.RowKit
theorem LV(s:Int)(g:Nat)(c:Zf):Î (fK s g c)=s*(Î c / (g:Int)):=pB _
theorem Mw{n:Int}{g:Nat}(d:1<=g)(c:n % (g:Int)=0)(a:n≠0):n / (g:Int)≠0:=λh=>by have:=ei n g;rw[h,c]at this;simp at this;exact a this.symm
theorem YY{n:Int}{g:Nat}(c:1<=g)(a:-12<=n)(h2:n<=12):-12<=n / (g:Int)/\n / (g:Int)<=12:=by refine⟨(Int.le_ediv_iff_mul_le ŉ).2 ?_,dO (Int.ediv_le_ediv ŉ h2) (Int.ediv_le_self _ ĳ)⟩;have:(g:Int)*12 ≥ 12:=ŉ;omega
theorem LZ(p:Ŀ Za):(Χ p).length=p.length:=ć _
theorem Bn{p:Ŀ Za}:Χ p=[]↔p=[]:=by unfold Χ;simp
theorem Zyy{p:Ŀ Za}{t:Za}(h:t∈Χ p):∃x∈p,t=⟨fK (jJ p) (ô p) x.c,x.m⟩:=by obtain⟨x,a,h2⟩:=Ğ.1 h;exact⟨x,a,h2.symm⟩
theorem vH{p:Ŀ Za}(h:ω p):ω (Χ p) where
 ord:=by unfold Χ;rw[Ÿ];exact h.ord
 ts:=λt f=>by
  obtain⟨x,a,rfl⟩:=Zyy f;have c:p≠[]:=λe=>by rw[e]at a;cases a
  obtain⟨d,l⟩:=xz h c;obtain⟨e,i,j,k⟩:=h.num a;have m:=Mw d (xJ a) i;obtain⟨n,q⟩:=YY (g:=ô p) d j k;refine⟨⟨_,rfl,?_,?_,?_⟩,h.mono x a⟩;all_goals rcases Mn p with s|s<;>rw[s]<;>omega
 len:=by rw[LZ];exact h.len
theorem Sc(p:Ŀ Za):∀k,fI (Χ p) k=fI p k
 |0=>rfl
 |k+1=>by unfold fI;rw[Sc p k];unfold Χ;rw[aaz];cases p[k]?<;>rfl
theorem xD(p:Ŀ Za):gi (Χ p)=gi p:=by unfold gi;rw[LZ,Sc]
theorem Q0(p:Ŀ Za):∀k,hW (Χ p) k=hW p k
 |0=>rfl
 |k+1=>by unfold hW;rw[Q0 p k];unfold Χ;rw[aaz];cases p[k]?<;>rfl
theorem Zxi(p:Ŀ Za):ð (Χ p)=ð p:=by unfold ð;rw[LZ,Q0]
theorem T9(p:Ŀ Za)(n:Int):Ñ (Χ p) n=Ñ p n:=by unfold Ñ;rw[Zxi,xD]
theorem K7{s:Int}(c:s=1\/s = -1){g:Nat}(e:1<=g):∀{p:Ŀ Za},(∀t∈p,Î t.c % (g:Int)=0)->ô (p.map λt=>⟨fK s g t.c,t.m⟩)*g=ô p
 |[],_=>dz _
 |t::p,h=>by
  have j:=K7 c e (p:=p) (λx i=>h x (by simp[i]));have f:=h t ß;simp only[ġ,ô];rw[<-j,<-Nat.gcd_mul_right,LV];congr 1;have d:(s*(Î t.c / (g:Int))).natAbs=(Î t.c / (g:Int)).natAbs:=by rcases c with rfl|rfl<;>simp
  rw[d];have a:=ei (Î t.c) g;rw[f,aaA]at a;rw[<-a,Int.natAbs_mul,a,aa6,abw]
theorem Zyx{p:Ŀ Za}(h:ω p)(a:p≠[]):ô (Χ p)=1:=by obtain⟨c,e⟩:=xz h a;have:=K7 (Mn p) c (p:=p) (λt d=>xJ d);exact Nat.eq_of_mul_eq_mul_right c (by rw[Nat.one_mul];exact this)
theorem Zyz{p:Ŀ Za}(h:ω p):jJ (Χ p)=1:=by
 match p,h with
 |[],_=>rfl
 |t::q,h=>
  obtain⟨e,j,l,m⟩:=h.num (t:=t) ß;obtain⟨i,k⟩:=xz h ß;have c:=xJ (p:=t::q) (t:=t) ß;show(if Î (fK _ _ t.c)<0 then(-1:Int)else 1)=1;rw[LV,ā];have n:=Mw i c j;have f:=ei (Î t.c) (ô (t::q));rw[c,aaA]at f;unfold jJ;dsimp only;generalize ô (t::q)=g at *;generalize Î t.c / (g:Int)=z at *;by_cases d:Î t.c<0
  .rw[ą d];have:¬0<z:=λa=>by
    have:=Int.mul_pos (show(0:Int)<(g:Int) by omega) a;omega
   omega
  rw[ā d];have:¬z<0:=λa=>by have:=abb (show(0:Int)<(g:Int) by omega) a;omega
  omega
theorem Zz7{p:Ŀ Za}(h:ω p){t:Za}(a:t∈p):fK 1 1 t.c=t.c:=by obtain⟨e,_⟩:=h.num a;unfold fK;rw[aat,Int.natCast_one,Int.ediv_one];exact e.symm
theorem Sp{p:Ŀ Za}(h:ω p):Χ (Χ p)=Χ p:=by
 by_cases a:p=[]
 .subst a;rfl
 have c:=vH h;show(Χ p).map (λt=>(⟨fK (jJ (Χ p)) (ô (Χ p)) t.c,t.m⟩:Za))=Χ p;rw[Zyx h a,Zyz h];refine(ŭ λt d=>?_).trans (List.map_id _);rw[Zz7 c d];rfl
def hN(l:Ŀ (Ŀ Za)):Prop:=l.Pairwise λa b=>ë a b<0
theorem Q4:∀{l m:Ŀ (Ŀ Za)},hN l->hN m->(∀x,x∈l↔x∈m)->l=m
 |[],[],_,_,_=>rfl
 |[],y::m,_,_,h=>by have:=(h y).2 ß;cases this
 |x::l,[],_,_,h=>by have:=(h x).1 ß;cases this
 |x::l,y::m,i,h2,h=>by
  obtain⟨a1,a2⟩:=Į.1 i;obtain⟨d,g⟩:=Į.1 h2;have e:x=y:=by
   rcases Ď.1 ((h x).1 ß)with e|n
   .exact e
   rcases Ď.1 ((h y).2 ß)with e|p
   .exact e.symm
   have q:=d x n;have r:=a1 y p;have:=qH x y;omega
  subst e;have f:∀{z:Ŀ Za}{k:Ŀ (Ŀ Za)},(∀a∈k,ë z a<0)->z ∉ k:=λj c=>by have:=j _ c;rw[xy]at this;omega
  rw[Q4 a2 g λz=>⟨λc=>?_,λc=>?_⟩]
  .rcases Ď.1 ((h z).1 (by simp[c]))with e|tQ
   .subst e;exact absurd c (f a1)
   exact tQ
  rcases Ď.1 ((h z).2 (by simp[c]))with e|tQ
  .subst e;exact absurd c (f d)
  exact tQ
theorem TW:∀{l:Ŀ (Ŀ Za)}{x:Ŀ Za},(x::l).Pairwise (λa b=>ë a b<=0)->(∀p∈x::l,Ó p=true)->hN (x::jV x l)/\∀z,z∈x::jV x l↔z∈x::l
 |[],x,_,_=>⟨Ū _ _,λ_=>Iff.rfl⟩
 |y::l,x,h,d=>by
  obtain⟨a1,a2⟩:=Į.1 h;obtain⟨f,g⟩:=TW a2 (λp hp=>d p (by simp at hp⊢;exact .inr hp));unfold jV;by_cases e:ë y x=0
  .rw[ą e];have:y=x:=A3 (d y ß) (d x ß) e;subst this;refine⟨f,λz=>?_⟩;rw[g z];simp
  rw[ā e];have c:ë x y<0:=by have:=a1 y ß;have:=qH x y;omega
  refine⟨Į.2 ⟨λz i=>?_,f⟩,λz=>?_⟩
  .rcases Ď.1 i with rfl|tQ
   .exact c
   exact(yU x y z ŉ (by have:=(Į.1 f).1 z tQ;omega)).2 (.inl c)
  have:=g z;simp only[Ď]at this⊢;rw[this]
def ep(l:Ŀ (Ŀ Za)):Ŀ (Ŀ Za):=gh (jF l)
theorem Ga{l:Ŀ (Ŀ Za)}(d:∀p∈l,Ó p=true):hN (ep l)/\∀z,z∈ep l↔z∈l:=by
 have a:∀z,z∈jF l↔z∈l:=λz=>(vu l).mem_iff;have c:=Kf l;unfold ep;generalize jF l=m at *;match m,a,c with
 |[],a,_=>exact⟨List.Pairwise.nil,a⟩
 |x::m,a,c=>
  obtain⟨e,f⟩:=TW c (λp hp=>d p ((a p).1 hp));exact⟨e,λz=>(f z).trans (a z)⟩
theorem VY{l m:Ŀ (Ŀ Za)}(a:∀p∈l,Ó p=true)(c:hN m)(h:∀z,z∈m↔z∈l):m=ep l:=by obtain⟨d,e⟩:=Ga a;exact Q4 c d λz=>(h z).trans (e z).symm
theorem Gq(l:Ŀ (Ŀ Za)):(ep l).length<=l.length:=ň TV (aaS (vu l).length_eq)
end Go.EL

namespace Go.EL
open Go.IntKind (i8 i16 i32 i64 u8 u16 u32 u64)
open Go Go.RowKit
theorem Zxm:(á (-12) 12 λa=>a == 0 || á (-12) 12 λb=>b == 0 || runs 40 (vF (þ a) (þ b)) (if a<b then -1 else if a=b then 0 else 1))=true:=by decide +kernel
theorem ZvM:(á (-12) 12 λa=>a == 0 || á (-12) 12 λb=>b == 0 || runs 40 (Bg (þ a) (þ b)) (decide (a=b)))=true:=by decide +kernel
theorem S5{a b:Zf}(c:fp a=true)(d:fp b=true):(vF a b).Α (hJ a b):=by obtain⟨m,rfl,e,f,g⟩:=ub c;obtain⟨n,rfl,i,j,k⟩:=ub d;have h:=Zq Zxm f g;rw[show(m == 0)=false by simpa using e,Ľ]at h;have h':=Zq h j k;rw[show(n == 0)=false by simpa using i,Ľ]at h';unfold hJ;rw[pB,pB];exact Zs h'
theorem Zu5{a b:Zf}(c:fp a=true)(d:fp b=true):(Bg a b).Α (decide (hJ a b=0)):=by
 obtain⟨m,rfl,f,g,i⟩:=ub c;obtain⟨n,rfl,j,k,l⟩:=ub d;have h:=Zq ZvM g i;rw[show(m == 0)=false by simpa using f,Ľ]at h;have h':=Zq h k l;rw[show(n == 0)=false by simpa using j,Ľ]at h';have e:decide (hJ (þ m) (þ n)=0)=decide (m=n):=by
  unfold hJ;rw[pB,pB];by_cases e:m=n
  .subst e;simp
  rw[ċ e,ċ];split
  .decide
  decide
 rw[e];exact Zs h'
theorem S7{p q:Ŀ Za}(hp:Ó p=true)(l:Ó q=true):(Ge p q).Α (ë p q):=by
 have t:=vr hp;have u:=vr l;refine(RI p q 0).mono (p:=λo=>match o with|.inl v=>v=ë p q|.inr ()=>∃k,(k=p.length\/k=q.length)/\k<=p.length/\k<=q.length/\ë p q=ë (p.drop k) (q.drop k)) (λo h=>?_) (Cq.Zn p.length (λk s=>s=(k:Int)/\k<=p.length/\k<=q.length/\ë p q=ë (p.drop k) (q.drop k)) ?_ ?_ ⟨rfl,Ĝ _,Ĝ _,rfl⟩)
 .match o,h with
  |.inl v,h=>exact h
  |.inr (),⟨k,r,i,h2,h3⟩=>
   show(Kx p q).Α _;unfold Kx;rw[h3];by_cases m:p.length<q.length
   .refine Cq.wp.yes ŉ ?_;have:k=p.length:=ŉ;subst this;show(-1:Int)=_;rw[Ķ (ĉ _),ĭ m];rfl
   refine Cq.wp.no ŉ ?_;have:k=q.length:=ŉ;subst this;by_cases n:q.length<p.length
   .refine Cq.wp.yes ŉ ?_;show(1:Int)=_;rw[Ķ (ĉ q.length),ĭ n];rfl
   refine Cq.wp.no ŉ ?_;show(0:Int)=_;rw[Ķ (ĉ q.length),Ķ ŉ];rfl
 .rintro k s d ⟨rfl,i,h2,h3⟩;refine Cq.wp.yes ŉ ?_;by_cases a:k<q.length
  .refine Cq.wp.yes ŉ ?_;have c:=Fk p q d a;show(RJ p q (k:Int)).wp _;refine⟨_,Ξ d,_,Ξ a,_,Az _ _,?_⟩;by_cases g:p[k].m=q[k].m
   .refine Cq.wp.no (by rw[g,A2];simp) ⟨_,Ξ d,_,Ξ a,_,S5 (tG hp d) (tG l a),?_⟩;have j:fB p[k] q[k]=hJ p[k].c q[k].c:=ą g;rw[j]at c;by_cases e:hJ p[k].c q[k].c=0
    .rw[ą e]at c;refine Cq.wp.no ŉ ?_;exact⟨ψ ŉ,ŉ,ŉ,h3.trans c⟩
    rw[ā e]at c;refine Cq.wp.yes e ⟨_,Ξ d,_,Ξ a,_,S5 (tG hp d) (tG l a),?_⟩;exact(h3.trans c).symm
   have f:¬Ü p[k].m q[k].m=0:=λe=>g (uh e);have j:fB p[k] q[k]=Ü p[k].m q[k].m:=ā g;rw[j,ā f]at c;refine Cq.wp.yes f ⟨_,Ξ d,_,Ξ a,_,Az _ _,?_⟩;exact(h3.trans c).symm
  refine Cq.wp.no ŉ ?_;exact⟨k,.inr ŉ,i,h2,h3⟩
 rintro s ⟨rfl,i,h2,h3⟩;refine Cq.wp.no ŉ ?_;exact⟨p.length,.inl rfl,i,h2,h3⟩
theorem Zu4{s t:Za}(a:fp s.c=true)(c:fp t.c=true):(Ez s t).Α (decide (fB s t=0)):=by
 unfold Ez fB;by_cases h:s.m=t.m
 .refine Cq.wp.yes h ?_;simp only[ą h];exact⟨_,Zu5 a c,rfl⟩
 refine Cq.wp.no h ?_;simp only[ā h];show false=_;have:¬Ü s.m t.m=0:=λe=>h (uh e);simp[this]
theorem KB{p q:Ŀ Za}(hp:Ó p=true)(f:Ó q=true):(tX p q).Α (decide (ë p q=0)):=by
 have j:=vr hp;have l:=vr f;by_cases i:p.length=q.length
 .refine Cq.wp.no ŉ ?_;refine(Rc p q 0).mono (p:=λo=>match o with|.inl v=>v=decide (ë p q=0)|.inr ()=>ë p q=0) (λo h=>?_) (Cq.Zn p.length (λk s=>s=(k:Int)/\k<=p.length/\ë p q=ë (p.drop k) (q.drop k)) ?_ ?_ ⟨rfl,Ĝ _,rfl⟩)
  .match o,h with
   |.inl v,h=>exact h
   |.inr (),h=>show true=_;rw[Ă h]
  .rintro k s d ⟨rfl,g,h3⟩;have a:k<q.length:=ŉ;refine Cq.wp.yes ŉ ⟨_,Ξ d,_,Ξ a,_,Zu4 (tG hp d) (tG f a),?_⟩;have c:=Fk p q d a;by_cases e:fB p[k] q[k]=0
   .rw[ą e]at c;rw[Ă e];refine Cq.wp.no ĳ ?_;exact⟨ψ ŉ,ŉ,h3.trans c⟩
   rw[ā e]at c;rw[ċ e];refine Cq.wp.yes ĳ ?_;show false=_;rw[h3,c,ċ e]
  rintro s ⟨rfl,g,h3⟩;refine Cq.wp.no ŉ ?_;show ë p q=0;rw[h3,Ķ (ĉ _),Ķ ŉ];rfl
 refine Cq.wp.yes ŉ ?_;show false=_;rw[ċ (λh=>i (LM h))]
def gY(plain:Bool)(q:Ŀ Za):Bool:=!q.isEmpty&&!(plain&&decide (gi q=0))
theorem Zyv{v:Ŀ (Ŀ Za)}{y:Ŀ Za}(g:∀p∈v,Ó p=true)(j:Ó y=true)(l:v.length<=1000):
  (JD v y 0).wp (λo=>∃k:Nat,o=(k:Int)/\k<=v.length/\(∀i (h:i<v.length),i<k->ë v[i] y<0)/\(∀h:k<v.length,¬ë v[k] y<0)):=by
 refine Cq.Zn v.length (λk s=>s=(k:Int)/\k<=v.length/\∀i (h:i<v.length),i<k->ë v[i] y<0) ?_ ?_ ⟨rfl,Ĝ _,λi _ h=>absurd h (ı _)⟩
 .rintro k s d ⟨rfl,c,h2⟩
  refine Cq.wp.yes ŉ ⟨_,Ξ d,_,S7 (g _ (ă d)) j,?_⟩
  by_cases a:ë v[k] y<0
  .refine Cq.wp.yes a ⟨ψ ŉ,ŉ,λi hi f=>?_⟩
   by_cases e:i=k
   .subst e;exact a
   exact h2 i hi ŉ
  exact Cq.wp.no a ⟨k,rfl,c,h2,λ_=>a⟩
 rintro s ⟨rfl,c,h2⟩
 exact Cq.wp.no ŉ ⟨v.length,rfl,c,h2,λh=>absurd h (Nat.lt_irrefl _)⟩
theorem ZvU{v:Ŀ (Ŀ Za)}{y:Ŀ Za}(l:hN v){k:Nat}(t:k<=v.length)(m:∀i (h:i<v.length),i<k->ë v[i] y<0)(h2:∀h:k<v.length,0<ë v[k] y):
  hN (v.take k++([y]++v.drop k))/\∀z,z∈v.take k++([y]++v.drop k)↔z∈v\/z=y:=by
 have n:∀z∈v.drop k,0<ë z y:=λz f=>by
  obtain⟨j,d,rfl⟩:=ž f;rw[ľ]at d;have im:k<v.length:=ŉ;rw[List.getElem_drop];have q:=h2 im;by_cases e:j=0
  .subst e;exact q
  have:=ħ.1 l k (k+j) im ŉ ŉ;have u:=qH v[k] y;have x:=qH v[k+j] y;have:=(yU y v[k] v[k+j] ŉ ŉ).2 (.inl ŉ);omega
 refine⟨?_,λz=>?_⟩
 .unfold hN
  rw[eu]
  have ov:((v.take k)++v.drop k).Pairwise λa b=>ë a b<0:=by rw[Ń];exact l
  obtain⟨p,r,s⟩:=eu.1 ov
  refine⟨p,?_,λa g b c=>?_⟩
  .refine Į.2 ⟨λz f=>?_,r⟩
   have:=n z f
   have:=qH z y
   omega
  rcases Ď.1 c with rfl|c
  .obtain⟨j,d,rfl⟩:=ž g
   rw[Č]at d
   rw[aad]
   exact m j ŉ ŉ
  exact s a g b c
 have:z∈v↔z∈v.take k\/z∈v.drop k:=by rw[<-Ĩ,Ń]
 rw[this]
 simp only[Ĩ,Ď,ĝ,ţ,List.singleton_append]
 constructor
 .rintro (h|h|h)
  .exact .inl (.inl h)
  .exact .inr h
  exact .inl (.inr h)
 rintro ((h|h)|h)
 .exact .inl h
 .exact .inr (.inr h)
 exact .inr (.inl h)
def kept(l:Ŀ (Ŀ Za))(plain:Bool):Ŀ (Ŀ Za):=(l.map Χ).filter (gY plain)
theorem Fs{l:Ŀ (Ŀ Za)}(h:∀p∈l,ω p){plain:Bool}:∀q∈kept l plain,ω q:=λq a=>by obtain⟨p,hp,rfl⟩:=Ğ.1 (ō.1 a).1;exact vH (h p hp)
theorem A7(l:Ŀ (Ŀ Za))(plain:Bool){k:Nat}(a:k<l.length):kept (l.take (k+1)) plain=kept (l.take k) plain++(if gY plain (Χ l[k])=true then[Χ l[k]]else[]):=by unfold kept;rw[č a,Ī,aa7];congr 1;simp only[ġ,Œ,ŏ,List.filter_nil]
structure kN (l:Ŀ (Ŀ Za)) (plain:Bool) (k:Nat) (v:Ŀ (Ŀ Za)):Prop where
 st:hN v
 mem:∀z,z∈v↔z∈kept (l.take k) plain
 len:v.length<=k
theorem kN.skip{l:Ŀ (Ŀ Za)}{plain:Bool}{k:Nat}{v:Ŀ (Ŀ Za)}(h:kN l plain k v)(a:k<l.length)(c:gY plain (Χ l[k])=false):kN l plain (k+1) v:=
 ⟨h.st,λz=>by rw[h.mem z,A7 l plain a,c];simp,aav h.len⟩
theorem kN.same{l:Ŀ (Ŀ Za)}{plain:Bool}{k:Nat}{v:Ŀ (Ŀ Za)}(h:kN l plain k v)(c:k<l.length)(d:Χ l[k]∈v):kN l plain (k+1) v:=
 ⟨h.st,(λz=>by
  rw[h.mem z,A7 l plain c,Ĩ];refine⟨.inl,λa=>?_⟩;rcases a with a|a
  .exact a
  split at a
  .rw[Ĕ]at a;subst a;exact(h.mem _).1 d
  cases a),aav h.len⟩
theorem kN.put{l:Ŀ (Ŀ Za)}{plain:Bool}{k:Nat}{v:Ŀ (Ŀ Za)}(h:kN l plain k v)(d:k<l.length)(e:gY plain (Χ l[k])=true){j:Nat}(c:j<=v.length)(a:∀i (h:i<v.length),i<j->ë v[i] (Χ l[k])<0)(h2:∀h:j<v.length,0<ë v[j] (Χ l[k])):
  kN l plain (k+1) (v.take j++([Χ l[k]]++v.drop j)):=by
 obtain⟨f,g⟩:=ZvU h.st c a h2
 refine⟨f,λz=>?_,?_⟩
 .rw[g z,h.mem z,A7 l plain d,e,ą rfl,Ĩ,Ĕ]
 have:=h.len
 simp only[Ā,Č,ľ,ė]
 omega
theorem Sa{l:Ŀ (Ŀ Za)}{plain:Bool}{k:Nat}{v:Ŀ (Ŀ Za)}(h:kN l plain k v)(C:l.length<=100)(g:k<l.length)(A:gY plain (Χ l[k])=true)(hp:∀p∈l,ω p){j:Nat}(y:j<=v.length)(x:∀i (h:i<v.length),i<j->ë v[i] (Χ l[k])<0)(h2:∀h:j<v.length,¬ë v[j] (Χ l[k])<0)(q:∀p∈v,Ó p=true):
  (if(j:Int)<(v.length:Int)then(Cq.Κ v (j:Int) λB=>Cq.bind (tX B (Χ l[k])) λm=>if m=true then(Cq.ret (.inl (v,i64.wrap ((k:Int)+1))))else(tV v (k:Int) (Χ l[k]) (j:Int)))else(tV v (k:Int) (Χ l[k]) (j:Int))).wp (Out (λs=>∃f,s=(f,((k+1:Nat):Int))/\kN l plain (k+1) f) λr=>r=ep (kept l plain)):=by
 have n:=h.len
 have c:Ó (Χ l[k])=true:=(vH (hp _ (ă g))).gp
 have d:(∀h:j<v.length,0<ë v[j] (Χ l[k]))->(tV v (k:Int) (Χ l[k]) (j:Int)).wp (Out (λs=>∃f,s=(f,((k+1:Nat):Int))/\kN l plain (k+1) f) λr=>r=ep (kept l plain)):=λh2=>by
  unfold tV;have t:(v.take (v.length:Int).toNat).drop (j:Int).toNat=v.drop j:=by rw[ē,ē,ě (ĉ _)]
  have u:((v.take (j:Int).toNat).drop (0:Int).toNat)=v.take j:=by rw[ē];rfl
  rw[t,u];refine⟨⟨ŉ,ŉ,ŉ⟩,?_,⟨ŉ,ŉ,ŉ⟩,?_,_,?_,h.put g A y x h2⟩
  .simp only[Ā,ľ,ė,small];omega
  .simp only[Ā,Č,ľ,ė,small];omega
  rw[ψ ŉ]
 by_cases a:j<v.length
 .refine Cq.wp.yes ŉ ⟨_,Ξ a,_,KB (q _ (ă a)) c,?_⟩
  by_cases e:ë v[j] (Χ l[k])=0
  .refine Cq.wp.yes (Ă e) ⟨_,by rw[ψ ŉ],h.same g (by rw[<-A3 (q _ (ă a)) c e];exact ă a)⟩
  refine Cq.wp.no (by simpa using e) (d λ_=>?_)
  have:=h2 a
  omega
 exact Cq.wp.no ŉ (d λh=>absurd h a)
theorem PL{l:Ŀ (Ŀ Za)}(t:l.length<=100)(h:∀p∈l,ω p)(plain:Bool):(E8 l plain).Α (ep (kept l plain)):=by
 refine Cq.Zn l.length (λk s=>∃v,s=(v,(k:Int))/\kN l plain k v) ?_ ?_ ⟨[],rfl,List.Pairwise.nil,λz=>by simp[kept],Ĝ _⟩
 .rintro k s c ⟨v,rfl,hi⟩;have u:=hi.len;have y:=vH (h _ (ă c));have a:=y.gp;have m:∀p∈v,Ó p=true:=λp hp=>(Fs (λq B=>h q (Ŝ B)) p ((hi.mem p).1 hp)).gp;refine Cq.wp.yes ŉ ⟨_,Ξ c,_,PK (h _ (ă c)),?_⟩;refine(JD v (Χ l[k]) 0).mono (λo ⟨j,i,r,n,h2⟩=>?_) (Zyv m a ŉ);subst i;show(JE plain v (k:Int) (Χ l[k]) (j:Int)).wp _;unfold JE;by_cases g:Χ l[k]=[]
  .refine Cq.wp.yes (by rw[g];rfl) ⟨v,by rw[ψ ŉ],hi.skip c (by rw[g];rfl)⟩
  have d:(Χ l[k]).isEmpty=false:=by simpa using g
  have A:(Χ l[k]).length≠0:=λe=>g (abq.1 e);refine Cq.wp.no ŉ ?_;cases plain with
  |true=>
   refine Cq.wp.yes rfl ⟨_,wW y,?_⟩;by_cases f:gi (Χ l[k])=0
   .refine Cq.wp.yes f ⟨v,by rw[ψ ŉ],hi.skip c (by unfold gY;rw[decide_eq_true f];simp)⟩
   refine Cq.wp.no f ?_;exact Sa hi t c (by unfold gY;rw[d,decide_eq_false f];rfl) h r n h2 m
  |false=>
   refine Cq.wp.no ĳ ?_;exact Sa hi t c (by unfold gY;rw[d];rfl) h r n h2 m
 rintro s ⟨v,rfl,hi⟩;refine Cq.wp.no ŉ ?_;have x:=hi.mem;rw[ě (ĉ _)]at x;exact VY (λp hp=>(Fs h p hp).gp) hi.st x
end Go.EL

namespace Go.EL
open Go.IntKind (i8 i16 i32 i64 u8 u16 u32 u64)
open Go Go.RowKit
def kF(b:Int):Bool:=decide (65<=b/\b<=90) || decide (97<=b/\b<=122)
def qs(b:Int):Bool:=decide (48<=b/\b<=57) || decide (b=95)
def ji(i:Nat)(b:Int):Bool:=kF b || (decide (0<i)&&qs b)
def jm(s:Ĳ):Bool:=decide (1<=s.size/\s.size<=12)&&(List.range s.size).all λi=>ji i (eN s (i:Int))
theorem Vf{s:Ĳ}{i:Nat}(hi:i<s.size)(h:ji i (eN s (i:Int))=false):jm s=false:=by unfold jm;rw[aaC];right;rw[List.all_eq_false];exact⟨i,ĺ.2 hi,by rw[h];decide⟩
theorem Zyl{s:Ĳ}(a:1<=s.size/\s.size<=12)(h:∀i,i<s.size->ji i (eN s (i:Int))=true):jm s=true:=by unfold jm;rw[Ă a,Ť,Ć];exact λi hi=>h i (ĺ.1 hi)
theorem RG(b:Int):(AN b).Α (kF b):=by
 unfold AN kF;by_cases a:65<=b<;>by_cases h2:b<=90<;>by_cases h3:97<=b<;>simp[a,h2,h3]<;>first|rfl|omega
theorem ZxR(s:Ĳ):(FY s).Α (jm s):=by
 unfold FY;by_cases n:(s.size:Int)<1
 .rw[ą n];show false=jm s;unfold jm;rw[ċ ŉ,ŵ]
 rw[ā n];by_cases h2:12<(s.size:Int)
 .rw[ą h2];show false=jm s;unfold jm;rw[ċ ŉ,ŵ]
 rw[ā h2];refine⟨ŉ,_,RG _,?_⟩;rw[Cq.Zm];cases h3:kF (eN s 0)with
 |false=>
  rw[ą ĳ];exact(Vf (i:=0) ŉ (by unfold ji;rw[show((0:Nat):Int)=0 from rfl,h3];simp)).symm
 |true=>
  rw[ā ĳ];show(Cq.next _ _).wp _;refine Cq.Zn (s.size-1) (λk st=>st=((k+1:Nat):Int)/\∀i,i<k+1->ji i (eN s (i:Int))=true) (λk st r m=>?_) (λst m=>?_) ⟨rfl,λi hi=>?_⟩
  .obtain⟨rfl,hi⟩:=m;have f:∀{b:Int},b=eN s ((k+1:Nat):Int)->ji (k+1) b=true->∀i,i<k+1+1->ji i (eN s (i:Int))=true:=by
    intro b p q i l;by_cases e:i=k+1
    .subst e;rw[<-p];exact q
    exact hi i ŉ
   rw[Cq.Zm,ą ŉ];refine⟨ŉ,_,RG _,?_⟩;cases j:kF (eN s ((k+1:Nat):Int))with
   |true=>exact⟨ψ ŉ,f rfl (by unfold ji;rw[j];rfl)⟩
   |false=>
    have g:qs (eN s ((k+1:Nat):Int))=false->false=jm s:=λh=>(Vf (i:=k+1) ŉ (by unfold ji;rw[j,h];simp)).symm;have d:qs (eN s ((k+1:Nat):Int))=true->∀i,i<k+1+1->ji i (eN s (i:Int))=true:=λh=>f rfl (by unfold ji;rw[j,h];simp);refine⟨ŉ,?_⟩;rw[Cq.Zm];unfold qs at g d;split
    .refine⟨ŉ,?_⟩;rw[Cq.Zm];split
     .rename_i a b;exact⟨ψ ŉ,d (by rw[Ă ⟨a,b⟩];rfl)⟩
     rename_i a b;refine⟨ŉ,?_⟩;rw[Cq.Zm];split
     .rename_i c;exact g (by rw[ċ (λh=>b h.2),ċ c];rfl)
     rename_i c;exact⟨ψ ŉ,d (by rw[Ă (abg.1 c)];simp)⟩
    rename_i a;refine⟨ŉ,?_⟩;rw[Cq.Zm];split
    .rename_i c;exact g (by rw[ċ (λh=>a h.1),ċ c];rfl)
    rename_i c;exact⟨ψ ŉ,d (by rw[Ă (abg.1 c)];simp)⟩
  .obtain⟨rfl,hi⟩:=m;rw[Cq.Zm,ā ŉ];exact(Zyl ŉ λi l=>hi i ŉ).symm
  obtain rfl:i=0:=ŉ;unfold ji;rw[show((0:Nat):Int)=0 from rfl,h3];rfl
end Go.EL

namespace Go.EL
open Go.IntKind (i8 i16 i32 i64 u8 u16 u32 u64)
open Go Go.RowKit
structure ig (n:Nat) (next:Int) (l:Ŀ Zo):Prop where
 len:l.length<=12
 ids:∀q∈l,1<=q.id/\q.id<next
 inc:l.Pairwise λa b=>a.id<b.id
 ia:∀q∈l,ω q.p/\Ñ q.p (n:Int)=true
structure Good (s:Zx):Prop where
 vars:s.vars.length<=4
 name:∀v∈s.vars,jm v=true
 diff:s.vars.Pairwise λa b=>a≠b
 next:1<=s.next/\s.next<=1000000
 eqs:ig s.vars.length s.next s.eqs
 ε:ig s.vars.length s.next s.ε
 apart:∀a∈s.eqs,∀b∈s.ε,a.id≠b.id
theorem KI{p:Ŀ Za}(h:ω p){n:Nat}(c:n<=4)(g:Ñ p (n:Int)=true):(yS p (n:Int)).Α true:=by
 obtain⟨f,h2⟩:=(pC (p:=p) (n:=n) ŉ).1 g;have e:u64.wrap (n:Int)=(n:Int):=by
  match n,c with
  |0,_=>rfl
  |1,_=>rfl
  |2,_=>rfl
  |3,_=>rfl
  |4,_=>rfl
 refine⟨true,Aq h,_,wW h,?_⟩;rw[Cq.Zm,ą ((tE ŉ).2 h2)];refine⟨_,AE h.len,by rw[e];omega,?_⟩;have i:=uf p;have d:=yQ.2 f;rw[Ů]at d;have a:(ð p).toNat<2 ^ n:=by
  rcases eH.1 d with h|h
  .have:=aab n;omega
  exact h
 show _=_;rw[e,wrap64 ŉ];refine Ă ?_;match n,c with
 |0,_=>exact œ (show ð p<1 by simp at a;omega) ĳ
 |1,_=>exact œ (show ð p<2 by simp at a;omega) ĳ
 |2,_=>exact œ (show ð p<4 by simp at a;omega) ĳ
 |3,_=>exact œ (show ð p<8 by simp at a;omega) ĳ
 |4,_=>exact œ (show ð p<16 by simp at a;omega) ĳ
theorem TG{n:Nat}(e:n<=4){next:Int}{l:Ŀ Zo}(h:ig n next l):(Bj l (n:Int) next).Α true:=by
 have m:=h.len;unfold Bj;rw[ā ŉ];show(Cq.next _ _).wp _;refine Cq.Zn l.length (λk s=>s=(k:Int)) (λk s a c=>?_) (λs c=>?_) rfl
 .subst c;have f:=h.ids _ (ă a);obtain⟨hp,d⟩:=h.ia _ (ă a);rw[Cq.Zm,ą ŉ];refine⟨l[k],Ξ a,?_⟩;rw[Cq.Zm,ā ŉ];refine⟨l[k],Ξ a,?_⟩;rw[Cq.Zm,ā ŉ,Cq.Zm];split
  .rename_i i;obtain⟨j,rfl⟩:∃j,k=j+1:=⟨k-1,ŉ⟩;have g:i64.wrap (((j+1:Nat):Int)-1)=(j:Int):=by rw[wrap64 ŉ];omega
   rw[g];have:=ħ.1 h.inc j (j+1) ŉ a ŉ;refine⟨l[j],Ξ ŉ,l[j+1],Ξ a,?_⟩;rw[Cq.Zm,ā ŉ];refine⟨l[j+1],Ξ a,true,KI hp e d,?_⟩;rw[Cq.Zm,ā ĳ];exact ψ ŉ
  refine⟨l[k],Ξ a,true,KI hp e d,?_⟩;rw[Cq.Zm,ā ĳ];exact ψ ŉ
 subst c;rw[Cq.Zm,ā ŉ];rfl
theorem Zpx{s:Zx}(h:Good s):(FK s).Α true:=by
 have f:=h.vars;have l:=h.next;have i:=h.eqs.len;have g:=h.ε.len;unfold FK;rw[ā ŉ,ā ŉ,ā ŉ];refine⟨true,TG f h.eqs,true,TG f h.ε,?_⟩;rw[Cq.Zm,ā ĳ];show(Cq.next _ _).wp _;refine Cq.Zn s.vars.length (λk st=>st=(k:Int)) (λk st c a=>?_) (λst a=>?_) rfl
 .subst a;rw[Cq.Zm,ą ŉ];show(Cq.next _ _).wp _;refine Cq.Zn k (λj st=>st=(j:Int)) (λj st d a=>?_) (λst a=>?_) rfl
  .subst a;have:=ħ.1 h.diff j k ŉ c d;rw[Cq.Zm,ą ŉ];refine⟨s.vars[k],Ξ c,s.vars[j],Ξ ŉ,?_⟩;rw[Cq.Zm,ā (λe=>this e.symm)];exact ψ ŉ
  subst a;rw[Cq.Zm,ā ŉ];show(QC s (k:Int)).wp _;refine⟨s.vars[k],Ξ c,_,ZxR _,?_⟩;rw[h.name _ (ă c),Cq.Zm,ā ĳ];exact ψ ŉ
 subst a;rw[Cq.Zm,ā ŉ];show(QB s).wp _;show(Cq.next _ _).wp _;refine Cq.Zn s.eqs.length (λk st=>st=(k:Int)) (λk st c a=>?_) (λst a=>?_) rfl
 .subst a;rw[Cq.Zm,ą ŉ];show(Cq.next _ _).wp _;refine Cq.Zn s.ε.length (λj st=>st=(j:Int)) (λj st d a=>?_) (λst a=>?_) rfl
  .subst a;rw[Cq.Zm,ą ŉ];refine⟨s.eqs[k],Ξ c,s.ε[j],Ξ d,?_⟩;rw[Cq.Zm,ā (h.apart _ (ă c) _ (ă d))];exact ψ ŉ
  subst a;rw[Cq.Zm,ā ŉ];exact ψ ŉ
 subst a;rw[Cq.Zm,ā ŉ];rfl
end Go.EL

namespace Go.EL
open Go.IntKind (i8 i16 i32 i64 u8 u16 u32 u64)
open Go Go.RowKit
abbrev Ú:=Ŀ Za
instance BT:DecidableEq Za:=λ⟨a1,a2⟩ ⟨a,c⟩=>decidable_of_iff (a1=a/\a2=c) ß
def jc:Ú:=[⟨þ 1,λ_=>0⟩]
def iL:Zb:=⟨0,[],[]⟩
def gI(l:Ŀ Ú):Ŀ Ú:=(l.filter λp=>p.isEmpty).map λ_=>jc
def hQ(eqs ε:Ŀ Ú):Ŀ Ú:=kept eqs false++gI ε
def iq(n:Int)(eqs ε:Ŀ Ú):Zb×Int:=
 if 1<=n/\n<=4 then
  if(eqs++ε).all (λp=>Ñ p n)=true then
   if 12<(ep (hQ eqs ε)).length then(iL,2)
   else if 12<(ep (kept ε true)).length then(iL,2)
   else(⟨n,ep (hQ eqs ε),ep (kept ε true)⟩,0)
  else(iL,1)
 else(iL,1)
theorem Bw:ω jc where
 ord:=Ū _ _
 ts:=λt a=>by rw[jc,Ĕ]at a;subst a;exact⟨⟨1,rfl,ĳ,ĳ,ĳ⟩,Oi⟩
 len:=ĳ
theorem LX:Χ jc=jc:=by decide +kernel
theorem SU:∀l:Ŀ Ú,kept (gI l) false=gI l
 |[]=>rfl
 |p::l=>by
  have a:=SU l;unfold gI at a⊢;rw[ŏ];split
  .rw[ġ];show(Χ jc::List.map Χ _).filter _=_;rw[ŏ,ą (by rw[LX];rfl),LX];exact đ _ a
  exact a
theorem Ztx(a b:Ŀ Ú)(plain:Bool):kept (a++b) plain=kept a plain++kept b plain:=by unfold kept;rw[List.map_append,List.filter_append]
theorem LY{l:Ŀ Ú}:∀p∈gI l,p=jc:=λp hp=>by obtain⟨_,_,h⟩:=Ğ.1 hp;exact h.symm
theorem F6(l:Ŀ Ú):(gI l).length<=l.length:=by unfold gI;rw[List.length_map];exact List.length_filter_le _ _
theorem vA(l:Ŀ Ú)(plain:Bool):(kept l plain).length<=l.length:=by unfold kept;exact Nat.le_trans (List.length_filter_le _ _) (Nat.le_of_eq (List.length_map _))
theorem TZ(a b:Ŀ Ú):(hQ a b).length<=a.length+b.length:=by have:=vA a false;have:=F6 b;unfold hQ;rw[Ā];omega
theorem Zzs{a b:Ŀ Ú}(c:∀p∈a,ω p):∀p∈hQ a b,ω p:=λp hp=>by
 rcases Ĩ.1 hp with h|h
 .exact Fs c p h
 rw[LY p h];exact Bw
theorem Kq{p:Ú}(h:ω p)(a:p≠[]):0<=gi p:=by
 obtain⟨t,c⟩:=aba _ a;by_cases d:gi p<=-1
 .have:=(tE ĳ).1 d t c;have e:=(FO (h.ts t c).m 8).1;unfold fH at this;omega
 omega
theorem ZtJ{p:Ú}(h:ω p){n:Nat}(i:n<=4):(yS p (n:Int)).Α (Ñ p (n:Int)):=by
 cases g:Ñ p (n:Int)with
 |true=>exact KI h i g
 |false=>
  have j:¬(lJ n p/\∀t∈p,fH t.m<=12):=λc=>by rw[(pC ŉ).2 c]at g;cases g
  refine⟨true,Aq h,_,wW h,?_⟩;by_cases f:gi p<=12
  .have c:¬lJ n p:=λc=>j ⟨c,(tE ĳ).1 f⟩;have m:=uf p;have k:¬(ð p).toNat >>> n=0:=λe=>c (yQ.1 e);rw[Ů]at k;have a:2 ^ n<=(ð p).toNat:=by
    by_cases l:(ð p).toNat<2 ^ n
    .exact absurd (aaI l) k
    omega
   have d:u64.wrap (n:Int)=(n:Int):=by
    match n,i with
    |0,_=>rfl
    |1,_=>rfl
    |2,_=>rfl
    |3,_=>rfl
    |4,_=>rfl
   refine Cq.wp.yes f ⟨_,AE h.len,by rw[d];omega,?_⟩;show _=_;rw[d,wrap64 ŉ];refine ċ ?_;match n,i with
   |0,_=>exact aaH.2 (dO ĳ (show(1:Int)<=ð p by simp at a;omega))
   |1,_=>exact aaH.2 (dO ĳ (show(2:Int)<=ð p by simp at a;omega))
   |2,_=>exact aaH.2 (dO ĳ (show(4:Int)<=ð p by simp at a;omega))
   |3,_=>exact aaH.2 (dO ĳ (show(8:Int)<=ð p by simp at a;omega))
   |4,_=>exact aaH.2 (dO ĳ (show(16:Int)<=ð p by simp at a;omega))
  exact Cq.wp.no f rfl
theorem UD{l:Ŀ Ú}(m:l.length<=100)(h:∀p∈l,ω p){n:Nat}(j:n<=4):(Gi l (n:Int)).Α (l.all λp=>Ñ p (n:Int)):=by
 refine(RM l (n:Int) 0).mono (p:=λo=>match o with|.inl v=>v=l.all λp=>Ñ p (n:Int)|.inr ()=>(l.all λp=>Ñ p (n:Int))=true) (λo h=>?_) (Cq.Zn l.length (λk s=>s=(k:Int)/\∀i (h:i<l.length),i<k->Ñ l[i] (n:Int)=true) ?_ ?_ ⟨rfl,λi _ h=>absurd h (ı _)⟩)
 .match o,h with
  |.inl v,h=>exact h
  |.inr (),h=>exact h.symm
 .rintro k s d ⟨rfl,c⟩;refine Cq.wp.yes ŉ ⟨_,Ξ d,_,ZtJ (h _ (ă d)) j,?_⟩;by_cases a:Ñ l[k] (n:Int)=true
  .rw[a];refine Cq.wp.no ĳ ⟨ψ ŉ,λi hi g=>?_⟩;by_cases e:i=k
   .subst e;exact a
   exact c i hi ŉ
  rw[Ź.2 a];refine Cq.wp.yes ĳ ?_;show false=_;refine(Ź.2 λf=>?_).symm;exact a (Ć.1 f _ (ă d))
 rintro s ⟨rfl,c⟩;refine Cq.wp.no ŉ ?_;refine Ć.2 λp hp=>?_;obtain⟨i,hi,rfl⟩:=ž hp;exact c i hi hi
theorem Zvg{a b:Ŀ Ú}(f:a.length<=100)(g:b.length<=100):(Jc [a,b]).Α (a++b):=by
 refine Cq.Zn 2 (λk s=>s=(if k=0 then 0 else if k=1 then(a.length:Int)else(a.length:Int)+(b.length:Int),(k:Int))) (λk s d c=>?_) (λs c=>?_) rfl
 .subst c;have e:k=0\/k=1:=ŉ;rcases e with rfl|rfl
  .refine Cq.wp.yes (by show(0:Int)<2;decide) ⟨a,⟨ĳ,rfl⟩,?_⟩;have:i64.wrap (0+(a.length:Int))=(a.length:Int):=by rw[wrap64 ŉ];omega
   refine Cq.wp.no (by rw[ą rfl,this];omega) ?_;show _=_;rw[ą rfl,this];rfl
  refine Cq.wp.yes (by show(1:Int)<2;decide) ⟨b,⟨ĳ,rfl⟩,?_⟩;have:i64.wrap ((a.length:Int)+(b.length:Int))=(a.length:Int)+(b.length:Int):=by rw[wrap64 ŉ]
  refine Cq.wp.no (by rw[ā ĳ,ą rfl,this];omega) ?_;show _=_;rw[ā ĳ,ą rfl,this];rfl
 subst c;refine Cq.wp.no (by show ¬(2:Int)<2;decide) ?_;refine⟨[],⟨⟨?_,?_⟩,rfl⟩,?_⟩
 .rw[ā ĳ,ā ĳ];omega
 .rw[ā ĳ,ā ĳ];omega
 refine Cq.Zn 2 (λk s=>s=(if k=0 then[]else if k=1 then a else a++b,(k:Int))) (λk s d c=>?_) (λs c=>?_) rfl
 .subst c;have e:k=0\/k=1:=ŉ;rcases e with rfl|rfl
  .refine Cq.wp.yes (by show(0:Int)<2;decide) ⟨a,⟨ĳ,rfl⟩,?_,?_⟩
   .rw[ą rfl,ļ];simp only[small];omega
   show _=_;rw[ą rfl,ļ];rfl
  refine Cq.wp.yes (by show(1:Int)<2;decide) ⟨b,⟨ĳ,rfl⟩,?_,?_⟩
  .rw[ā ĳ,ą rfl,Ā];simp only[small];omega
  show _=_;rw[ā ĳ,ą rfl];rfl
 subst c;refine Cq.wp.no (by show ¬(2:Int)<2;decide) ?_;show _=_;rw[ā ĳ,ā ĳ]
theorem vI{n:Int}(h:1<=n/\n<=4):∃m:Nat,n=(m:Int)/\1<=m/\m<=4:=⟨n.toNat,ŉ,ŉ,ŉ⟩
theorem uS:(wX 1).Α (þ 1):=Cq.Α.mm 20 (by decide +kernel)
theorem qh:(D2 (þ 1)).Α jc:=Cq.Α.mm 20 (by decide +kernel)
theorem uU:(ZX 1).Α (þ 1):=Cq.Α.mm 20 (by decide +kernel)
theorem qj:(Ey (þ 1)).Α jc:=Cq.Α.mm 20 (by decide +kernel)
theorem Q2{l:Ŀ Ú}(a:l.length<=100)(h:∀p∈l,ω p):(Eb l).Α (ep l):=⟨⟨a,Ć.2 λp hp=>(h p hp).gp⟩,rfl⟩
theorem R4(l:Ŀ Ú){k:Nat}(a:k<l.length):gI (l.take (k+1))=gI (l.take k)++(if l[k]=[]then[jc]else[]):=by
 unfold gI;rw[č a,aa7,Ī];congr 1;rw[ŏ];by_cases h:l[k]=[]
 .rw[ą (by simpa using h),ą h];rfl
 rw[ā (by simpa using h),ā h];rfl
theorem Ztp{n:Int}{eqs ε:Ŀ Ú}(le:eqs.length<=40)(ln:ε.length<=40)(t:∀p∈eqs,ω p)(u:∀p∈ε,ω p):(Ep n eqs ε).Α (iq n eqs ε):=by
 unfold iq;by_cases g:n<1
 .rw[ā (show ¬(1<=n/\n<=4) by omega)];exact Cq.wp.yes g rfl
 refine Cq.wp.no g ?_;by_cases A:4<n
 .rw[ā (show ¬(1<=n/\n<=4) by omega)];exact Cq.wp.yes A rfl
 refine Cq.wp.no A ?_;rw[ą ⟨ŉ,ŉ⟩];obtain⟨m,rfl,N,O⟩:=vI ⟨show 1<=n by omega,ŉ⟩;have q:∀p∈eqs++ε,ω p:=λp hp=>(Ĩ.1 hp).elim (t p) (u p);refine⟨eqs++ε,Zvg ŉ ŉ,?_⟩;have C:(eqs++ε).length<=100:=by rw[Ā];omega
 generalize L:eqs++ε=l at *;refine(Pu (m:Int) l (0,iL)).mono (p:=λo=>match o with|.inl v=>v=(iL,1)/\(l.all λp=>Ñ p (m:Int))=false|.inr _=>(l.all λp=>Ñ p (m:Int))=true) (λo h=>?_) (Cq.Zn l.length (λk s=>s=((k:Int),iL)/\∀i (h:i<l.length),i<k->Ñ l[i] (m:Int)=true) ?_ ?_ ⟨rfl,λi _ h=>absurd h (ı _)⟩);rotate_left
 .rintro k s a ⟨rfl,g⟩;refine Cq.wp.yes ŉ ⟨_,Ξ a,_,Znv (q _ (ă a)) ŉ,?_⟩;by_cases j:Ñ l[k] (m:Int)=true
  .rw[j];refine Cq.wp.no ĳ ⟨by rw[ψ ŉ],λi hi G=>?_⟩;by_cases e:i=k
   .subst e;exact j
   exact g i hi ŉ
  rw[Ź.2 j];refine Cq.wp.yes ĳ ⟨rfl,Ź.2 λr=>?_⟩;exact j (Ć.1 r _ (ă a))
 .rintro s ⟨rfl,g⟩;refine Cq.wp.no ŉ ?_;refine Ć.2 λp hp=>?_;obtain⟨i,hi,rfl⟩:=ž hp;exact g i hi hi
 match o,h with
 |.inl v,⟨I,j⟩=>rw[j,ā ĳ];exact I
 |.inr _,r=>
  rw[ą r];show(Px (m:Int) eqs ε).Α _;refine Cq.Zn eqs.length (λk s=>s=(kept (eqs.take k) false,(k:Int))) (λk s a d=>?_) (λs d=>?_) rfl
  .subst d;refine Cq.wp.yes ŉ ⟨_,Ξ a,?_⟩;have d:=A7 eqs false a;have:=vA (eqs.take k) false;rw[Č]at this;by_cases c:eqs[k]=[]
   .refine Cq.wp.no (by rw[c];decide) ?_;show _=_;rw[d,c,ā ĳ,ę,ψ ŉ]
   have hp:0<eqs[k].length:=ş.2 c;refine Cq.wp.yes ŉ ⟨_,Kt (t _ (ă a)) c,?_,?_⟩
   .rw[Ā,ė];simp only[small];omega
   show _=_;have a:gY false (Χ eqs[k])=true:=by
    have:(Χ eqs[k]).isEmpty=false:=by simpa using λe=>c (Bn.1 e)
    unfold gY;rw[this];rfl
   rw[d,a,ą rfl,ψ ŉ]
  subst d;refine Cq.wp.no ŉ ?_;rw[ě (ĉ _)];show(Pw (m:Int) ε (kept eqs false)).Α _;refine Cq.Zn ε.length (λk s=>s=(kept eqs false++gI (ε.take k),kept (ε.take k) true,(k:Int))) (λk s a d=>?_) (λs d=>?_) (by show _=_;rw[Ś];show _=(kept eqs false++[],_,_);rw[ę];rfl)
  .subst d;have d:=A7 ε true a;have y:=R4 ε a;have D:=vA (ε.take k) true;have J:=vA eqs false;have K:=F6 (ε.take k);rw[Č]at D K;refine Cq.wp.yes ŉ ⟨_,Ξ a,?_⟩;by_cases c:ε[k]=[]
   .refine Cq.wp.yes (by rw[c];rfl) ⟨_,uS,_,qh,?_,?_⟩
    .rw[Ā,Ā,ė];simp only[small];omega
    show _=_;rw[d,y,c,ą rfl,ā ĳ,ę,ψ ŉ,Đ]
   have hp:0<ε[k].length:=ş.2 c;have f:=u _ (ă a);have x:(Χ ε[k]).isEmpty=false:=by simpa using λe=>c (Bn.1 e)
   have H:=Kq f c;refine Cq.wp.no ŉ ⟨_,yG f,?_⟩;by_cases B:0<gi ε[k]
   .refine Cq.wp.yes B ⟨_,Kt f c,?_,?_⟩
    .rw[Ā,ė];simp only[small];omega
    show _=_;have a:gY true (Χ ε[k])=true:=by unfold gY;rw[x,xD,decide_eq_false ŉ];rfl
    rw[d,y,ā c,a,ą rfl,ψ ŉ,ę]
   refine Cq.wp.no B ?_;show _=_;have a:gY true (Χ ε[k])=false:=by unfold gY;rw[xD,decide_eq_true ŉ];simp
   rw[d,y,ā c,a,ā ĳ,ψ ŉ,ę,ę]
  subst d;refine Cq.wp.no ŉ ?_;rw[ě (ĉ _)];show(Pv (m:Int) (hQ eqs ε) (kept ε true)).Α _;have D:=TZ eqs ε;have J:=vA ε true;refine⟨_,Q2 ŉ (Zzs t),_,Q2 ŉ (Fs u),?_⟩;by_cases E:12<(ep (hQ eqs ε)).length
  .rw[ą E];exact Cq.wp.yes ŉ rfl
  rw[ā E];refine Cq.wp.no ŉ ?_;by_cases F:12<(ep (kept ε true)).length
  .rw[ą F];exact Cq.wp.yes ŉ rfl
  rw[ā F];exact Cq.wp.no ŉ rfl
theorem Rh{n:Int}{eqs ε:Ŀ Ú}(le:eqs.length<=40)(ln:ε.length<=40)(g:∀p∈eqs,ω p)(j:∀p∈ε,ω p):(Fb n eqs ε).Α (iq n eqs ε):=by
 unfold iq;by_cases d:n<1
 .rw[ā (show ¬(1<=n/\n<=4) by omega)];exact Cq.wp.yes d rfl
 refine Cq.wp.no d ?_;by_cases f:4<n
 .rw[ā (show ¬(1<=n/\n<=4) by omega)];exact Cq.wp.yes f rfl
 refine Cq.wp.no f ?_;rw[ą ⟨ŉ,ŉ⟩];obtain⟨m,rfl,A,r⟩:=vI ⟨show 1<=n by omega,ŉ⟩;refine⟨_,UD ŉ g r,?_⟩;rw[List.all_append];cases x:eqs.all λp=>Ñ p (m:Int)with
 |false=>exact rfl
 |true=>
 refine⟨_,UD ŉ j r,?_⟩;cases y:ε.all λp=>Ñ p (m:Int)with
 |false=>exact Cq.wp.yes ĳ rfl
 |true=>
 refine Cq.wp.no ĳ ?_;rw[ą ĳ];refine⟨?_,?_⟩
 .rw[ļ];simp only[small];omega
 rw[ļ];refine Cq.Zn ε.length (λk s=>s=(eqs++gI (ε.take k),(k:Int))) (λk s i c=>?_) (λs c=>?_) (by show _=_;rw[Ś];show _=(eqs++[],_);rw[ę];rfl)
 .subst c;have l:=R4 ε i;have q:=F6 (ε.take k);rw[Č]at q;refine Cq.wp.yes ŉ ⟨_,Ξ i,?_⟩;by_cases a:ε[k]=[]
  .refine Cq.wp.yes (by rw[a];rfl) ⟨_,uU,_,qj,?_,?_⟩
   .rw[Ā,Ā,ė];simp only[small];omega
   show _=_;rw[l,a,ą rfl,ψ ŉ,Đ]
  have hp:0<ε[k].length:=ş.2 a;refine Cq.wp.no ŉ ?_;show _=_;rw[l,ā a,ψ ŉ,ę]
 subst c;refine Cq.wp.no ŉ ?_;rw[ě (ĉ _)];show(P9 (m:Int) ε (eqs++gI ε)).Α _;have q:=F6 ε;have v:∀p∈eqs++gI ε,ω p:=λp hp=>(Ĩ.1 hp).elim (g p) (λh=>by rw[LY p h];exact Bw);have e:kept (eqs++gI ε) false=hQ eqs ε:=by rw[Ztx,SU];rfl
 refine⟨_,PL (by rw[Ā];omega) v false,_,PL ŉ j true,?_⟩;rw[e];by_cases t:12<(ep (hQ eqs ε)).length
 .rw[ą t];exact Cq.wp.yes ŉ rfl
 rw[ā t];refine Cq.wp.no ŉ ?_;by_cases u:12<(ep (kept ε true)).length
 .rw[ą u];exact Cq.wp.yes ŉ rfl
 rw[ā u];exact Cq.wp.no ŉ rfl
end Go.EL

