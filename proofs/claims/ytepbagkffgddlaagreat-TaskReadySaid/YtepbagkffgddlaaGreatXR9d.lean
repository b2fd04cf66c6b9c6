/- The law TaskReady holds for every input: a part of its proof (fY the code does, plain models, and fY they return). No condition. -/
import Derived.Test.YtepbagkffgddlaaGreatXR9c
import Derived.Test.YtepbagkffgddlaaGreatXR9b
set_option linter.unusedVariables false
set_option linter.unusedSimpArgs false
namespace Go.EL
open Go.IntKind (i8 i16 i32 i64 u8 u16 u32 u64)
open Go Go.EL Go.RowKit Go.Proofs
def fo(c:Zf):Bool:=match c.num.χ,c.den.χ with
 |[w],[d]=>!c.den.neg&&decide (d=1)&&decide (1<=w)&&decide (w<=12)
 |_,_=>false
def Î(c:Zf):Int:=if c.num.neg=true then-c.num.χ.headD 0 else c.num.χ.headD 0
def fB(s t:Za):Int:=if s.m=t.m then(if Î s.c<Î t.c then -1 else if Î s.c=Î t.c then 0 else 1)else Û s.m t.m
def ë:Ŀ Za->Ŀ Za->Int
 |[],[]=>0
 |[],_::_=>-1
 |_::_,[]=>1
 |s::p,t::q=>if fB s t=0 then ë p q else fB s t
def Ñ(p:Ŀ Za):Bool:=decide (p.length<=1000)&&p.all λt=>fo t.c
def zH(x:Ŀ Za):Ŀ (Ŀ Za)->Ŀ (Ŀ Za)
 |[]=>[x]
 |y::l=>if 0<ë x y then y::zH x l else x::y::l
def jy(l:Ŀ (Ŀ Za)):Ŀ (Ŀ Za):=l.foldr zH []
def jO(x:Ŀ Za):Ŀ (Ŀ Za)->Ŀ (Ŀ Za)
 |[]=>[]
 |y::l=>if ë y x=0 then jO y l else y::jO y l
def gh:Ŀ (Ŀ Za)->Ŀ (Ŀ Za)
 |[]=>[]
 |x::l=>x::jO x l
def Ed(l:Ŀ (Ŀ Za)):Cq (Ŀ (Ŀ Za)):=Cq.ì (l.length<=100/\l.all Ñ=true) (Cq.ret (gh (jy l)))
def iF:Nat->Int->Ŀ Int
 |0,n=>[u8.wrap n]
 |f+1,n=>if 128<=n then u8.wrap (u8.wrap (Int.tmod n 128)+128)::iF f (u64.wrap (Int.tdiv n 128))else[u8.wrap n]
def fw(n:Int):Ŀ Int:=iF 10 n
def lq(n:Int):Ŀ Int:=fw (u64.wrap (2*u64.wrap n))
def fE(d:Int):Ŀ Int:=[u8.wrap (Int.fdiv d (2 ^ (min (24:Int).toNat u32.bits))),u8.wrap (Int.fdiv d (2 ^ (min (16:Int).toNat u32.bits))),u8.wrap (Int.fdiv d (2 ^ (min (8:Int).toNat u32.bits))),u8.wrap d]
def lj(a:Zg):Ŀ Int:=fw (if a.neg=true then u64.wrap (u64.wrap (2*u64.wrap (a.χ.length:Int))+1)else u64.wrap (2*u64.wrap (a.χ.length:Int)))++a.χ.flatMap fE
def mu(a:Zf):Ŀ Int:=lj a.num++lj a.den
def iE(m:Fin 8->Int):Nat->Ŀ Int
 |0=>[]
 |k+1=>iE m k++fw (u64.wrap (Ε m (k:Int)))
def fU(t:Za):Ŀ Int:=mu t.c++iE t.m 8
def fD(p:Ŀ Za):Ŀ Int:=fw (u64.wrap (p.length:Int))++p.flatMap fU
def fQ(l:Ŀ (Ŀ Za)):Ŀ Int:=fw (u64.wrap (l.length:Int))++l.flatMap fD
def gV(k:Zb):Ŀ Int:=lq k.n++fQ k.eqs++fQ k.δ
def yd(f:Fin 8->Int)(a b:Nat):Fin 8->Int:=ζ (ζ f a (Ε f (b:Int))) b (Ε f (a:Int))
def oV(f:Fin 8->Int)(b a:Nat):Nat->Fin 8->Int
 |0=>f
 |k+1=>yd (oV f b a k) (b+k) (b+(a-1-k))
def kH(p:Fin 8->Int):Nat->ŀ Nat
 |0=>none
 |k+1=>if Ε p ((k+1:Nat):Int)<Ε p (k:Int)then kH p k else some k
def vX(p:Fin 8->Int)(x:Int):Nat->Nat
 |0=>0
 |j+1=>if Ε p ((j+1:Nat):Int)<x then vX p x j else j+1
def n0(n:Nat)(p:Fin 8->Int):ŀ (Fin 8->Int):=match kH p (n-1)with
 |none=>none
 |some i=>some (oV (yd p i (vX p (Ε p (i:Int)) (n-1))) (i+1) (n-(i+1)) ((n-(i+1)) / 2))
def sH(n:Nat):Nat->(Fin 8->Int)->Ŀ (Fin 8->Int)
 |0,_=>[]
 |k+1,p=>p::match n0 n p with|none=>[]|some q=>sH n k q
def Β(n:Nat):Ŀ (Fin 8->Int):=sH n 24 λi=>(i.val:Int)
def kx(n:Int):Ŀ Int:=if 0<=n then lq n else fw (u64.wrap (u64.wrap (2*u64.wrap (i64.wrap (0-i64.wrap (n+1))))+1))
def fW(m:Fin 8->Int):Nat->Ŀ Int
 |0=>[]
 |k+1=>fW m k++kx (Ε m (k:Int))
def jz(o:Ŀ (Fin 8->Int)):Ŀ Int:=fw (u64.wrap (o.length:Int))++o.flatMap λm=>fW m 8
def oG(q:Zc):Ŀ Int:=kx q.kind++fD q.p++jz q.o
def lf(s t:Ze):Int:=if s.υ<t.υ then -1 else if t.υ<s.υ then 1 else if s.id<t.id then -1 else if t.id<s.id then 1 else 0
def Aw:Ĳ:=⟨#[90,101,100]⟩
def Ax:Ĳ:=⟨#[121,95,49]⟩
def Ay:Ĳ:=⟨#[120]⟩
def QO:Ĳ:=⟨#[0,1,2,2,3,3,3,3,4,4,4,4,4,4,4,4,5,5,5,5,5,5,5,5,5,5,5,5,5,5,5,5,6,6,6,6,6,6,6,6,6,6,6,6,6,6,6,6,6,6,6,6,6,6,6,6,6,6,6,6,6,6,6,6,7,7,7,7,7,7,7,7,7,7,7,7,7,7,7,7,7,7,7,7,7,7,7,7,7,7,7,7,7,7,7,7,7,7,7,7,7,7,7,7,7,7,7,7,7,7,7,7,7,7,7,7,7,7,7,7,7,7,7,7,7,7,7,7,8,8,8,8,8,8,8,8,8,8,8,8,8,8,8,8,8,8,8,8,8,8,8,8,8,8,8,8,8,8,8,8,8,8,8,8,8,8,8,8,8,8,8,8,8,8,8,8,8,8,8,8,8,8,8,8,8,8,8,8,8,8,8,8,8,8,8,8,8,8,8,8,8,8,8,8,8,8,8,8,8,8,8,8,8,8,8,8,8,8,8,8,8,8,8,8,8,8,8,8,8,8,8,8,8,8,8,8,8,8,8,8,8,8,8,8,8,8,8,8,8,8,8,8,8,8,8,8]⟩
def OY(k:Int):Cq (Ŀ (Ŀ Za)):=Cq.ì (0<=k/\k<=1000000) (Cq.ret [])
def Znb(b:(Fin 8->Int))(c:(Fin 8->Int))(a:Int):Cq Int:=
 Cq.ì (0<=a/\a<8) (Cq.ì (0<=a/\a<8) (if(Ε b a)<(Ε c a)then(Cq.ret (-1))else(Cq.ret 1)))
def Zna(b:(Fin 8->Int))(c:(Fin 8->Int)):Int->Cq Int:=
 Cq.loop λd=>match d with|a=>Cq.ì (0<=a/\a<8) (Cq.ì (0<=a/\a<8) (if(Ε b a)=(Ε c a)then(Cq.ret (.inl (i64.wrap (a+1))))else(Cq.ret (.inr a))))
def yB(a:(Fin 8->Int))(b:(Fin 8->Int)):Cq Int:=
 if a=b then(Cq.ret 0)else(Cq.next (Zna a b 0) λc=>match c with|d=>Znb a b d)
def O5(b:Za)(c:Za):Cq Int:=
 Cq.bind (yB c.m b.m) λa=>Cq.ret a
def Z0(l:Ŀ Za)(a b c:Int):Cq (Ŀ Za):=
 Cq.ì (a=0/\b=(l.length:Int)/\(0<=c/\c<1000000)/\l.length<=1000000) (Cq.any (λd=>d.Perm l/\d.Pairwise (λx y=>¬Û x.m y.m<0)) Cq.ret)
def ve(a:Zg):Cq Int:=
 if(a.χ.length:Int)=0 then(Cq.ret 0)else(if a.neg=true then(Cq.ret (-1))else(Cq.ret 1))
def ZH(b:Zf):Cq Int:=
 Cq.bind (ve b.num) λa=>Cq.ret a
def Zm0(b:(Ŀ Int))(a:Int):Cq (Ŀ Int):=
 Cq.ì (0<=(0:Int)/\(0:Int)<=a/\a<=(b.length:Int)) (Cq.ret ((b.take a.toNat).drop (0:Int).toNat))
def ZmZ(b:(Ŀ Int)):Int->Cq Int:=
 Cq.loop λc=>match c with|a=>if 0<a then(Cq.Θ b (i64.wrap (a-1)) λd=>if d=0 then(Cq.ret (.inl (i64.wrap (a-1))))else(Cq.ret (.inr a)))else(Cq.ret (.inr a))
def ZY(a:(Ŀ Int)):Cq (Ŀ Int):=
 Cq.next (ZmZ a (a.length:Int)) λb=>match b with|c=>Zm0 a c
def Aj(a:Int):Cq (Ŀ Int):=
 Cq.bind (ZY [u32.wrap a,u32.wrap (Int.fdiv a (2 ^ (min (32:Int).toNat u64.bits)))]) λb=>Cq.ret b
def ZS(b:Bool)(c:(Ŀ Int)):Cq Zg:=
 Cq.bind (ZY c) λa=>if(a.length:Int)=0 then(Cq.ret (Zg.mk false []))else(Cq.ret (Zg.mk b a))
def yI(a:Int):Cq Zg:=
 if a<0 then(Cq.bind (Aj (u64.wrap (0-(u64.wrap a)))) λb=>Cq.bind (ZS (decide (a<0)) b) λc=>Cq.ret c)else(Cq.bind (Aj (u64.wrap a)) λd=>Cq.bind (ZS (decide (a<0)) d) λe=>Cq.ret e)
def wO(a:Zg):Cq Bool:=
 if a.neg=true then(Cq.ret false)else(if(a.χ.length:Int)=1 then(Cq.Θ a.χ 0 λb=>Cq.ret (decide (b=1)))else(Cq.ret false))
def ZjU(a:(Ŀ Int)):Cq (Ŀ Int):=
 Cq.bind (ZY a) λb=>Cq.ret b
def ZjV(b:(Ŀ Int))(a:Int)(c:(Ŀ Int))(d:Int):Cq (((Ŀ Int)×Int)⊕(Ŀ Int)):=
 Cq.Θ c (i64.wrap (a+(b.length:Int))) λe=>Cq.ret (.inl ((c.set (i64.wrap (a+(b.length:Int))).toNat (u32.wrap d)),i64.wrap (a+1)))
def ZjT(e:(Ŀ Int))(b:Int)(f:Int):((Ŀ Int)×Int×Int)->Cq (((Ŀ Int)×Int)):=
 Cq.loop λi=>match i with|(c,d,a)=>if a<(e.length:Int)then(Cq.Θ e a λg=>Cq.Θ c (i64.wrap (b+a)) λh=>Cq.Θ c (i64.wrap (b+a)) λj=>Cq.ret (.inl ((c.set (i64.wrap (b+a)).toNat (u32.wrap (u64.wrap ((u64.wrap ((u64.wrap ((u64.wrap f)*(u64.wrap g)))+(u64.wrap h)))+d)))),Int.fdiv (u64.wrap ((u64.wrap ((u64.wrap ((u64.wrap f)*(u64.wrap g)))+(u64.wrap h)))+d)) (2 ^ (min (32:Int).toNat u64.bits)),i64.wrap (a+1))))else(Cq.ret (.inr (c,d)))
def ZjS(b:(Ŀ Int))(c:(Ŀ Int)):((Ŀ Int)×Int)->Cq (Ŀ Int):=
 Cq.loop λg=>match g with|(d,a)=>if a<(b.length:Int)then(Cq.Θ b a λh=>Cq.next (ZjT c a h (d,0,0)) λi=>match i with|(e,f)=>ZjV c a e f)else(Cq.ret (.inr d))
def Pe(a:(Ŀ Int))(b:(Ŀ Int)):Cq (Ŀ Int):=
 Cq.ì (0<=i64.wrap ((a.length:Int)+(b.length:Int))/\(i64.wrap ((a.length:Int)+(b.length:Int)))<=1000000) (Cq.next (ZjS a b ((List.replicate (i64.wrap ((a.length:Int)+(b.length:Int))).toNat 0),0)) λd=>match d with|c=>ZjU c)
def EA(a:Zg)(b:Zg):Cq Zg:=
 Cq.bind (Pe a.χ b.χ) λc=>Cq.bind (ZS (decide (¬a.neg=b.neg)) c) λd=>Cq.ret d
def Zjc(a:Zg):Cq Zg:=
 Cq.ret a
def Zjb(d:(Ŀ Zg)):(Int×Zg)->Cq Zg:=
 Cq.loop λh=>match h with|(a,b)=>if a<(d.length:Int)then(Cq.Θ d a λc=>Cq.bind (wO c) λe=>if e=true then(Cq.ret (.inl (i64.wrap (a+1),b)))else(Cq.bind (wO b) λf=>if f=true then(Cq.ret (.inl (i64.wrap (a+1),c)))else(Cq.bind (EA b c) λg=>Cq.ret (.inl (i64.wrap (a+1),g)))))else(Cq.ret (.inr b))
def Z8(c:(Ŀ Zg)):Cq Zg:=
 Cq.bind (yI 1) λa=>Cq.next (Zjb c (0,a)) λd=>match d with|b=>Zjc b
def ZjR:Cq Int:=
 Cq.ret 0
def ZjQ(b:(Ŀ Int))(c:(Ŀ Int)):Int->Cq (Int⊕Unit):=
 Cq.loop λd=>match d with|a=>if 0<=a then(Cq.Θ b a λe=>Cq.Θ c a λf=>if ¬e=f then(Cq.Θ b a λg=>Cq.Θ c a λh=>if g<h then(Cq.ret (.inr (.inl (-1))))else(Cq.ret (.inr (.inl 1))))else(Cq.ret (.inl (i64.wrap (a-1)))))else(Cq.ret (.inr (.inr ())))
def Ak(a:(Ŀ Int))(b:(Ŀ Int)):Cq Int:=
 if ¬(a.length:Int)=(b.length:Int)then(if(a.length:Int)<(b.length:Int)then(Cq.ret (-1))else(Cq.ret 1))else(Cq.next (ZjQ a b (i64.wrap ((a.length:Int)-1))) λd=>match d with|.inl c=>Cq.ret c|.inr ()=>ZjR)
def Ri(b:Zg)(c:Zg):Cq Int:=
 Cq.bind (ve b) λa=>Cq.bind (ve c) λd=>if ¬a=d then Cq.fail else(if a<0 then(Cq.bind (Ak c.χ b.χ) λe=>Cq.ret e)else(Cq.bind (Ak b.χ c.χ) λf=>Cq.ret f))
def vf(c:Zf)(d:Zf):Cq Int:=
 Cq.bind (ZH c) λa=>Cq.bind (ZH d) λb=>if ¬a=b then(if a<b then(Cq.ret (-1))else(Cq.ret 1))else(Cq.bind (Z8 [c.num,d.den]) λe=>Cq.bind (Z8 [d.num,c.den]) λf=>Cq.bind (Ri e f) λg=>Cq.ret g)
def D1(a:Za)(b:Za):Cq Int:=
 if ¬a.m=b.m then(Cq.bind (yB a.m b.m) λd=>Cq.ret d)else(Cq.bind (vf a.c b.c) λe=>Cq.ret e)
def Zz(a:(Ŀ Za))(b:(Ŀ Za)):Cq Int:=
 if(a.length:Int)<(b.length:Int)then(Cq.ret (-1))else(Cq.ret 0)
def ZI(b:(Ŀ Za))(c:(Ŀ Za)):Int->Cq (Int⊕Unit):=
 Cq.loop λe=>match e with|a=>if a<(b.length:Int)then(Cq.Θ b a λf=>if(c.length:Int)<=a then(Cq.ret (.inr (.inl 1)))else(Cq.Θ c a λg=>Cq.bind (D1 f g) λd=>if ¬d=0 then(Cq.ret (.inr (.inl d)))else(Cq.ret (.inl (i64.wrap (a+1))))))else(Cq.ret (.inr (.inr ())))
def ZB(a:(Ŀ Za))(b:(Ŀ Za)):Cq Int:=
 Cq.next (ZI a b 0) λd=>match d with|.inl c=>Cq.ret c|.inr ()=>Zz a b
def D6(b:(Ŀ Za))(c:(Ŀ Za)):Cq Int:=
 Cq.bind (ZB b c) λa=>Cq.ret a
def O0(l:Ŀ (Ŀ Za))(a b c:Int):Cq (Ŀ (Ŀ Za)):=
 Cq.ì (a=0/\b=(l.length:Int)/\(0<=c/\c<1000000)/\l.length<=1000000/\l.all Ñ=true) (Cq.ret (jy l))
def D0(a:Za)(b:Za):Cq Bool:=
 if a.m=b.m then(Cq.bind (vf a.c b.c) λd=>Cq.ret (decide (d=0)))else(Cq.ret false)
def Z4:Cq Bool:=
 Cq.ret true
def ZJ(b:(Ŀ Za))(c:(Ŀ Za)):Int->Cq (Bool⊕Unit):=
 Cq.loop λe=>match e with|a=>if a<(b.length:Int)then(Cq.Θ b a λf=>Cq.Θ c a λg=>Cq.bind (D0 f g) λd=>if(!d)=true then(Cq.ret (.inr (.inl false)))else(Cq.ret (.inl (i64.wrap (a+1)))))else(Cq.ret (.inr (.inr ())))
def ZC(a:(Ŀ Za))(b:(Ŀ Za)):Cq Bool:=
 if ¬(a.length:Int)=(b.length:Int)then(Cq.ret false)else(Cq.next (ZJ a b 0) λd=>match d with|.inl c=>Cq.ret c|.inr ()=>Z4)
def ZU(b:(Ŀ Za))(c:(Ŀ Za)):Cq Bool:=
 Cq.bind (ZC b c) λa=>Cq.ret a
def Zj5(a:Int)(b:Int):Cq Int:=
 Cq.ì (0<=(u8.wrap a:Int)/\(u8.wrap a)<(QO.size:Int)) (Cq.ret (i64.wrap (b+(i64.wrap (eQ QO (u8.wrap a))))))
def Zj6(a:Int)(b:Int):Cq Int:=
 if 256<=a then Cq.fail else(Zj5 a b)
def Zj7(a:Int)(b:Int):Cq Int:=
 if 65536<=a then Cq.fail else(Zj6 a b)
def Pf(a:Int):Cq Int:=
 if 4294967296<=a then Cq.fail else(Zj7 a 0)
def tR(b:Int):Cq Int:=
 Cq.bind (Pf b) λa=>Cq.ret a
def ZQ(a:(Ŀ (Ŀ Za))):Cq ((Ŀ (Ŀ Za))):=
 Cq.bind (tR (u64.wrap (a.length:Int))) λb=>Cq.bind (O0 a 0 (a.length:Int) b) λc=>Cq.ret c
def Ai(a:(Ŀ Int)):Cq (Ŀ Int):=
 Cq.ì (([]++a).length<=small) (Cq.ret ([]++a))
def Zl7(a:Int):Cq Int:=
 Cq.ret a
def Zl6(b:(Ŀ Int)):(Int×Int)->Cq Int:=
 Cq.loop λd=>match d with|(c,a)=>if a<(b.length:Int)then(Cq.Θ b a λe=>Cq.ì (0<=(i64.wrap (32*a))) (Cq.ret (.inl (u64.wrap (BitVec.ofInt u64.bits c ||| BitVec.ofInt u64.bits (u64.wrap ((u64.wrap e)*2 ^ (min (i64.wrap (32*a)).toNat u64.bits)))).toNat,i64.wrap (a+1)))))else(Cq.ret (.inr c))
def JX(a:(Ŀ Int)):Cq Int:=
 Cq.next (Zl6 a (0,0)) λb=>match b with|c=>Zl7 c
def Zg9(c:(Ŀ Int))(a:Int):Cq ((Ŀ Int)×Int):=
 Cq.bind (ZY c) λb=>Cq.ret (b,a)
def Zg8(f:(Ŀ Int))(c:Int):((Ŀ Int)×Int×Int)->Cq (((Ŀ Int)×Int)):=
 Cq.loop λg=>match g with|(d,a,b)=>if 0<=b then(Cq.Θ f b λe=>Cq.ì (c≠0) (Cq.Θ d b λh=>Cq.ì (c≠0) (Cq.ret (.inl ((d.set b.toNat (u32.wrap (u64.wrap (Int.tdiv (u64.wrap (BitVec.ofInt u64.bits (u64.wrap (a*2 ^ (min (32:Int).toNat u64.bits))) ||| BitVec.ofInt u64.bits (u64.wrap e)).toNat) c)))),Int.tmod (u64.wrap (BitVec.ofInt u64.bits (u64.wrap (a*2 ^ (min (32:Int).toNat u64.bits))) ||| BitVec.ofInt u64.bits (u64.wrap e)).toNat) c,i64.wrap (b-1))))))else(Cq.ret (.inr (d,a)))
def O4(a:(Ŀ Int))(c:Int):Cq ((Ŀ Int)×Int):=
 Cq.ì (0<=(a.length:Int)/\(a.length:Int)<=1000000) (Cq.next (Zg8 a c ((List.replicate (a.length:Int).toNat 0),0,i64.wrap ((a.length:Int)-1))) λd=>match d with|(e,b)=>Zg9 e b)
def JF(d:(Ŀ Int))(e:(Ŀ Int)):Cq ((Ŀ Int)×(Ŀ Int)):=
 Cq.bind (ZY d) λa=>Cq.bind (ZY e) λb=>Cq.bind (Ak a b) λf=>if f<0 then(Cq.bind (Ai a) λg=>Cq.ret ([],g))else(if(b.length:Int)=1 then(Cq.Θ b 0 λi=>Cq.bind (O4 a (u64.wrap i)) λc=>Cq.bind (Aj c.2) λh=>Cq.ret (c.1,h))else Cq.fail)
def Zoa(b:(Ŀ Int)):Cq Zg:=
 Cq.bind (ZS false b) λa=>Cq.ret a
def Zob(c:Int):Cq (((Ŀ Int)×(Ŀ Int)×Zg)⊕(Zg⊕((Ŀ Int)×Zg))):=
 Cq.bind (Aj c) λb=>Cq.bind (ZS false b) λa=>Cq.ret (.inr (.inl a))
def Zn9:(Int×Int)->Cq Int:=
 Cq.loop λc=>match c with|(b,a)=>if 0<a then(Cq.ì (a≠0) (Cq.ret (.inl (a,Int.tmod b a))))else(Cq.ret (.inr b))
def JE(d:(Ŀ Int))(a:(Ŀ Int))(e:Zg)(b:Bool):Cq (((Ŀ Int)×(Ŀ Int)×Zg)⊕(Zg⊕((Ŀ Int)×Zg))):=
 if b=true then(Cq.bind (JX d) λf=>Cq.bind (JX a) λg=>Cq.next (Zn9 (f,g)) λh=>match h with|i=>Zob i)else(Cq.bind (JF d a) λc=>Cq.ret (.inl (a,c.2,e)))
def Zn8:((Ŀ Int)×(Ŀ Int)×Zg)->Cq (Zg⊕((Ŀ Int)×Zg)):=
 Cq.loop λd=>match d with|(c,a,b)=>if 0<(a.length:Int)then(if(c.length:Int)<=2 then(JE c a b (decide ((a.length:Int)<=2)))else(JE c a b false))else(Cq.ret (.inr (.inr (c,b))))
def w9(f:Zg)(g:Zg):Cq Zg:=
 Cq.bind (ZY f.χ) λa=>Cq.bind (Ai a) λb=>Cq.bind (ZY g.χ) λc=>Cq.bind (Ai c) λd=>Cq.next (Zn8 (b,d,(Zg.mk false []))) λh=>match h with|.inl e=>Cq.ret e|.inr (i,j)=>Zoa i
def JW(a:Zg):Cq Bool:=
 if(a.χ.length:Int)=0 then(Cq.ret (!a.neg))else(Cq.Θ a.χ (i64.wrap ((a.χ.length:Int)-1)) λb=>Cq.ret (decide (¬b=0)))
def ZkY(a:Zf):Cq Bool:=
 Cq.bind (wO a.den) λb=>match b with|false=>(Cq.bind (w9 a.num a.den) λc=>Cq.bind (wO c) λd=>Cq.ret d)|true=>(Cq.ret true)
def ZZ(a:Zf):Cq Bool:=
 Cq.bind (JW a.num) λb=>match b with|false=>(Cq.ret false)|true=>(Cq.bind (JW a.den) λc=>match c with|false=>(Cq.ret false)|true=>(Cq.bind (ve a.den) λd=>if d<=0 then Cq.fail else(ZkY a)))
def ZkX:Cq Bool:=
 Cq.ret true
def ZkW(b:(Fin 8->Int)):Int->Cq (Bool⊕Unit):=
 Cq.loop λc=>match c with|a=>if a<8 then(Cq.ì (0<=a/\a<8) (if(Ε b a)<0 then(Cq.ret (.inr (.inl false)))else(if 65535<(Ε b a)then Cq.fail else(Cq.ret (.inl (i64.wrap (a+1)))))))else(Cq.ret (.inr (.inr ())))
def D4(b:(Fin 8->Int)):Cq Bool:=
 Cq.next (ZkW b 0) λc=>match c with|.inl a=>Cq.ret a|.inr ()=>ZkX
def Zja:Cq Bool:=
 Cq.ret true
def I4(c:(Ŀ Za))(a:Int)(d:Za):Cq (Int⊕(Bool⊕Unit)):=
 if 0<a then(Cq.Θ c (i64.wrap (a-1)) λe=>Cq.bind (yB e.m d.m) λb=>if b<=0 then Cq.fail else(Cq.ret (.inl (i64.wrap (a+1)))))else(Cq.ret (.inl (i64.wrap (a+1))))
def Zi9(d:(Ŀ Za)):Int->Cq (Bool⊕Unit):=
 Cq.loop λh=>match h with|a=>if a<(d.length:Int)then(Cq.Θ d a λb=>Cq.bind (ZZ b.c) λe=>match e with|false=>(Cq.ret (.inr (.inl false)))|true=>(Cq.bind (ZH b.c) λf=>if f=0 then(Cq.ret (.inr (.inl false)))else(Cq.bind (D4 b.m) λg=>if(!g)=true then(Cq.ret (.inr (.inl false)))else(I4 d a b))))else(Cq.ret (.inr (.inr ())))
def Ae(b:(Ŀ Za)):Cq Bool:=
 Cq.next (Zi9 b 0) λc=>match c with|.inl a=>Cq.ret a|.inr ()=>Zja
def Zi6(a:Int):Cq Int:=
 Cq.ret a
def Zi5(c:(Fin 8->Int)):(Int×Int)->Cq Int:=
 Cq.loop λd=>match d with|(b,a)=>if a<8 then(Cq.ì (0<=a/\a<8) (if 0<(Ε c a)then(Cq.ì (0<=a) (Cq.ret (.inl (u8.wrap (BitVec.ofInt u8.bits b ||| BitVec.ofInt u8.bits (u8.wrap (1*2 ^ (min (a).toNat u8.bits)))).toNat,i64.wrap (a+1)))))else(Cq.ret (.inl (b,i64.wrap (a+1))))))else(Cq.ret (.inr b))
def Jp(a:(Fin 8->Int)):Cq Int:=
 Cq.next (Zi5 a (0,0)) λb=>match b with|c=>Zi6 c
def Zkk(a:Int):Cq Int:=
 Cq.ret a
def Zkj(b:(Ŀ Za)):(Int×Int)->Cq Int:=
 Cq.loop λe=>match e with|(c,a)=>if a<(b.length:Int)then(Cq.Θ b a λf=>Cq.bind (Jp f.m) λd=>Cq.ret (.inl (u8.wrap (BitVec.ofInt u8.bits c ||| BitVec.ofInt u8.bits d).toNat,i64.wrap (a+1))))else(Cq.ret (.inr c))
def Al(a:(Ŀ Za)):Cq Int:=
 Cq.next (Zkj a (0,0)) λb=>match b with|c=>Zkk c
def Zka(a:Int):Cq Int:=
 Cq.ret a
def Zj9(c:(Fin 8->Int)):(Int×Int)->Cq Int:=
 Cq.loop λd=>match d with|(b,a)=>if a<8 then(Cq.ì (0<=a/\a<8) (Cq.ret (.inl (i64.wrap (b+(Ε c a)),i64.wrap (a+1)))))else(Cq.ret (.inr b))
def Jm(a:(Fin 8->Int)):Cq Int:=
 Cq.next (Zj9 a (0,0)) λb=>match b with|c=>Zka c
def Zir(a:Int):Cq Int:=
 Cq.ret a
def Ziq(d:(Ŀ Za)):(Int×Int)->Cq Int:=
 Cq.loop λe=>match e with|(c,a)=>if a<(d.length:Int)then(Cq.Θ d a λf=>Cq.bind (Jm f.m) λb=>Cq.ret (.inl (if c<b then b else c,i64.wrap (a+1))))else(Cq.ret (.inr c))
def wR(a:(Ŀ Za)):Cq Int:=
 Cq.next (Ziq a ((-1),0)) λb=>match b with|c=>Zir c
def é(a:ZD)(b:(Ŀ Za))(f:Int):Cq Bool:=
 Cq.bind (Ae b) λc=>match c with|false=>(Cq.ret false)|true=>(Cq.bind (Al b) λd=>Cq.ì (0<=a.k.n) (if(Int.fdiv (i64.wrap d) (2 ^ (min (a.k.n).toNat i64.bits)))=0 then(Cq.bind (wR b) λe=>Cq.ret (decide (e<=f)))else(Cq.ret false)))
def ZkV(d:Zg)(e:Zg)(f:(Ŀ Int))(a:(Ŀ Int)):Cq (Zg×Zg×Int):=
 Cq.bind (ZS (decide (¬d.neg=e.neg)) f) λb=>Cq.bind (ZS false a) λc=>Cq.ret (b,c,0)
def Pc(c:Zg)(d:Zg)(b:(Ŀ Int)×(Ŀ Int))(a:Bool):Cq (Zg×Zg×Int):=
 if a=true then Cq.fail else(ZkV c d b.1 b.2)
def Ao(b:Zg)(c:Zg):Cq (Zg×Zg×Int):=
 Cq.bind (ZY c.χ) λd=>if(d.length:Int)=0 then Cq.fail else(Cq.bind (JF b.χ c.χ) λa=>if b.neg=true then(Pc b c a (decide (0<(a.2.length:Int))))else(Pc b c a false))
def Am(c:Zg)(a:Zg):Cq Zf:=
 Cq.bind (wO a) λd=>if d=true then(Cq.ret (Zf.mk c a))else(Cq.bind (w9 c a) λb=>Cq.bind (wO b) λe=>if e=true then(Cq.ret (Zf.mk c a))else(Cq.bind (Ao c b) λf=>Cq.bind (Ao a b) λg=>Cq.ret (Zf.mk f.1 g.1)))
def Ei(e:Zg)(a:Zg):Cq (Zf×Int):=
 Cq.bind (ve a) λb=>if b=0 then Cq.fail else(Cq.bind (ve a) λc=>if c<0 then Cq.fail else(Cq.bind (Am e a) λd=>Cq.ret (d,0)))
def Znd(a:(Fin 8->Int)):Cq ((Fin 8->Int)×Int):=
 Cq.bind (D4 a) λb=>if(!b)=true then Cq.fail else(Cq.ret (a,0))
def Znc(c:(Fin 8->Int)):(Int×(Fin 8->Int))->Cq (Fin 8->Int):=
 Cq.loop λd=>match d with|(a,b)=>if a<8 then(Cq.ì (0<=a/\a<8) (Cq.ì (0<=a/\a<8) (Cq.ì (0<=a/\a<8) (Cq.ret (.inl (i64.wrap (a+1),ζ b a.toNat (i64.wrap ((Ε b a)+(Ε c a)))))))))else(Cq.ret (.inr b))
def JR(b:(Fin 8->Int))(c:(Fin 8->Int)):Cq ((Fin 8->Int)×Int):=
 Cq.next (Znc c (0,b)) λd=>match d with|a=>Znd a
def Z7(c:Zf)(d:Zf):Cq Zf:=
 Cq.bind (Am c.num d.den) λa=>Cq.bind (Am d.num c.den) λb=>Cq.bind (Z8 [a.num,b.num]) λe=>Cq.bind (Z8 [a.den,b.den]) λf=>Cq.ret (Zf.mk e f)
def Zi8(a:(Ŀ Za)):Cq ((Ŀ Za)×Int):=
 Cq.ret (a,0)
def Zi7(h:Zf)(i:(Fin 8->Int))(f:(Ŀ Za)):((Ŀ Za)×Int)->Cq (((Ŀ Za)×Int)⊕(Ŀ Za)):=
 Cq.loop λj=>match j with|(b,a)=>if a<(f.length:Int)then(Cq.Θ f a λg=>Cq.bind (JR i g.m) λd=>if ¬d.2=0 then Cq.fail else(Cq.bind (Z7 h g.c) λe=>Cq.ì ((b++[(Za.mk e d.1)]).length<=small) (Cq.ret (.inl ((b++[(Za.mk e d.1)]),i64.wrap (a+1))))))else(Cq.ret (.inr (.inr b)))
def Jq(b:Zf)(f:(Fin 8->Int))(a:(Ŀ Za)):Cq ((Ŀ Za)×Int):=
 Cq.bind (ZH b) λc=>if c=0 then Cq.fail else(Cq.ì (0<=(a.length:Int)/\(a.length:Int)<=1000000) (Cq.next (Zi7 b f a (([]:Ŀ Za),0)) λg=>match g with|.inl d=>Cq.ret d|.inr e=>Zi8 e))
def yA(a:Zg):Cq Zg:=
 Cq.bind (Ai a.χ) λb=>Cq.bind (ZS (!a.neg) b) λc=>Cq.ret c
def PH(a:(Ŀ Za))(b:Zg)(c:Zg):Cq (Ŀ Za):=
 Cq.bind (Ei c b) λd=>Cq.bind (Jq d.1 (λ_=>0) a) λe=>Cq.ret e.1
def JI(a:(Ŀ Za))(b:Zg)(d:Zg):Cq (Ŀ Za):=
 Cq.Θ a 0 λg=>Cq.bind (ZH g.c) λe=>if e<0 then(Cq.bind (yA d) λf=>PH a b f)else(PH a b d)
def PG(b:(Ŀ Za)):(Int×Zg×Zg)->Cq (Zg×Zg):=
 Cq.loop λk=>match k with|(a,e,d)=>if a<(b.length:Int)then(Cq.Θ b a λf=>Cq.bind (w9 e f.c.num) λh=>Cq.bind (w9 d f.c.den) λi=>Cq.bind (Ao f.c.den i) λj=>Cq.bind (EA d j.1) λg=>Cq.ret (.inl (i64.wrap (a+1),h,g)))else(Cq.ret (.inr (e,d)))
def As(a:(Ŀ Za)):Cq (Ŀ Za):=
 if(a.length:Int)=0 then Cq.fail else(Cq.bind (yI 0) λb=>Cq.bind (yI 1) λc=>Cq.next (PG a (0,b,c)) λf=>match f with|(d,e)=>JI a d e)
def gb:Cq Bool:=
 Cq.ret true
def ga(e:ZD)(d:(Ŀ (Ŀ Za)))(b:Int):Int->Cq (Bool⊕Unit):=
 Cq.loop λk=>match k with|a=>if a<(d.length:Int)then(Cq.Θ d a λc=>Cq.bind (é e c 12) λf=>match f with|false=>(Cq.ret (.inr (.inl false)))|true=>(Cq.bind (wR c) λg=>if g<b then(Cq.ret (.inr (.inl false)))else(Cq.bind (As c) λh=>Cq.bind (ZU h c) λi=>if(!i)=true then(Cq.ret (.inr (.inl false)))else(if 0<a then(Cq.Θ d (i64.wrap (a-1)) λl=>Cq.bind (D6 l c) λj=>if 0<=j then(Cq.ret (.inr (.inl false)))else(Cq.ret (.inl (i64.wrap (a+1)))))else(Cq.ret (.inl (i64.wrap (a+1))))))))else(Cq.ret (.inr (.inr ())))
def ÿ(b:ZD)(c:(Ŀ (Ŀ Za)))(a:Int):Cq Bool:=
 if 12<(c.length:Int)then(Cq.ret false)else(Cq.next (ga b c a 0) λe=>match e with|.inl d=>Cq.ret d|.inr ()=>gb)
def Â(a:ZD):Cq Bool:=
 if 1<=a.k.n then(if a.k.n<=4 then(Cq.bind (ÿ a a.k.eqs 0) λb=>match b with|false=>(Cq.ret false)|true=>(Cq.bind (ÿ a a.k.δ 1) λc=>Cq.ret c))else(Cq.ret false))else(Cq.ret false)
def vh(b:Zb):Cq Bool:=
 Cq.bind (Â (ZD.mk b)) λa=>Cq.ret a
def vr(k:Zb):Cq Ĳ:=Cq.bind (vh k) λv=>match v with|true=>Cq.ì (0<=k.n/\(gV k).length<=1000000) (Cq.ret (bytesOf (gV k)))|false=>Cq.ret ByteArray.empty
def ZK(a:(Ŀ Za)):Cq (Ŀ Za):=
 Cq.bind (tR (u64.wrap (a.length:Int))) λb=>Cq.bind (Z0 a 0 (a.length:Int) b) λc=>Cq.ret c
def Zit(a:(Ŀ Za)):Cq (Ŀ Za):=
 Cq.bind (ZK a) λb=>Cq.ret b
def Zis:((Ŀ Za)×Ŀ ((Fin 8->Int)×Zf))->Cq (Ŀ Za):=
 Cq.loop λd=>match d with|(a,f)=>Cq.pick f (Cq.ret (.inr a)) λb e=>Cq.bind (ZH b.2) λc=>if ¬c=0 then(Cq.ì ((a++[(Za.mk b.2 b.1)]).length<=small) (Cq.ret (.inl ((a++[(Za.mk b.2 b.1)]),e))))else(Cq.ret (.inl (a,e)))
def Jd(a:(Ŀ ((Fin 8->Int)×Zf))):Cq (Ŀ Za):=
 Cq.ì (0<=(a.length:Int)/\(a.length:Int)<=1000000) (Cq.next (Zis (([]:Ŀ Za),a)) λc=>match c with|b=>Zit b)
def Zhz(a:(Ŀ ((Fin 8->Int)×Zf))):Cq ((Ŀ Za)×Int):=
 Cq.bind (Jd a) λb=>Cq.ret (b,0)
def ZhA(b:Int)(d:(Ŀ ((Fin 8->Int)×Zf)))(e:Za)(a:(Fin 8->Int)):Cq ((Int×(Ŀ ((Fin 8->Int)×Zf)))⊕(((Ŀ ((Fin 8->Int)×Zf))))):=
 Cq.ì ((∀i,(Lit.int i64 (a i)).wf=true)/\(eV d a e.c).length<=small) (Cq.ret (.inl (i64.wrap (b+1),(eV d a e.c))))
def O7(b:(Fin 8->Int))(d:Za):(Int×(Fin 8->Int))->Cq (Fin 8->Int):=
 Cq.loop λe=>match e with|(a,c)=>if a<8 then(Cq.ì (0<=a/\a<8) (Cq.ì (0<=a/\a<8) (Cq.ì (0<=Ε b a/\(Ε b a)<8) (Cq.ret (.inl (i64.wrap (a+1),ζ c ((Ε b a).toNat) (Ε d.m a)))))))else(Cq.ret (.inr c))
def Zhx(d:(Ŀ Za))(b:(Fin 8->Int)):(Int×(Ŀ ((Fin 8->Int)×Zf)))->Cq (((Ŀ ((Fin 8->Int)×Zf)))):=
 Cq.loop λg=>match g with|(a,c)=>if a<(d.length:Int)then(Cq.Θ d a λe=>Cq.next (O7 b e (0,(λ_=>0))) λh=>match h with|f=>ZhA a c e f)else(Cq.ret (.inr c))
def O8(c:(Ŀ Za))(a:(Fin 8->Int)):Cq ((Ŀ Za)×Int):=
 Cq.next (Zhx c a (0,[])) λd=>match d with|b=>Zhz b
def Zhy(b:(Fin 8->Int)):(Int×(Fin 8->Bool))->Cq (((Ŀ Za)×Int)⊕Unit):=
 Cq.loop λd=>match d with|(a,c)=>if a<8 then(Cq.ì (0<=a/\a<8) (if(Ε b a)<0 then(Cq.ret (.inr (.inl ([],1))))else(if 8<=(Ε b a)then(Cq.ret (.inr (.inl ([],1))))else(Cq.ì (0<=Ε b a/\(Ε b a)<8) (if(Ε c (Ε b a))=true then Cq.fail else(Cq.ì (0<=Ε b a/\(Ε b a)<8) (Cq.ret (.inl (i64.wrap (a+1),ζ c ((Ε b a).toNat) true)))))))))else(Cq.ret (.inr (.inr ())))
def DZ(c:(Ŀ Za))(a:(Fin 8->Int)):Cq ((Ŀ Za)×Int):=
 Cq.next (Zhy a (0,(λ_=>false))) λd=>match d with|.inl b=>Cq.ret b|.inr ()=>O8 c a
def Zkw(a:(Ŀ (Ŀ Za))):Cq ((Ŀ (Ŀ Za))):=
 Cq.ret a
def Zkv(d:(Ŀ (Ŀ Za)))(c:(Fin 8->Int)):((Ŀ (Ŀ Za))×Int)->Cq (((Ŀ (Ŀ Za)))):=
 Cq.loop λf=>match f with|(b,a)=>if a<(d.length:Int)then(Cq.Θ d a λg=>Cq.bind (DZ g c) λe=>Cq.Θ b a λh=>Cq.ret (.inl ((b.set a.toNat e.1),i64.wrap (a+1))))else(Cq.ret (.inr b))
def An(a:(Ŀ (Ŀ Za)))(b:(Fin 8->Int)):Cq ((Ŀ (Ŀ Za))):=
 Cq.ì (0<=(a.length:Int)/\(a.length:Int)<=1000000) (Cq.next (Zkv a b ((List.replicate (a.length:Int).toNat []),0)) λd=>match d with|c=>Zkw c)
def ZcM(a:(Ŀ (Ŀ Za))):Cq ((Ŀ (Ŀ Za))):=
 Cq.ret a
def ZcK(b:(Ŀ (Ŀ (Ŀ Za)))):((Ŀ (Ŀ Za))×Int)->Cq (((Ŀ (Ŀ Za)))):=
 Cq.loop λe=>match e with|(a,c)=>if c<(b.length:Int)then(Cq.Θ b c λd=>Cq.ì ((a++d).length<=small) (Cq.ret (.inl ((a++d),i64.wrap (c+1)))))else(Cq.ret (.inr a))
def ZcN(b:(Ŀ (Ŀ (Ŀ Za))))(c:Int):Cq ((Ŀ (Ŀ Za))):=
 Cq.bind (OY c) λd=>Cq.next (ZcK b (d,0)) λe=>match e with|a=>ZcM a
def ZcL(a:(Ŀ (Ŀ (Ŀ Za)))):(Int×Int)->Cq Int:=
 Cq.loop λe=>match e with|(b,c)=>if c<(a.length:Int)then(Cq.Θ a c λd=>if(i64.wrap (b+(d.length:Int)))<0 then Cq.fail else(Cq.ret (.inl (i64.wrap (b+(d.length:Int)),i64.wrap (c+1)))))else(Cq.ret (.inr b))
def I3(a:(Ŀ (Ŀ (Ŀ Za)))):Cq ((Ŀ (Ŀ Za))):=
 Cq.next (ZcL a (0,0)) λc=>match c with|b=>ZcN a b
def Pw(b:Zg):Cq Zf:=
 Cq.bind (yI 1) λa=>Cq.ret (Zf.mk b a)
def wN(c:Int):Cq Zf:=
 Cq.bind (yI c) λa=>Cq.bind (Pw a) λb=>Cq.ret b
def DR(a:Zf):Cq (Ŀ Za):=
 Cq.bind (ZH a) λb=>if b=0 then Cq.fail else(Cq.ret [(Za.mk a (λ_=>0))])
def Kx(a:(Ŀ Za))(b:Int):Cq Bool:=
 Cq.bind (Ae a) λc=>match c with|false=>(Cq.ret false)|true=>(Cq.bind (Al a) λd=>Cq.ì (0<=b) (if(Int.fdiv (i64.wrap d) (2 ^ (min (b).toNat i64.bits)))=0 then(Cq.bind (wR a) λe=>Cq.ret (decide (e<=12)))else(Cq.ret false)))
def Pn(e:Int)(a:(Ŀ (Ŀ Za)))(b:(Ŀ (Ŀ Za))):Cq (Zb×Int):=
 Cq.bind (Ed a) λc=>Cq.bind (Ed b) λd=>if 12<(c.length:Int)then(Cq.ret ((Zb.mk 0 [] []),2))else(if 12<(d.length:Int)then(Cq.ret ((Zb.mk 0 [] []),2))else(Cq.ret ((Zb.mk e c d),0)))
def Zms(d:(Ŀ (Ŀ Za))):((Ŀ (Ŀ Za))×(Ŀ (Ŀ Za))×Int)->Cq (((Ŀ (Ŀ Za))×(Ŀ (Ŀ Za)))):=
 Cq.loop λj=>match j with|(a,b,c)=>if c<(d.length:Int)then(Cq.Θ d c λg=>if(g.length:Int)=0 then(Cq.bind (wN 1) λh=>Cq.bind (DR h) λe=>Cq.ì ((a++[e]).length<=small) (Cq.ret (.inl ((a++[e]),b,i64.wrap (c+1)))))else(Cq.bind (wR g) λi=>if 0<i then(Cq.bind (As g) λf=>Cq.ì ((b++[f]).length<=small) (Cq.ret (.inl (a,(b++[f]),i64.wrap (c+1)))))else(Cq.ret (.inl (a,b,i64.wrap (c+1))))))else(Cq.ret (.inr (a,b)))
def Po(d:Int)(e:(Ŀ (Ŀ Za)))(a:(Ŀ (Ŀ Za))):Cq (Zb×Int):=
 Cq.next (Zms e (a,[],0)) λf=>match f with|(b,c)=>Pn d b c
def Zmt(c:(Ŀ (Ŀ Za))):((Ŀ (Ŀ Za))×Int)->Cq (((Ŀ (Ŀ Za)))):=
 Cq.loop λf=>match f with|(a,b)=>if b<(c.length:Int)then(Cq.Θ c b λe=>if 0<(e.length:Int)then(Cq.bind (As e) λd=>Cq.ì ((a++[d]).length<=small) (Cq.ret (.inl ((a++[d]),i64.wrap (b+1)))))else(Cq.ret (.inl (a,i64.wrap (b+1)))))else(Cq.ret (.inr a))
def Pp(b:Int)(c:(Ŀ (Ŀ Za)))(d:(Ŀ (Ŀ Za))):Cq (Zb×Int):=
 Cq.next (Zmt c ([],0)) λe=>match e with|a=>Po b d a
def Pm(d:Int)(b:(Ŀ (Ŀ Za))):(Int×Zb)->Cq ((Zb×Int)⊕Zb):=
 Cq.loop λf=>match f with|(a,c)=>if a<(b.length:Int)then(Cq.Θ b a λg=>Cq.bind (Kx g d) λe=>if(!e)=true then(Cq.ret (.inr (.inl ((Zb.mk 0 [] []),1))))else(Cq.ret (.inl (i64.wrap (a+1),c))))else(Cq.ret (.inr (.inr c)))
def Pq(a:Int)(b:(Ŀ (Ŀ Za)))(c:(Ŀ (Ŀ Za)))(d:Zb):Cq (Zb×Int):=
 Cq.bind (I3 [b,c]) λe=>Cq.next (Pm a e (0,d)) λg=>match g with|.inl f=>Cq.ret f|.inr h=>Pp a b c
def Ec(a:Int)(b:(Ŀ (Ŀ Za)))(c:(Ŀ (Ŀ Za))):Cq (Zb×Int):=
 if a<1 then(Cq.ret ((Zb.mk 0 [] []),1))else(if 4<a then(Cq.ret ((Zb.mk 0 [] []),1))else(Pq a b c (Zb.mk 0 [] [])))
def rX(k:Zb)(p:(Fin 8->Int))(s:Zb×(Fin 8->Int)×Ĳ):Cq (Zb×(Fin 8->Int)×Ĳ):=Cq.bind (An k.eqs p) λa=>Cq.bind (An k.δ p) λb=>Cq.bind (Ec k.n a b) λr=>if ¬r.2=0 then Cq.ret s else Cq.bind (vr r.1) λt=>if s.2.2=ByteArray.empty then Cq.ret (r.1,p,t)else if Op.bytesLess t.toList s.2.2.toList=true then Cq.ret (r.1,p,t)else Cq.ret s
def nd(k:Zb):Ŀ (Fin 8->Int)->(Zb×(Fin 8->Int)×Ĳ)->Cq (Zb×(Fin 8->Int)×Ĳ)
 |[],s=>Cq.ret s
 |p::l,s=>Cq.bind (rX k p s) λs'=>nd k l s'
def Ek(k:Zb):Cq (Zb×(Fin 8->Int)):=Cq.ì (1<=k.n/\k.n<=4) (Cq.bind (nd k (Β k.n.toNat) (⟨0,[],[]⟩,(λ_=>0),ByteArray.empty)) λs=>Cq.ret (s.1,s.2.1))
def AQ(q:Zc):Cq Ĳ:=Cq.ì ((oG q).length<=1000000) (Cq.ret (bytesOf (oG q)))
def cmp_isNaN_int(a:Int):Cq Bool:=
 Cq.ret (decide (¬a=a))
def DV(b:Int)(a:Int):Cq Int:=
 Cq.bind (cmp_isNaN_int b) λc=>Cq.bind (cmp_isNaN_int a) λd=>if c=true then Cq.fail else(if d=true then Cq.fail else(if b<a then(Cq.ret (-1))else(if a<b then(Cq.ret 1)else(Cq.ret 0))))
def ZpH:Cq Int:=
 Cq.ret 0
def ZpG(b:(Ŀ Int)):Int->Cq (Int⊕Unit):=
 Cq.loop λd=>match d with|a=>if a<(b.length:Int)then(Cq.Θ b a λc=>if ¬c=0 then(Cq.ret (.inr (.inl c)))else(Cq.ret (.inl (i64.wrap (a+1)))))else(Cq.ret (.inr (.inr ())))
def Kl(a:(Ŀ Int)):Cq Int:=
 Cq.next (ZpG a 0) λc=>match c with|.inl b=>Cq.ret b|.inr ()=>ZpH
def J1(a:Ze)(b:Ze):Cq Int:=
 Cq.bind (DV a.υ b.υ) λc=>Cq.bind (DV a.id b.id) λd=>Cq.bind (Kl [c,d]) λe=>Cq.ret e
def O2(l:Ŀ Ze)(a b c:Int):Cq (Ŀ Ze):=
 Cq.ì (a=0/\b=(l.length:Int)/\(0<=c/\c<1000000)/\l.length<=1000000) (Cq.any (λd=>d.Perm l/\d.Pairwise (λx y=>¬lf y x<0)) Cq.ret)
def Jn(b:Zc)(a:Bool):Cq (Ŀ Zc):=
 if a=true then(Cq.ret [(Zc.mk 5 [] [])])else(if b.kind=7 then(Cq.ret [(Zc.mk 6 [] [])])else(Cq.ret []))
def Jo(a:Zc)(b:Bool):Cq (Ŀ Zc):=
 if b=true then(Cq.ret [(Zc.mk 4 [] [])])else(if a.kind=6 then(Jn a (decide (a.kind=6)))else(Jn a (decide (a.kind=10))))
def wQ(a:Zc):Cq (Ŀ Zc):=
 if a.kind=5 then(Jo a (decide (a.kind=5)))else(Jo a (decide (a.kind=8)))
def tz(c:Zb)(d:Zc):Cq Ĳ:=
 Cq.bind (vr c) λa=>Cq.bind (AQ d) λb=>Cq.ì ((a.size:Int)+b.size<=1000000) (Cq.ret (a++b))
abbrev nL:=(Int×Int)×Ŀ (Ĳ×Int)×Zd
def oR(f:Zc->Ŀ (Ĳ×Int)->Zd->Cq nL)(T:Ŀ (Ĳ×Int)->Zd->Cq nL):Ŀ Zc->Ŀ (Ĳ×Int)->Zd->Cq nL
 |[],D,B=>T D B
 |x::l,D,B=>Cq.bind (f x D B) λo=>Cq.ì (o.1.2=0) (oR f T l o.2.1 o.2.2)
def ta(k:Zb)(q:Zc)(D:Ŀ (Ĳ×Int))(B:Zd):Cq nL:=
 Cq.bind (tz k q) λs=>Cq.ì (s.size<=1000000) (match fg D s with
  |some a=>Cq.ret ((a,0),D,B)
  |none=>Cq.ì (((B.t.length:Int)<100/\B.next<1000000)/\(eV D s B.next).length<=small) (Cq.ret ((B.next,0),eV D s B.next,⟨B.t++[Ze.mk B.next k q 0 0 (-1) false],i64.wrap (B.next+1)⟩)))
def vi:Nat->Zb->Zc->Ŀ (Ĳ×Int)->Zd->Cq nL
 |0,_,_,_,_=>Cq.fail
 |n+1,k,q,D,B=>Cq.bind (wQ q) λl=>oR (vi n k) (ta k q) l D B
def E0(a:(Ŀ Int))(b:Int):Cq (Ŀ Int):=
 Cq.ì ((a++[u8.wrap b]).length<=small) (Cq.ret (a++[u8.wrap b]))
def EZ:((Ŀ Int)×Int)->Cq (((Ŀ Int)×Int)):=
 Cq.loop λc=>match c with|(b,a)=>if 127<a then(Cq.ì ((b++[u8.wrap ((u8.wrap (Int.tmod a 128))+128)]).length<=small) (Cq.ret (.inl ((b++[u8.wrap ((u8.wrap (Int.tmod a 128))+128)]),u64.wrap (Int.tdiv a 128)))))else(Cq.ret (.inr (b,a)))
def uf(a:(Ŀ Int))(b:Int):Cq (Ŀ Int):=
 Cq.next (EZ (a,b)) λc=>match c with|(d,e)=>E0 d e
def AB(b:(Ŀ Int))(a:Int):Cq (Ŀ Int):=
 if a<0 then(Cq.bind (uf b (u64.wrap ((u64.wrap ((u64.wrap (i64.wrap (0-(i64.wrap (a+1)))))*2))+1))) λc=>Cq.ret c)else(Cq.bind (uf b (u64.wrap ((u64.wrap a)*2))) λd=>Cq.ret d)
def ZqE(a:(Ŀ Int)):Cq (Ŀ Int):=
 Cq.ret a
def ZqD(d:Zg):((Ŀ Int)×Int)->Cq (Ŀ Int):=
 Cq.loop λe=>match e with|(b,c)=>if c<(d.χ.length:Int)then(Cq.Θ d.χ c λa=>Cq.ì ((b++[u8.wrap (Int.fdiv a (2 ^ (min (24:Int).toNat u32.bits))),u8.wrap (Int.fdiv a (2 ^ (min (16:Int).toNat u32.bits))),u8.wrap (Int.fdiv a (2 ^ (min (8:Int).toNat u32.bits))),u8.wrap a]).length<=small) (Cq.ret (.inl ((b++[u8.wrap (Int.fdiv a (2 ^ (min (24:Int).toNat u32.bits))),u8.wrap (Int.fdiv a (2 ^ (min (16:Int).toNat u32.bits))),u8.wrap (Int.fdiv a (2 ^ (min (8:Int).toNat u32.bits))),u8.wrap a]),i64.wrap (c+1)))))else(Cq.ret (.inr b))
def Es(c:(Ŀ Int))(a:Zg)(d:Int):Cq (Ŀ Int):=
 Cq.bind (uf c (u64.wrap ((u64.wrap ((u64.wrap (a.χ.length:Int))*2))+d))) λb=>Cq.next (ZqD a (b,0)) λe=>match e with|f=>ZqE f
def AO(b:(Ŀ Int))(a:Zg):Cq (Ŀ Int):=
 if a.neg=true then(Es b a 1)else(Es b a 0)
def Ql(d:(Ŀ Int))(a:Zf):Cq (Ŀ Int):=
 Cq.bind (AO d a.num) λb=>Cq.bind (AO b a.den) λc=>Cq.ret c
def Zs8(a:(Ŀ Int)):Cq (Ŀ Int):=
 Cq.ret a
def Zs9(a:Int)(b:(Ŀ Int)):Cq (((Ŀ Int)×Int)⊕(Ŀ Int)):=
 Cq.ret (.inl (b,i64.wrap (a+1)))
def Zs7(d:(Ŀ Za))(e:Int):((Ŀ Int)×Int)->Cq (Ŀ Int):=
 Cq.loop λf=>match f with|(b,a)=>if a<8 then(Cq.Θ d e λg=>Cq.ì (0<=a/\a<8) (Cq.bind (uf b (u64.wrap (Ε g.m a))) λc=>Cq.ret (.inl (c,i64.wrap (a+1)))))else(Cq.ret (.inr b))
def Zs6(b:(Ŀ Za)):((Ŀ Int)×Int)->Cq (Ŀ Int):=
 Cq.loop λf=>match f with|(d,a)=>if a<(b.length:Int)then(Cq.Θ b a λg=>Cq.bind (Ql d g.c) λe=>Cq.next (Zs7 b a (e,0)) λh=>match h with|i=>Zs9 a i)else(Cq.ret (.inr d))
def FJ(c:(Ŀ Int))(a:(Ŀ Za)):Cq (Ŀ Int):=
 Cq.bind (uf c (u64.wrap (a.length:Int))) λb=>Cq.next (Zs6 a (b,0)) λd=>match d with|e=>Zs8 e
def ZqA(a:(Ŀ Int)):Cq (Ŀ Int):=
 Cq.ret a
def Zqz(b:(Ŀ (Ŀ Za))):((Ŀ Int)×Int)->Cq (Ŀ Int):=
 Cq.loop λe=>match e with|(c,a)=>if a<(b.length:Int)then(Cq.Θ b a λf=>Cq.bind (FJ c f) λd=>Cq.ret (.inl (d,i64.wrap (a+1))))else(Cq.ret (.inr c))
def Fu(c:(Ŀ Int))(a:(Ŀ (Ŀ Za))):Cq (Ŀ Int):=
 Cq.bind (uf c (u64.wrap (a.length:Int))) λb=>Cq.next (Zqz a (b,0)) λd=>match d with|e=>ZqA e
def vk(e:(Ŀ Int))(a:Zb):Cq (Ŀ Int):=
 Cq.bind (AB e a.n) λb=>Cq.bind (Fu b a.eqs) λc=>Cq.bind (Fu c a.δ) λd=>Cq.ret d
def Au(c d:Zb):Cq Bool:=Cq.bind (vk [] c) λa=>Cq.bind (vk [] d) λb=>Cq.ret (decide (bytesOf a=bytesOf b))
def ZqQ(a:(Ŀ (Fin 8->Int))):Cq ((Ŀ (Fin 8->Int))):=
 Cq.ret a
def ZqR(b:Int)(a:(Ŀ (Fin 8->Int))):Cq (((Ŀ (Fin 8->Int))×Int)⊕(((Ŀ (Fin 8->Int))))):=
 Cq.ret (.inl (a,i64.wrap (b+1)))
def ZqS(b:Int)(a:(Ŀ (Fin 8->Int))):Cq (((Ŀ (Fin 8->Int))×Int)⊕(((Ŀ (Fin 8->Int))))):=
 Cq.ret (.inl (a,i64.wrap (b+1)))
def ZqT(a:(Ŀ (Fin 8->Int)))(c:Int)(b:(Fin 8->Int)):Cq (((Ŀ (Fin 8->Int))×Int)⊕(((Ŀ (Fin 8->Int))))):=
 Cq.ì ((a++[b]).length<=small) (Cq.ret (.inl ((a++[b]),i64.wrap (c+1))))
def ZqP(c:(Ŀ (Fin 8->Int)))(d:Int)(e:Int):(Int×(Fin 8->Int))->Cq (Fin 8->Int):=
 Cq.loop λf=>match f with|(a,b)=>if d<a then(Cq.Θ c e λg=>Cq.ì (0<=i64.wrap (a-1)/\(i64.wrap (a-1))<8) (Cq.ì (0<=a/\a<8) (Cq.ret (.inl (i64.wrap (a-1),ζ b a.toNat (Ε g (i64.wrap (a-1))))))))else(Cq.ret (.inr b))
def ZqO(g:Int)(a:(Ŀ (Fin 8->Int)))(d:Int)(e:Int):((Ŀ (Fin 8->Int))×Int)->Cq (((Ŀ (Fin 8->Int)))):=
 Cq.loop λh=>match h with|(b,c)=>if c<g then(Cq.Θ a e λi=>Cq.Θ a e λj=>Cq.ì (0<=c/\c<8) (Cq.ì (0<=d/\d<8) (Cq.next (ZqP a d e (c,ζ i d.toNat (Ε j c))) λk=>match k with|f=>ZqT b c f)))else(Cq.ret (.inr b))
def ZqN(f:Int)(b:(Ŀ (Fin 8->Int)))(e:Int):((Ŀ (Fin 8->Int))×Int)->Cq (((Ŀ (Fin 8->Int)))):=
 Cq.loop λg=>match g with|(a,d)=>if d<(b.length:Int)then(Cq.next (ZqO f b e d (a,e)) λh=>match h with|c=>ZqS d c)else(Cq.ret (.inr a))
def ZqM(d:Int):((Ŀ (Fin 8->Int))×Int)->Cq (((Ŀ (Fin 8->Int)))):=
 Cq.loop λe=>match e with|(a,c)=>if c<d then(Cq.next (ZqN d a c ([],0)) λf=>match f with|b=>ZqR c b)else(Cq.ret (.inr a))
def La(b:Int):Cq ((Ŀ (Fin 8->Int))):=
 Cq.next (ZqM b ([ζ (ζ (ζ (ζ (ζ (ζ (ζ (ζ (λ_=>0) 0 0) 1 1) 2 2) 3 3) 4 4) 5 5) 6 6) 7 7],0)) λc=>match c with|a=>ZqQ a
def ZsJ(b:(Ŀ Int))(a:Int):Cq (Ŀ Int):=
 Cq.ì (0<=(0:Int)/\(0:Int)<=a/\a<=(b.length:Int)) (Cq.ret ((b.take a.toNat).drop (0:Int).toNat))
def ZsI(b:(Ŀ Int)):Int->Cq Int:=
 Cq.loop λc=>match c with|a=>if 0<a then(Cq.Θ b (i64.wrap (a-1)) λd=>if d=0 then(Cq.ret (.inl (i64.wrap (a-1))))else(Cq.ret (.inr a)))else(Cq.ret (.inr a))
def xh(a:(Ŀ Int)):Cq (Ŀ Int):=
 Cq.next (ZsI a (a.length:Int)) λb=>match b with|c=>ZsJ a c
def AL(a:Int):Cq (Ŀ Int):=
 Cq.bind (xh [u32.wrap (Int.tmod a 4294967296),u32.wrap (u64.wrap (Int.tdiv a 4294967296))]) λb=>Cq.ret b
def rN(b:Bool)(c:(Ŀ Int)):Cq Zg:=
 Cq.bind (xh c) λa=>if b=true then(Cq.ret (Zg.mk (decide (0<(a.length:Int))) a))else(Cq.ret (Zg.mk false a))
def uh(a:Int):Cq Zg:=
 if a<0 then(Cq.bind (AL (u64.wrap ((u64.wrap (i64.wrap (0-(i64.wrap (a+1)))))+1))) λb=>Cq.bind (rN true b) λc=>Cq.ret c)else(Cq.bind (AL (u64.wrap a)) λd=>Cq.bind (rN false d) λe=>Cq.ret e)
def A3(a:Zg):Cq Int:=
 if a.neg=true then(Cq.ret (-1))else(Cq.ret (if 1<(a.χ.length:Int)then 1 else(a.χ.length:Int)))
def yJ(a:(Ŀ Int))(b:Int):Cq Int:=
 if b<(a.length:Int)then(Cq.Θ a b λc=>Cq.ret (u64.wrap c))else(Cq.ret 0)
def Ko(a:(Ŀ Int)):Cq Int:=
 Cq.bind (yJ a 1) λb=>Cq.bind (yJ a 0) λc=>Cq.ret (u64.wrap ((u64.wrap (b*4294967296))+c))
def Zpm(a:Int):Cq Int:=
 Cq.ret a
def Zpl:(Int×Int)->Cq Int:=
 Cq.loop λc=>match c with|(b,a)=>if 0<a then(Cq.ì (a≠0) (Cq.ret (.inl (a,Int.tmod b a))))else(Cq.ret (.inr b))
def Ru(a:Int)(b:Int):Cq Int:=
 Cq.next (Zpl (a,b)) λc=>match c with|d=>Zpm d
def Zmz:Cq Int:=
 Cq.ret 0
def Zmy(b:(Ŀ Int))(c:(Ŀ Int)):Int->Cq (Int⊕Unit):=
 Cq.loop λd=>match d with|a=>if 0<=a then(Cq.Θ b a λe=>Cq.Θ c a λf=>if e<f then(Cq.ret (.inr (.inl (-1))))else(Cq.Θ b a λg=>Cq.Θ c a λh=>if h<g then(Cq.ret (.inr (.inl 1)))else(Cq.ret (.inl (i64.wrap (a-1))))))else(Cq.ret (.inr (.inr ())))
def Z5(a:(Ŀ Int))(b:(Ŀ Int)):Cq Int:=
 if(a.length:Int)<(b.length:Int)then(Cq.ret (-1))else(if(b.length:Int)<(a.length:Int)then(Cq.ret 1)else(Cq.next (Zmy a b (i64.wrap ((a.length:Int)-1))) λd=>match d with|.inl c=>Cq.ret c|.inr ()=>Zmz))
def ZnH(a:(Ŀ Int))(b:Int):Cq ((Ŀ Int)×Int):=
 Cq.bind (xh a) λc=>Cq.ret (c,b)
def ZnG(f:(Ŀ Int))(d:Int):((Ŀ Int)×Int×Int)->Cq (((Ŀ Int)×Int)):=
 Cq.loop λg=>match g with|(a,b,c)=>if 0<=c then(Cq.Θ f c λe=>Cq.ì (d≠0) (Cq.Θ a c λh=>Cq.ì (d≠0) (Cq.ret (.inl ((a.set c.toNat (u32.wrap (u64.wrap (Int.tdiv (u64.wrap ((u64.wrap (b*4294967296))+(u64.wrap e))) d)))),Int.tmod (u64.wrap ((u64.wrap (b*4294967296))+(u64.wrap e))) d,i64.wrap (c-1))))))else(Cq.ret (.inr (a,b)))
def Qv(a:(Ŀ Int))(d:Int):Cq ((Ŀ Int)×Int):=
 Cq.ì (0<=(a.length:Int)/\(a.length:Int)<=1000000) (Cq.next (ZnG a d ((List.replicate (a.length:Int).toNat 0),0,i64.wrap ((a.length:Int)-1))) λe=>match e with|(b,c)=>ZnH b c)
def Zqi(a:(Ŀ Int)):Cq (Ŀ Int):=
 Cq.bind (xh a) λb=>Cq.ret b
def Zqj(b:(Ŀ Int))(a:Int)(c:(Ŀ Int))(d:Int):Cq (((Ŀ Int)×Int)⊕(Ŀ Int)):=
 Cq.Θ c (i64.wrap (a+(b.length:Int))) λe=>Cq.ret (.inl ((c.set (i64.wrap (a+(b.length:Int))).toNat (u32.wrap d)),i64.wrap (a+1)))
def Zqh(f:(Ŀ Int))(e:(Ŀ Int))(b:Int):((Ŀ Int)×Int×Int)->Cq (((Ŀ Int)×Int)):=
 Cq.loop λj=>match j with|(c,d,a)=>if a<(e.length:Int)then(Cq.Θ f b λg=>Cq.Θ e a λh=>Cq.Θ c (i64.wrap (b+a)) λi=>Cq.Θ c (i64.wrap (b+a)) λk=>Cq.ret (.inl ((c.set (i64.wrap (b+a)).toNat (u32.wrap (Int.tmod (u64.wrap ((u64.wrap ((u64.wrap ((u64.wrap g)*(u64.wrap h)))+(u64.wrap i)))+d)) 4294967296))),u64.wrap (Int.tdiv (u64.wrap ((u64.wrap ((u64.wrap ((u64.wrap g)*(u64.wrap h)))+(u64.wrap i)))+d)) 4294967296),i64.wrap (a+1))))else(Cq.ret (.inr (c,d)))
def Zqg(b:(Ŀ Int))(c:(Ŀ Int)):((Ŀ Int)×Int)->Cq (Ŀ Int):=
 Cq.loop λg=>match g with|(d,a)=>if a<(b.length:Int)then(Cq.next (Zqh b c a (d,0,0)) λh=>match h with|(e,f)=>Zqj c a e f)else(Cq.ret (.inr d))
def SR(a:(Ŀ Int))(b:(Ŀ Int)):Cq (Ŀ Int):=
 Cq.ì (0<=i64.wrap ((a.length:Int)+(b.length:Int))/\(i64.wrap ((a.length:Int)+(b.length:Int)))<=1000000) (Cq.next (Zqg a b ((List.replicate (i64.wrap ((a.length:Int)+(b.length:Int))).toNat 0),0)) λd=>match d with|c=>Zqi c)
def Ke(a:(Ŀ Int))(b:(Ŀ Int)):Cq ((Ŀ Int)×(Ŀ Int)):=
 Cq.bind (Z5 a b) λd=>if d<0 then(Cq.ret ([],a))else(if(b.length:Int)=1 then(Cq.Θ b 0 λf=>Cq.bind (Qv a (u64.wrap f)) λc=>Cq.bind (AL c.2) λe=>Cq.ret (c.1,e))else Cq.fail)
def Zpk(a:(Ŀ Int)):Cq (Ŀ Int):=
 Cq.ret a
def PU(c:(Ŀ Int))(b:(Ŀ Int))(a:Bool):Cq (((Ŀ Int)×(Ŀ Int))⊕((Ŀ Int)⊕(Ŀ Int))):=
 if a=true then(Cq.bind (Ko c) λd=>Cq.bind (Ko b) λe=>Cq.bind (Ru d e) λf=>Cq.bind (AL f) λg=>Cq.ret (.inr (.inl g)))else(Cq.bind (Ke c b) λh=>Cq.ret (.inl (b,h.2)))
def Zpj:((Ŀ Int)×(Ŀ Int))->Cq ((Ŀ Int)⊕(Ŀ Int)):=
 Cq.loop λc=>match c with|(a,b)=>if 0<(b.length:Int)then(if(a.length:Int)<=2 then(PU a b (decide ((b.length:Int)<=2)))else(PU a b false))else(Cq.ret (.inr (.inr a)))
def RQ(b:(Ŀ Int))(c:(Ŀ Int)):Cq (Ŀ Int):=
 Cq.next (Zpj (b,c)) λd=>match d with|.inl a=>Cq.ret a|.inr e=>Zpk e
def xu(c:Zg)(d:Zg):Cq Zg:=
 Cq.bind (RQ c.χ d.χ) λa=>Cq.bind (rN false a) λb=>Cq.ret b
def Zpi(d:Zg)(e:Zg)(f:(Ŀ Int))(a:(Ŀ Int)):Cq (Zg×Zg×Int):=
 Cq.bind (rN (decide (¬d.neg=e.neg)) f) λb=>Cq.bind (rN false a) λc=>Cq.ret (b,c,0)
def PT(c:Zg)(d:Zg)(b:(Ŀ Int)×(Ŀ Int))(a:Bool):Cq (Zg×Zg×Int):=
 if a=true then Cq.fail else(Zpi c d b.1 b.2)
def yE(b:Zg)(c:Zg):Cq (Zg×Zg×Int):=
 if(c.χ.length:Int)=0 then Cq.fail else(Cq.bind (Ke b.χ c.χ) λa=>if b.neg=true then(PT b c a (decide (0<(a.2.length:Int))))else(PT b c a false))
def K5(b:Zg)(c:Zg):Cq Zg:=
 Cq.bind (yE b c) λa=>Cq.ret a.1
def Mc(a:Zg):Cq Zg:=
 Cq.bind (rN (!a.neg) a.χ) λb=>Cq.ret b
def PV(d:Zg)(e:Zg)(a:Zg):Cq Zf:=
 Cq.bind (K5 d a) λb=>Cq.bind (K5 e a) λc=>Cq.ret (Zf.mk b c)
def AI(c:Zg)(a:Zg):Cq Zf:=
 Cq.bind (xu c a) λb=>Cq.bind (A3 a) λd=>if d<0 then(Cq.bind (Mc b) λe=>PV c a e)else(PV c a b)
def F1(d:Zg)(a:Zg):Cq (Zf×Int):=
 Cq.bind (A3 a) λb=>if b=0 then Cq.fail else(Cq.bind (AI d a) λc=>Cq.ret (c,0))
def oy(b:Zf):Cq Int:=
 Cq.bind (A3 b.num) λa=>Cq.ret a
def Zqm:Cq Bool:=
 Cq.ret true
def Zql(b:(Fin 8->Int)):Int->Cq (Bool⊕Unit):=
 Cq.loop λc=>match c with|a=>if a<8 then(Cq.ì (0<=a/\a<8) (if(Ε b a)<0 then(Cq.ret (.inr (.inl false)))else(Cq.ì (0<=a/\a<8) (if 65535<(Ε b a)then Cq.fail else(Cq.ret (.inl (i64.wrap (a+1))))))))else(Cq.ret (.inr (.inr ())))
def Fs(b:(Fin 8->Int)):Cq Bool:=
 Cq.next (Zql b 0) λc=>match c with|.inl a=>Cq.ret a|.inr ()=>Zqm
def ZuR(a:(Fin 8->Int)):Cq ((Fin 8->Int)×Int):=
 Cq.bind (Fs a) λb=>if(!b)=true then Cq.fail else(Cq.ret (a,0))
def ZuQ(c:(Fin 8->Int)):(Int×(Fin 8->Int))->Cq (Fin 8->Int):=
 Cq.loop λd=>match d with|(a,b)=>if a<8 then(Cq.ì (0<=a/\a<8) (Cq.ì (0<=a/\a<8) (Cq.ì (0<=a/\a<8) (Cq.ret (.inl (i64.wrap (a+1),ζ b a.toNat (i64.wrap ((Ε b a)+(Ε c a)))))))))else(Cq.ret (.inr b))
def Me(b:(Fin 8->Int))(c:(Fin 8->Int)):Cq ((Fin 8->Int)×Int):=
 Cq.next (ZuQ c (0,b)) λd=>match d with|a=>ZuR a
def qY(a:Zg)(b:Zg):Cq Zg:=
 Cq.bind (SR a.χ b.χ) λc=>Cq.bind (rN (decide (¬a.neg=b.neg)) c) λd=>Cq.ret d
def qZ(a:Zf)(b:Zf):Cq Zf:=
 Cq.bind (qY a.num b.num) λc=>Cq.bind (qY a.den b.den) λd=>Cq.bind (AI c d) λe=>Cq.ret e
def Zqs(a:(Ŀ Za)):Cq ((Ŀ Za)×Int):=
 Cq.ret (a,0)
def Zqr(g:Zf)(h:(Fin 8->Int))(f:(Ŀ Za)):((Ŀ Za)×Int)->Cq (((Ŀ Za)×Int)⊕(Ŀ Za)):=
 Cq.loop λi=>match i with|(a,d)=>if d<(f.length:Int)then(Cq.Θ f d λj=>Cq.bind (Me h j.m) λb=>if ¬b.2=0 then Cq.fail else(Cq.Θ f d λk=>Cq.bind (qZ g k.c) λe=>Cq.ì ((a++[(Za.mk e b.1)]).length<=small) (Cq.ret (.inl ((a++[(Za.mk e b.1)]),i64.wrap (d+1))))))else(Cq.ret (.inr (.inr a)))
def Ft(b:Zf)(e:(Fin 8->Int))(f:(Ŀ Za)):Cq ((Ŀ Za)×Int):=
 Cq.bind (oy b) λc=>if c=0 then(Cq.ret ([],0))else(Cq.next (Zqr b e f ([],0)) λg=>match g with|.inl d=>Cq.ret d|.inr a=>Zqs a)
def F0(a:Zf):Cq Zf:=
 Cq.bind (Mc a.num) λb=>Cq.ret (Zf.mk b a.den)
def Jt(a:(Ŀ Za))(b:Zf):Cq (Ŀ Za):=
 Cq.bind (Ft b (λ_=>0) a) λc=>Cq.ret c.1
def Ju(a:(Ŀ Za))(d:Zg)(e:Zg):Cq (Ŀ Za):=
 Cq.bind (F1 d e) λb=>Cq.Θ a 0 λh=>Cq.bind (oy h.c) λf=>if f<0 then(Cq.bind (F0 b.1) λg=>Jt a g)else(Jt a b.1)
def Zpr(b:(Ŀ Za))(g:Zg):(Int×Zg)->Cq Zg:=
 Cq.loop λi=>match i with|(a,d)=>if a<(b.length:Int)then(Cq.Θ b a λj=>Cq.bind (yE g j.c.den) λh=>Cq.Θ b a λk=>Cq.bind (qY k.c.num h.1) λe=>Cq.bind (xu d e) λf=>Cq.ret (.inl (i64.wrap (a+1),f)))else(Cq.ret (.inr d))
def PX(a:(Ŀ Za))(c:Zg)(b:Zg):Cq (Ŀ Za):=
 Cq.next (Zpr a b (0,c)) λe=>match e with|d=>Ju a b d
def Zps(b:(Ŀ Za)):(Int×Zg)->Cq Zg:=
 Cq.loop λh=>match h with|(a,d)=>if a<(b.length:Int)then(Cq.Θ b a λi=>Cq.Θ b a λj=>Cq.bind (xu d j.c.den) λe=>Cq.bind (yE i.c.den e) λf=>Cq.bind (qY d f.1) λg=>Cq.ret (.inl (i64.wrap (a+1),g)))else(Cq.ret (.inr d))
def EY(a:(Ŀ Za)):Cq (Ŀ Za):=
 if(a.length:Int)=0 then(Cq.ret [])else(Cq.bind (uh 1) λb=>Cq.bind (uh 0) λc=>Cq.next (Zps a (0,b)) λe=>match e with|d=>PX a c d)
def Zpo(a:Int):Cq Int:=
 Cq.ret a
def Zpn(c:(Fin 8->Int)):(Int×Int)->Cq Int:=
 Cq.loop λd=>match d with|(b,a)=>if a<8 then(Cq.ì (0<=a/\a<8) (Cq.ret (.inl (i64.wrap (b+(Ε c a)),i64.wrap (a+1)))))else(Cq.ret (.inr b))
def Kp(a:(Fin 8->Int)):Cq Int:=
 Cq.next (Zpn a (0,0)) λb=>match b with|c=>Zpo c
def Zpq(a:Int):Cq Int:=
 Cq.ret a
def Zpp(d:(Ŀ Za)):(Int×Int)->Cq Int:=
 Cq.loop λe=>match e with|(b,c)=>if c<(d.length:Int)then(Cq.Θ d c λf=>Cq.bind (Kp f.m) λa=>Cq.ret (.inl (if b<a then a else b,i64.wrap (c+1))))else(Cq.ret (.inr b))
def wW(a:(Ŀ Za)):Cq Int:=
 Cq.next (Zpp a ((-1),0)) λb=>match b with|c=>Zpq c
def ZsM:Cq Bool:=
 Cq.ret true
def ZsL(b:Zg)(c:Zg):Int->Cq (Bool⊕Unit):=
 Cq.loop λd=>match d with|a=>if a<(b.χ.length:Int)then(Cq.Θ b.χ a λe=>Cq.Θ c.χ a λf=>if ¬e=f then(Cq.ret (.inr (.inl false)))else(Cq.ret (.inl (i64.wrap (a+1)))))else(Cq.ret (.inr (.inr ())))
def Lu(a:Zg)(b:Zg):Cq Bool:=
 if ¬a.neg=b.neg then(Cq.ret false)else(if ¬(a.χ.length:Int)=(b.χ.length:Int)then(Cq.ret false)else(Cq.next (ZsL a b 0) λd=>match d with|.inl c=>Cq.ret c|.inr ()=>ZsM))
def A4(a:Zf)(b:Zf):Cq Bool:=
 Cq.bind (Lu a.num b.num) λc=>match c with|false=>(Cq.ret false)|true=>(Cq.bind (Lu a.den b.den) λd=>Cq.ret d)
def Eo(a:Za)(b:Za):Cq Bool:=
 if a.m=b.m then(Cq.bind (A4 a.c b.c) λd=>Cq.ret d)else(Cq.ret false)
def Zs3:Cq Bool:=
 Cq.ret true
def QX(b:(Ŀ Za))(d:(Ŀ Za)):Int->Cq (Bool⊕Unit):=
 Cq.loop λe=>match e with|a=>if a<(b.length:Int)then(Cq.Θ b a λf=>Cq.Θ d a λg=>Cq.bind (Eo f g) λc=>if(!c)=true then(Cq.ret (.inr (.inl false)))else(Cq.ret (.inl (i64.wrap (a+1)))))else(Cq.ret (.inr (.inr ())))
def tT(a:(Ŀ Za))(b:(Ŀ Za)):Cq Bool:=
 if ¬(a.length:Int)=(b.length:Int)then(Cq.ret false)else(Cq.next (QX a b 0) λd=>match d with|.inl c=>Cq.ret c|.inr ()=>Zs3)
def ZuP:Cq Int:=
 Cq.ret 0
def ZuO(b:(Fin 8->Int))(c:(Fin 8->Int)):Int->Cq (Int⊕Unit):=
 Cq.loop λd=>match d with|a=>if a<8 then(Cq.ì (0<=a/\a<8) (Cq.ì (0<=a/\a<8) (if(Ε b a)<(Ε c a)then(Cq.ret (.inr (.inl (-1))))else(Cq.ì (0<=a/\a<8) (Cq.ì (0<=a/\a<8) (if(Ε c a)<(Ε b a)then(Cq.ret (.inr (.inl 1)))else(Cq.ret (.inl (i64.wrap (a+1))))))))))else(Cq.ret (.inr (.inr ())))
def xA(b:(Fin 8->Int))(c:(Fin 8->Int)):Cq Int:=
 Cq.next (ZuO b c 0) λd=>match d with|.inl a=>Cq.ret a|.inr ()=>ZuP
def Mb(a:Zg)(b:Zg):Cq Int:=
 if a.neg=true then(if(!b.neg)=true then(Cq.ret (-1))else(if a.neg=true then(if a.neg=true then(Cq.bind (Z5 b.χ a.χ) λc=>Cq.ret c)else(Cq.bind (Z5 a.χ b.χ) λd=>Cq.ret d))else(if b.neg=true then(Cq.ret 1)else(if a.neg=true then(Cq.bind (Z5 b.χ a.χ) λe=>Cq.ret e)else(Cq.bind (Z5 a.χ b.χ) λf=>Cq.ret f)))))else(if a.neg=true then(if a.neg=true then(Cq.bind (Z5 b.χ a.χ) λg=>Cq.ret g)else(Cq.bind (Z5 a.χ b.χ) λh=>Cq.ret h))else(if b.neg=true then(Cq.ret 1)else(if a.neg=true then(Cq.bind (Z5 b.χ a.χ) λi=>Cq.ret i)else(Cq.bind (Z5 a.χ b.χ) λj=>Cq.ret j))))
def vz(a:Zf)(b:Zf):Cq Int:=
 Cq.bind (qY a.num b.den) λc=>Cq.bind (qY b.num a.den) λd=>Cq.bind (Mb c d) λe=>Cq.ret e
def Kr(a:(Ŀ Za))(b:(Ŀ Za)):Cq Int:=
 if(a.length:Int)<(b.length:Int)then(Cq.ret (-1))else(if(b.length:Int)<(a.length:Int)then(Cq.ret 1)else(Cq.ret 0))
def Rx(b:(Ŀ Za))(d:(Ŀ Za))(a:Int):Cq (Int⊕(Int⊕Unit)):=
 Cq.Θ b a λi=>Cq.Θ d a λj=>Cq.bind (xA i.m j.m) λe=>if ¬e=0 then(Cq.Θ b a λk=>Cq.Θ d a λl=>Cq.bind (xA k.m l.m) λf=>Cq.ret (.inr (.inl f)))else(Cq.Θ b a λn=>Cq.Θ d a λo=>Cq.bind (vz n.c o.c) λg=>if ¬g=0 then(Cq.Θ b a λp=>Cq.Θ d a λq=>Cq.bind (vz p.c q.c) λh=>Cq.ret (.inr (.inl h)))else(Cq.ret (.inl (i64.wrap (a+1)))))
def Rw(b:(Ŀ Za))(c:(Ŀ Za)):Int->Cq (Int⊕Unit):=
 Cq.loop λd=>match d with|a=>if a<(b.length:Int)then(if a<(c.length:Int)then(Rx b c a)else(Cq.ret (.inr (.inr ()))))else(Cq.ret (.inr (.inr ())))
def F3(a:(Ŀ Za))(b:(Ŀ Za)):Cq Int:=
 Cq.next (Rw a b 0) λd=>match d with|.inl c=>Cq.ret c|.inr ()=>Kr a b
def Zpu(a:(Ŀ (Ŀ Za))):Cq ((Ŀ (Ŀ Za))):=
 Cq.ret a
def tQ(a:(Ŀ (Ŀ Za)))(d:Int)(c:(Ŀ Za))(b:Int):Cq (((Ŀ (Ŀ Za))×Int)⊕(((Ŀ (Ŀ Za))))):=
 Cq.ì (0<=b/\b<=(a.length:Int)/\(a.length:Int)<=(a.length:Int)) (Cq.ì (([c]++((a.take (a.length:Int).toNat).drop b.toNat)).length<=small) (Cq.ì (0<=(0:Int)/\(0:Int)<=b/\b<=(a.length:Int)) (Cq.ì ((((a.take b.toNat).drop (0:Int).toNat)++([c]++((a.take (a.length:Int).toNat).drop b.toNat))).length<=small) (Cq.ret (.inl ((((a.take b.toNat).drop (0:Int).toNat)++([c]++((a.take (a.length:Int).toNat).drop b.toNat))),i64.wrap (d+1)))))))
def Jy(e:Bool)(a:(Ŀ (Ŀ Za)))(b:Int)(d:(Ŀ Za))(c:Int):Cq (((Ŀ (Ŀ Za))×Int)⊕(((Ŀ (Ŀ Za))))):=
 if(d.length:Int)=0 then(Cq.ret (.inl (a,i64.wrap (b+1))))else(if e=true then(Cq.bind (wW d) λf=>if f=0 then(Cq.ret (.inl (a,i64.wrap (b+1))))else(if c<(a.length:Int)then(Cq.Θ a c λi=>Cq.bind (tT i d) λg=>if g=true then(Cq.ret (.inl (a,i64.wrap (b+1))))else(tQ a b d c))else(tQ a b d c)))else(if c<(a.length:Int)then(Cq.Θ a c λj=>Cq.bind (tT j d) λh=>if h=true then(Cq.ret (.inl (a,i64.wrap (b+1))))else(tQ a b d c))else(tQ a b d c)))
def Jx(b:(Ŀ (Ŀ Za)))(c:(Ŀ Za)):Int->Cq Int:=
 Cq.loop λe=>match e with|a=>if a<(b.length:Int)then(Cq.Θ b a λf=>Cq.bind (F3 f c) λd=>if d<0 then(Cq.ret (.inl (i64.wrap (a+1))))else(Cq.ret (.inr a)))else(Cq.ret (.inr a))
def Zpt(c:(Ŀ (Ŀ Za)))(e:Bool):((Ŀ (Ŀ Za))×Int)->Cq (((Ŀ (Ŀ Za)))):=
 Cq.loop λg=>match g with|(a,b)=>if b<(c.length:Int)then(Cq.Θ c b λh=>Cq.bind (EY h) λd=>Cq.next (Jx a d 0) λi=>match i with|f=>Jy e a b d f)else(Cq.ret (.inr a))
def E1(a:(Ŀ (Ŀ Za)))(b:Bool):Cq ((Ŀ (Ŀ Za))):=
 Cq.next (Zpt a b ([],0)) λd=>match d with|c=>Zpu c
def ZX(c:Int):Cq Zf:=
 Cq.bind (uh c) λa=>Cq.bind (uh 1) λb=>Cq.ret (Zf.mk a b)
def Em(a:Zf):Cq (Ŀ Za):=
 Cq.bind (oy a) λb=>if b=0 then(Cq.ret [])else(Cq.ret [(Za.mk a (λ_=>0))])
def K3(a:Zg):Cq Bool:=
 if(a.χ.length:Int)=0 then(Cq.ret (!a.neg))else(Cq.Θ a.χ (i64.wrap ((a.χ.length:Int)-1)) λb=>Cq.ret (decide (¬b=0)))
def Zqk(a:Zf):Cq Bool:=
 Cq.bind (xu a.num a.den) λb=>Cq.bind (uh 1) λc=>Cq.bind (Mb b c) λd=>Cq.ret (decide (d=0))
def ub(a:Zf):Cq Bool:=
 Cq.bind (K3 a.num) λb=>match b with|false=>(Cq.ret false)|true=>(Cq.bind (K3 a.den) λc=>match c with|false=>(Cq.ret false)|true=>(Cq.bind (A3 a.den) λd=>if d<1 then Cq.fail else(Zqk a)))
def Zqu:Cq Bool:=
 Cq.ret true
def JS(b:(Ŀ Za))(a:Int):Cq (Int⊕(Bool⊕Unit)):=
 if 0<a then(Cq.Θ b (i64.wrap (a-1)) λd=>Cq.Θ b a λe=>Cq.bind (xA d.m e.m) λc=>if c<=0 then Cq.fail else(Cq.ret (.inl (i64.wrap (a+1)))))else(Cq.ret (.inl (i64.wrap (a+1))))
def Zqt(a:(Ŀ Za)):Int->Cq (Bool⊕Unit):=
 Cq.loop λg=>match g with|b=>if b<(a.length:Int)then(Cq.Θ a b λh=>Cq.bind (ub h.c) λd=>match d with|false=>(Cq.ret (.inr (.inl false)))|true=>(Cq.Θ a b λi=>Cq.bind (oy i.c) λe=>if e=0 then(Cq.ret (.inr (.inl false)))else(Cq.Θ a b λj=>Cq.bind (Fs j.m) λf=>if(!f)=true then(Cq.ret (.inr (.inl false)))else(JS a b))))else(Cq.ret (.inr (.inr ())))
def AM(b:(Ŀ Za)):Cq Bool:=
 Cq.next (Zqt b 0) λc=>match c with|.inl a=>Cq.ret a|.inr ()=>Zqu
def ZuN(a:Int):Cq Int:=
 Cq.ret (u8.wrap a)
def ZuM(c:Int):(Int×Int)->Cq Int:=
 Cq.loop λd=>match d with|(a,b)=>if b<c then(Cq.ret (.inl (i64.wrap (2*a),i64.wrap (b+1))))else(Cq.ret (.inr a))
def Md(a:Int):Cq Int:=
 Cq.next (ZuM a (1,0)) λb=>match b with|c=>ZuN c
def ZnM(a:Int):Cq Int:=
 Cq.ret a
def ZnL(d:(Fin 8->Int)):(Int×Int)->Cq Int:=
 Cq.loop λe=>match e with|(b,a)=>if a<8 then(Cq.ì (0<=a/\a<8) (if 0<(Ε d a)then(Cq.bind (Md a) λc=>Cq.ret (.inl (u8.wrap (b+c),i64.wrap (a+1))))else(Cq.ret (.inl (b,i64.wrap (a+1))))))else(Cq.ret (.inr b))
def Kf(a:(Fin 8->Int)):Cq Int:=
 Cq.next (ZnL a (0,0)) λb=>match b with|c=>ZnM c
def Zs5(a:Int):Cq Int:=
 Cq.ret a
def Zs4(c:(Ŀ Za)):(Int×Int)->Cq Int:=
 Cq.loop λe=>match e with|(a,b)=>if b<(c.length:Int)then(Cq.Θ c b λf=>Cq.bind (Kf f.m) λd=>Cq.ret (.inl (u8.wrap (BitVec.ofInt u8.bits a ||| BitVec.ofInt u8.bits d).toNat,i64.wrap (b+1))))else(Cq.ret (.inr a))
def A6(b:(Ŀ Za)):Cq Int:=
 Cq.next (Zs4 b (0,0)) λc=>match c with|a=>Zs5 a
def yF(a:(Ŀ Za))(b:Int):Cq Bool:=
 Cq.bind (AM a) λc=>match c with|false=>(Cq.ret false)|true=>(Cq.bind (wW a) λd=>if d<=12 then(Cq.bind (A6 a) λe=>Cq.ì (0<=(u64.wrap b)) (Cq.ret (decide ((i64.wrap e)<(i64.wrap (1*2 ^ (min (u64.wrap b).toNat i64.bits)))))))else(Cq.ret false))
def ZuW:Cq Bool:=
 Cq.ret true
def RA(b:(Ŀ (Ŀ Za)))(d:Int):Int->Cq (Bool⊕Unit):=
 Cq.loop λe=>match e with|a=>if a<(b.length:Int)then(Cq.Θ b a λf=>Cq.bind (yF f d) λc=>if(!c)=true then(Cq.ret (.inr (.inl false)))else(Cq.ret (.inl (i64.wrap (a+1)))))else(Cq.ret (.inr (.inr ())))
def F7(b:(Ŀ (Ŀ Za)))(c:Int):Cq Bool:=
 Cq.next (RA b c 0) λd=>match d with|.inl a=>Cq.ret a|.inr ()=>ZuW
def PZ(c:Int)(d:(Ŀ (Ŀ Za)))(e:(Ŀ (Ŀ Za))):Cq (Zb×Int):=
 Cq.bind (E1 e false) λa=>Cq.bind (E1 d true) λb=>if 12<(a.length:Int)then(Cq.ret ((Zb.mk 0 [] []),2))else(if 12<(b.length:Int)then(Cq.ret ((Zb.mk 0 [] []),2))else(Cq.ret ((Zb.mk c a b),0)))
def Zpx(c:(Ŀ (Ŀ Za))):((Ŀ (Ŀ Za))×Int)->Cq (((Ŀ (Ŀ Za)))):=
 Cq.loop λf=>match f with|(a,b)=>if b<(c.length:Int)then(Cq.Θ c b λg=>if(g.length:Int)=0 then(Cq.bind (ZX 1) λe=>Cq.bind (Em e) λd=>Cq.ì ((a++[d]).length<=small) (Cq.ret (.inl ((a++[d]),i64.wrap (b+1)))))else(Cq.ret (.inl (a,i64.wrap (b+1)))))else(Cq.ret (.inr a))
def P0(c:Int)(a:(Ŀ (Ŀ Za)))(b:(Ŀ (Ŀ Za))):Cq (Zb×Int):=
 Cq.ì (([]++a).length<=small) (Cq.next (Zpx b (([]++a),0)) λe=>match e with|d=>PZ c b d)
def E3(a:Int)(b:(Ŀ (Ŀ Za)))(c:(Ŀ (Ŀ Za))):Cq (Zb×Int):=
 if a<1 then(Cq.ret ((Zb.mk 0 [] []),1))else(if 4<a then(Cq.ret ((Zb.mk 0 [] []),1))else(Cq.bind (F7 b a) λd=>match d with|false=>(Cq.ret ((Zb.mk 0 [] []),1))|true=>(Cq.bind (F7 c a) λe=>if(!e)=true then(Cq.ret ((Zb.mk 0 [] []),1))else(P0 a b c))))
def ZhR:Cq Bool:=
 Cq.ret true
def ZhQ(a:(Fin 8->Int)):(Int×(Fin 8->Bool))->Cq (Bool⊕Unit):=
 Cq.loop λd=>match d with|(b,c)=>if b<8 then(Cq.ì (0<=b/\b<8) (if(Ε a b)<0 then(Cq.ret (.inr (.inl false)))else(Cq.ì (0<=b/\b<8) (if 8<=(Ε a b)then(Cq.ret (.inr (.inl false)))else(Cq.ì (0<=b/\b<8) (Cq.ì (0<=Ε a b/\(Ε a b)<8) (if(Ε c (Ε a b))=true then Cq.fail else(Cq.ì (0<=b/\b<8) (Cq.ì (0<=Ε a b/\(Ε a b)<8) (Cq.ret (.inl (i64.wrap (b+1),ζ c ((Ε a b).toNat) true))))))))))))else(Cq.ret (.inr (.inr ())))
def Jb(a:(Fin 8->Int)):Cq Bool:=
 Cq.next (ZhQ a (0,(λ_=>false))) λc=>match c with|.inl b=>Cq.ret b|.inr ()=>ZhR
def Zqd(a:(Ŀ Int)):Cq (Ŀ Int):=
 Cq.bind (xh a) λb=>Cq.ret b
def Zqc(f:(Ŀ Int))(g:(Ŀ Int)):((Ŀ Int)×Int×Int)->Cq (Ŀ Int):=
 Cq.loop λh=>match h with|(b,a,c)=>if c<(i64.wrap ((if(f.length:Int)<(g.length:Int)then(g.length:Int)else(f.length:Int))+1))then(Cq.bind (yJ f c) λd=>Cq.bind (yJ g c) λe=>Cq.Θ b c λi=>Cq.ret (.inl ((b.set c.toNat (u32.wrap (Int.tmod (u64.wrap ((u64.wrap (d+e))+a)) 4294967296))),u64.wrap (Int.tdiv (u64.wrap ((u64.wrap (d+e))+a)) 4294967296),i64.wrap (c+1))))else(Cq.ret (.inr b))
def SQ(a:(Ŀ Int))(b:(Ŀ Int)):Cq (Ŀ Int):=
 Cq.ì (0<=i64.wrap ((if(a.length:Int)<(b.length:Int)then(b.length:Int)else(a.length:Int))+1)/\(i64.wrap ((if(a.length:Int)<(b.length:Int)then(b.length:Int)else(a.length:Int))+1))<=1000000) (Cq.next (Zqc a b ((List.replicate (i64.wrap ((if(a.length:Int)<(b.length:Int)then(b.length:Int)else(a.length:Int))+1)).toNat 0),0,0)) λd=>match d with|c=>Zqd c)
def Zqf(a:(Ŀ Int)):Cq (Ŀ Int):=
 Cq.bind (xh a) λb=>Cq.ret b
def Zqe(e:(Ŀ Int))(g:(Ŀ Int)):((Ŀ Int)×Int×Int)->Cq (Ŀ Int):=
 Cq.loop λh=>match h with|(b,a,c)=>if c<(e.length:Int)then(Cq.Θ e c λf=>Cq.bind (yJ g c) λd=>Cq.Θ b c λi=>Cq.ret (.inl ((b.set c.toNat (u32.wrap (Int.tmod (u64.wrap ((u64.wrap ((u64.wrap (4294967296+(u64.wrap f)))-d))-a)) 4294967296))),u64.wrap (1-(u64.wrap (Int.tdiv (u64.wrap ((u64.wrap ((u64.wrap (4294967296+(u64.wrap f)))-d))-a)) 4294967296))),i64.wrap (c+1))))else(Cq.ret (.inr b))
def K4(a:(Ŀ Int))(c:(Ŀ Int)):Cq (Ŀ Int):=
 Cq.ì (0<=(a.length:Int)/\(a.length:Int)<=1000000) (Cq.next (Zqe a c ((List.replicate (a.length:Int).toNat 0),0,0)) λd=>match d with|b=>Zqf b)
def Um(a:Zg)(b:Zg):Cq Zg:=
 if a.neg=b.neg then(Cq.bind (SQ a.χ b.χ) λc=>Cq.bind (rN a.neg c) λd=>Cq.ret d)else(Cq.bind (Z5 a.χ b.χ) λe=>if e<0 then(Cq.bind (K4 b.χ a.χ) λf=>Cq.bind (rN b.neg f) λg=>Cq.ret g)else(Cq.bind (K4 a.χ b.χ) λh=>Cq.bind (rN a.neg h) λi=>Cq.ret i))
def vy(a:Zf)(b:Zf):Cq Zf:=
 Cq.bind (qY a.num b.den) λc=>Cq.bind (qY b.num a.den) λd=>Cq.bind (Um c d) λe=>Cq.bind (qY a.den b.den) λf=>Cq.bind (AI e f) λg=>Cq.ret g
def ZuT(a:(Ŀ Za)):Cq (Ŀ Za):=
 Cq.ret a
def Kq(e:(Ŀ Za))(g:(Ŀ Za))(a:Int)(b:(Ŀ Za))(d:Int):Cq (((Ŀ Za)×Int×Int)⊕(Ŀ Za)):=
 Cq.Θ e a λj=>Cq.Θ g d λk=>Cq.bind (vy j.c k.c) λf=>Cq.bind (oy f) λh=>if ¬h=0 then(Cq.Θ e a λi=>Cq.ì ((b++[(Za.mk f i.m)]).length<=small) (Cq.ret (.inl ((b++[(Za.mk f i.m)]),i64.wrap (a+1),i64.wrap (d+1)))))else(Cq.ret (.inl (b,i64.wrap (a+1),i64.wrap (d+1))))
def Az(f:(Ŀ Za))(c:(Ŀ Za))(a:Int)(b:(Ŀ Za))(d:Int)(e:Bool):Cq (((Ŀ Za)×Int×Int)⊕(Ŀ Za)):=
 if e=true then(Cq.Θ c a λg=>Cq.ì ((b++[g]).length<=small) (Cq.ret (.inl ((b++[g]),d,i64.wrap (a+1)))))else(Kq f c d b a)
def AA(a:(Ŀ Za))(c:(Ŀ Za))(d:Int)(e:(Ŀ Za))(b:Int):Cq (((Ŀ Za)×Int×Int)⊕(Ŀ Za)):=
 if b=(a.length:Int)then(Az a c d e b true)else(Cq.Θ a b λg=>Cq.Θ c d λh=>Cq.bind (xA g.m h.m) λf=>Az a c d e b (decide (f<0)))
def vp(c:(Ŀ Za))(f:(Ŀ Za))(a:(Ŀ Za))(b:Int)(d:Int)(e:Bool):Cq (((Ŀ Za)×Int×Int)⊕(Ŀ Za)):=
 if e=true then(Cq.Θ c b λg=>Cq.ì ((a++[g]).length<=small) (Cq.ret (.inl ((a++[g]),i64.wrap (b+1),d))))else(AA c f d a b)
def wV(a:(Ŀ Za))(b:(Ŀ Za))(e:(Ŀ Za))(c:Int)(d:Int):Cq (((Ŀ Za)×Int×Int)⊕(Ŀ Za)):=
 if d=(b.length:Int)then(vp a b e c d true)else(if c<(a.length:Int)then(Cq.Θ a c λg=>Cq.Θ b d λh=>Cq.bind (xA g.m h.m) λf=>vp a b e c d (decide (0<f)))else(vp a b e c d false))
def ZuS(a:(Ŀ Za))(b:(Ŀ Za)):((Ŀ Za)×Int×Int)->Cq (Ŀ Za):=
 Cq.loop λf=>match f with|(c,d,e)=>if d<(a.length:Int)then(wV a b c d e)else(if e<(b.length:Int)then(wV a b c d e)else(Cq.ret (.inr c)))
def Bg(a:(Ŀ Za))(b:(Ŀ Za)):Cq (Ŀ Za):=
 Cq.next (ZuS a b ([],0,0)) λd=>match d with|c=>ZuT c
def ZnV(a:(Ŀ Za)):Cq ((Ŀ Za)×Int):=
 Cq.ret (a,0)
def ZnW(f:(Ŀ Za))(a:(Ŀ Za))(b:Int)(d:(Fin 8->Int)):Cq (((Ŀ Za)×Int)⊕(Ŀ Za)):=
 Cq.Θ f b λg=>Cq.bind (Bg a [(Za.mk g.c d)]) λe=>Cq.ret (.inl (e,i64.wrap (b+1)))
def PC(d:(Ŀ Za))(b:(Fin 8->Int))(e:Int):(Int×(Fin 8->Int))->Cq (Fin 8->Int):=
 Cq.loop λf=>match f with|(a,c)=>if a<8 then(Cq.ì (0<=a/\a<8) (Cq.Θ d e λg=>Cq.ì (0<=a/\a<8) (Cq.ì (0<=Ε b a/\(Ε b a)<8) (Cq.ret (.inl (i64.wrap (a+1),ζ c ((Ε b a).toNat) (Ε g.m a)))))))else(Cq.ret (.inr c))
def ZnU(c:(Ŀ Za))(b:(Fin 8->Int)):((Ŀ Za)×Int)->Cq (Ŀ Za):=
 Cq.loop λf=>match f with|(a,d)=>if d<(c.length:Int)then(Cq.next (PC c b d (0,(λ_=>0))) λg=>match g with|e=>ZnW c a d e)else(Cq.ret (.inr a))
def Aq(d:(Ŀ Za))(a:(Fin 8->Int)):Cq ((Ŀ Za)×Int):=
 Cq.bind (Jb a) λc=>if(!c)=true then Cq.fail else(Cq.next (ZnU d a ([],0)) λe=>match e with|b=>ZnV b)
def Pu(a:Zb)(b:(Ŀ (Ŀ Za)))(c:(Ŀ (Ŀ Za))):Cq Zb:=
 Cq.bind (E3 a.n b c) λd=>Cq.ret d.1
def ZmG(c:Zb)(e:(Fin 8->Int)):((Ŀ (Ŀ Za))×Int)->Cq (((Ŀ (Ŀ Za)))):=
 Cq.loop λf=>match f with|(b,a)=>if a<(c.δ.length:Int)then(Cq.Θ c.δ a λg=>Cq.bind (Aq g e) λd=>Cq.ì ((b++[d.1]).length<=small) (Cq.ret (.inl ((b++[d.1]),i64.wrap (a+1)))))else(Cq.ret (.inr b))
def Pv(a:Zb)(b:(Fin 8->Int))(c:(Ŀ (Ŀ Za))):Cq Zb:=
 Cq.next (ZmG a b ([],0)) λe=>match e with|d=>Pu a c d
def ZmH(c:Zb)(e:(Fin 8->Int)):((Ŀ (Ŀ Za))×Int)->Cq (((Ŀ (Ŀ Za)))):=
 Cq.loop λf=>match f with|(a,b)=>if b<(c.eqs.length:Int)then(Cq.Θ c.eqs b λg=>Cq.bind (Aq g e) λd=>Cq.ì ((a++[d.1]).length<=small) (Cq.ret (.inl ((a++[d.1]),i64.wrap (b+1)))))else(Cq.ret (.inr a))
def Et(a:Zb)(b:(Fin 8->Int)):Cq Zb:=
 Cq.next (ZmH a b ([],0)) λd=>match d with|c=>Pv a b c
def wX(b:(Ŀ Za))(c:Int)(a:Int):Cq Bool:=
 Cq.bind (AM b) λd=>match d with|false=>(Cq.ret false)|true=>(Cq.bind (A6 b) λe=>Cq.ì (0<=(u64.wrap c)) (if(i64.wrap e)<(i64.wrap (1*2 ^ (min (u64.wrap c).toNat i64.bits)))then(Cq.bind (wW b) λf=>Cq.ret (decide (f<=a)))else(Cq.ret false)))
def Zpw:Cq Bool:=
 Cq.ret true
def Zpv(b:(Ŀ (Ŀ Za)))(g:Int):Int->Cq (Bool⊕Unit):=
 Cq.loop λh=>match h with|a=>if a<(b.length:Int)then(Cq.Θ b a λi=>Cq.bind (wX i g 12) λc=>match c with|false=>(Cq.ret (.inr (.inl false)))|true=>(Cq.Θ b a λj=>if(j.length:Int)=0 then(Cq.ret (.inr (.inl false)))else(Cq.Θ b a λk=>Cq.bind (EY k) λd=>Cq.Θ b a λl=>Cq.bind (tT d l) λe=>match e with|false=>(Cq.ret (.inr (.inl false)))|true=>(if 0<a then(Cq.Θ b (i64.wrap (a-1)) λm=>Cq.Θ b a λn=>Cq.bind (F3 m n) λf=>if 0<=f then Cq.fail else(Cq.ret (.inl (i64.wrap (a+1)))))else(Cq.ret (.inl (i64.wrap (a+1))))))))else(Cq.ret (.inr (.inr ())))
def E2(a:(Ŀ (Ŀ Za)))(c:Int):Cq Bool:=
 if 12<(a.length:Int)then Cq.fail else(Cq.next (Zpv a c 0) λd=>match d with|.inl b=>Cq.ret b|.inr ()=>Zpw)
def ZqC:Cq Bool:=
 Cq.ret true
def ZqB(b:Zb):Int->Cq (Bool⊕Unit):=
 Cq.loop λd=>match d with|a=>if a<(b.δ.length:Int)then(Cq.Θ b.δ a λe=>Cq.bind (wW e) λc=>if c=0 then Cq.fail else(Cq.ret (.inl (i64.wrap (a+1)))))else(Cq.ret (.inr (.inr ())))
def Qm(b:Zb):Cq Bool:=
 Cq.next (ZqB b 0) λc=>match c with|.inl a=>Cq.ret a|.inr ()=>ZqC
def AN(a:Zb):Cq Bool:=
 if a.n<1 then(Cq.ret false)else(if 4<a.n then(Cq.ret false)else(Cq.bind (E2 a.eqs a.n) λb=>match b with|false=>(Cq.ret false)|true=>(Cq.bind (E2 a.δ a.n) λc=>if(!c)=true then(Cq.ret false)else(Qm a))))
def F6(a:Zb):Cq Ĳ:=
 Cq.bind (AN a) λb=>if(!b)=true then Cq.fail else(Cq.bind (vk [] a) λc=>Cq.ret (bytesOf c))
def ZqL(a:Zb)(b:(Fin 8->Int)):Cq (Zb×(Fin 8->Int)):=
 Cq.ret (a,b)
def ZqK(h:Zb)(a:(Ŀ (Fin 8->Int))):(Int×Zb×(Fin 8->Int))->Cq ((Zb×(Fin 8->Int))):=
 Cq.loop λi=>match i with|(b,c,d)=>if b<(a.length:Int)then(Cq.Θ a b λj=>Cq.bind (Et h j) λe=>Cq.bind (F6 e) λf=>Cq.bind (F6 c) λg=>if(Op.bytesLess f.toList g.toList)=true then(Cq.Θ a b λk=>Cq.ret (.inl (i64.wrap (b+1),e,k)))else(Cq.ret (.inl (i64.wrap (b+1),c,d))))else(Cq.ret (.inr (c,d)))
def K9(b:Zb):Cq (Zb×(Fin 8->Int)):=
 Cq.bind (La b.n) λa=>Cq.Θ a 0 λf=>Cq.bind (Et b f) λc=>Cq.Θ a 0 λg=>Cq.next (ZqK b a (1,c,g)) λh=>match h with|(d,e)=>ZqL d e
def Zqp:Cq Bool:=
 Cq.ret true
def Zqq(b:Int)(a:Int):Cq (Int⊕(Bool⊕Unit)):=
 if a<0 then Cq.fail else(Cq.ret (.inl (i64.wrap (b+1))))
def Zqo(d:(Ŀ (Fin 8->Int)))(b:Int):(Int×Int)->Cq (Bool⊕Int):=
 Cq.loop λe=>match e with|(a,c)=>if c<(d.length:Int)then(Cq.Θ d c λf=>Cq.ì (0<=b/\b<8) (if(Ε f b)<(-1000)then(Cq.ret (.inr (.inl false)))else(Cq.Θ d c λg=>Cq.ì (0<=b/\b<8) (if 1000<(Ε g b)then Cq.fail else(if a=0 then(Cq.Θ d c λh=>Cq.ì (0<=b/\b<8) (Cq.ret (.inl (Ε h b,i64.wrap (c+1)))))else(Cq.ret (.inl (a,i64.wrap (c+1)))))))))else(Cq.ret (.inr (.inr a)))
def Zqn(d:(Ŀ (Fin 8->Int))):Int->Cq (Bool⊕Unit):=
 Cq.loop λe=>match e with|b=>if b<8 then(Cq.next (Zqo d b (0,0)) λf=>match f with|.inl c=>Cq.ret (.inr (.inl c))|.inr a=>Zqq b a)else(Cq.ret (.inr (.inr ())))
def yK(a:(Ŀ (Fin 8->Int))):Cq Bool:=
 if 24<(a.length:Int)then Cq.fail else(Cq.next (Zqn a 0) λc=>match c with|.inl b=>Cq.ret b|.inr ()=>Zqp)
def Zjk:Cq Bool:=
 Cq.ret true
def Zjj(a:(Fin 8->Int)):(Int×(Fin 8->Bool))->Cq (Bool⊕Unit):=
 Cq.loop λd=>match d with|(b,c)=>if b<8 then(Cq.ì (0<=b/\b<8) (if(Ε a b)<0 then(Cq.ret (.inr (.inl false)))else(Cq.ì (0<=b/\b<8) (if 7<(Ε a b)then(Cq.ret (.inr (.inl false)))else(Cq.ì (0<=b/\b<8) (Cq.ì (0<=Ε a b/\(Ε a b)<8) (if(Ε c (Ε a b))=true then Cq.fail else(Cq.ì (0<=b/\b<8) (Cq.ì (0<=Ε a b/\(Ε a b)<8) (Cq.ret (.inl (i64.wrap (b+1),ζ c ((Ε a b).toNat) true))))))))))))else(Cq.ret (.inr (.inr ())))
def Ji(a:(Fin 8->Int)):Cq Bool:=
 Cq.next (Zjj a (0,(λ_=>false))) λc=>match c with|.inl b=>Cq.ret b|.inr ()=>Zjk
def Gi(b:Zf):Cq (Zf×Int):=
 Cq.bind (F1 b.den b.num) λa=>Cq.ret (a.1,a.2)
def F2(c:Zf)(d:Zf):Cq Zf:=
 Cq.bind (F0 d) λa=>Cq.bind (vy c a) λb=>Cq.ret b
def ZnT(a:(Ŀ Zf)):Cq (Ŀ Zf):=
 Cq.ret a
def ZnS(c:(Ŀ Zf))(f:Zf):(Int×(Ŀ Zf))->Cq (Ŀ Zf):=
 Cq.loop λg=>match g with|(b,a)=>if b<8 then(Cq.Θ a b λh=>Cq.Θ c b λi=>Cq.bind (qZ f i) λd=>Cq.bind (F2 h d) λe=>Cq.Θ a b λj=>Cq.ret (.inl (i64.wrap (b+1),a.set b.toNat e)))else(Cq.ret (.inr a))
def J5(a:(Ŀ Zf))(b:(Ŀ Zf))(d:Int):Cq (Ŀ Zf):=
 Cq.Θ a d λe=>Cq.next (ZnS b e (0,a)) λf=>match f with|c=>ZnT c
def ZsT(a:(Ŀ (Ŀ Zf))):Cq Int:=
 Cq.ret (a.length:Int)
def ZsU(a:(Ŀ (Ŀ Zf)))(b:(Ŀ Int))(e:Int)(c:Int)(d:(Ŀ Zf)):Cq (((Ŀ (Ŀ Zf))×(Ŀ Int)×Int)⊕(((Ŀ (Ŀ Zf))))):=
 Cq.ì ((a++[d]).length<=small) (Cq.ì ((b++[c]).length<=small) (Cq.ret (.inl ((a++[d]),(b++[c]),i64.wrap (e+1)))))
def Qy(c:Zf×Int):(Int×(Ŀ Zf))->Cq (Ŀ Zf):=
 Cq.loop λe=>match e with|(a,b)=>if a<8 then(Cq.Θ b a λf=>Cq.bind (qZ f c.1) λd=>Cq.Θ b a λg=>Cq.ret (.inl (i64.wrap (a+1),b.set a.toNat d)))else(Cq.ret (.inr b))
def ZsV(b:(Ŀ (Ŀ Zf)))(c:(Ŀ Int))(d:Int)(e:(Ŀ Zf))(a:Int):Cq (((Ŀ (Ŀ Zf))×(Ŀ Int)×Int)⊕(((Ŀ (Ŀ Zf))))):=
 if a=8 then(Cq.ret (.inl (b,c,i64.wrap (d+1))))else(Cq.Θ e a λh=>Cq.bind (Gi h) λf=>Cq.next (Qy f (0,e)) λi=>match i with|g=>ZsU b c d a g)
def Qz(b:(Ŀ Zf)):Int->Cq Int:=
 Cq.loop λd=>match d with|a=>if a<8 then(Cq.Θ b a λe=>Cq.bind (oy e) λc=>if c=0 then(Cq.ret (.inl (i64.wrap (a+1))))else(Cq.ret (.inr a)))else(Cq.ret (.inr a))
def ZsW(b:(Ŀ (Ŀ Zf)))(c:(Ŀ Int))(d:Int)(a:(Ŀ Zf)):Cq (((Ŀ (Ŀ Zf))×(Ŀ Int)×Int)⊕(((Ŀ (Ŀ Zf))))):=
 Cq.next (Qz a 0) λf=>match f with|e=>ZsV b c d a e
def QA(b:(Ŀ (Ŀ Zf)))(d:(Ŀ Int)):(Int×(Ŀ Zf))->Cq (Ŀ Zf):=
 Cq.loop λf=>match f with|(a,c)=>if a<(b.length:Int)then(Cq.Θ b a λg=>Cq.Θ d a λh=>Cq.bind (J5 c g h) λe=>Cq.ret (.inl (i64.wrap (a+1),e)))else(Cq.ret (.inr c))
def ZsX(a:(Ŀ (Ŀ Zf)))(b:(Ŀ Int))(c:Int)(d:(Ŀ Zf)):Cq (((Ŀ (Ŀ Zf))×(Ŀ Int)×Int)⊕(((Ŀ (Ŀ Zf))))):=
 Cq.next (QA a b (0,d)) λf=>match f with|e=>ZsW a b c e
def Qk(c:(Ŀ (Fin 8->Int)))(d:Int):(Int×(Ŀ Zf))->Cq (Ŀ Zf):=
 Cq.loop λf=>match f with|(a,b)=>if a<8 then(Cq.Θ c d λg=>Cq.ì (0<=a/\a<8) (Cq.bind (ZX (Ε g a)) λe=>Cq.Θ b a λh=>Cq.ret (.inl (i64.wrap (a+1),b.set a.toNat e))))else(Cq.ret (.inr b))
def ZsS(b:(Ŀ (Fin 8->Int))):((Ŀ (Ŀ Zf))×(Ŀ Int)×Int)->Cq (((Ŀ (Ŀ Zf)))):=
 Cq.loop λf=>match f with|(c,d,a)=>if a<(b.length:Int)then(Cq.next (Qk b a (0,(List.replicate 8 (Zf.mk (Zg.mk false []) (Zg.mk false []))))) λg=>match g with|e=>ZsX c d a e)else(Cq.ret (.inr c))
def FH(a:(Ŀ (Fin 8->Int))):Cq Int:=
 Cq.next (ZsS a ([],[],0)) λc=>match c with|b=>ZsT b
def FI(a:Int)(b:Int):Cq (Fin 8->Int):=
 Cq.ì (0<=a/\a<8) (Cq.ret (ζ (λ_=>0) a.toNat b))
def ZsP(a:(Ŀ (Fin 8->Int))):Cq ((Ŀ (Fin 8->Int))×Int):=
 Cq.ret (a,0)
def ZsO:((Ŀ (Fin 8->Int))×Int)->Cq (((Ŀ (Fin 8->Int)))):=
 Cq.loop λd=>match d with|(a,c)=>if c<8 then(Cq.bind (FI c 1) λb=>Cq.ì ((a++[b]).length<=small) (Cq.ret (.inl ((a++[b]),i64.wrap (c+1)))))else(Cq.ret (.inr a))
def Lv(a:(Ŀ (Fin 8->Int))):Cq ((Ŀ (Fin 8->Int))×Int):=
 Cq.bind (yK a) λc=>if(!c)=true then Cq.fail else(Cq.ì (([]++a).length<=small) (Cq.bind (FH a) λd=>if d=8 then(Cq.ret (([]++a),0))else(if 16<(a.length:Int)then Cq.fail else(Cq.next (ZsO (([]++a),0)) λe=>match e with|b=>ZsP b))))
def ZnO(a:(Ŀ (Fin 8->Int))):Cq ((Ŀ (Fin 8->Int))×Int):=
 Cq.ret (a,0)
def ZnP(a:(Ŀ (Fin 8->Int)))(c:Int)(b:(Fin 8->Int)):Cq (((Ŀ (Fin 8->Int))×Int)⊕(((Ŀ (Fin 8->Int))))):=
 Cq.ì ((a++[b]).length<=small) (Cq.ret (.inl ((a++[b]),i64.wrap (c+1))))
def PB(b:(Fin 8->Int))(d:(Ŀ (Fin 8->Int))×Int)(e:Int):(Int×(Fin 8->Int))->Cq (Fin 8->Int):=
 Cq.loop λf=>match f with|(a,c)=>if a<8 then(Cq.ì (0<=a/\a<8) (Cq.Θ d.1 e λg=>Cq.ì (0<=a/\a<8) (Cq.ì (0<=Ε b a/\(Ε b a)<8) (Cq.ret (.inl (i64.wrap (a+1),ζ c ((Ε b a).toNat) (Ε g a)))))))else(Cq.ret (.inr c))
def ZnN(b:(Fin 8->Int))(c:(Ŀ (Fin 8->Int))×Int):((Ŀ (Fin 8->Int))×Int)->Cq (((Ŀ (Fin 8->Int)))):=
 Cq.loop λf=>match f with|(a,d)=>if d<(c.1.length:Int)then(Cq.next (PB b c d (0,(λ_=>0))) λg=>match g with|e=>ZnP a d e)else(Cq.ret (.inr a))
def Kg(d:(Ŀ (Fin 8->Int)))(a:(Fin 8->Int)):Cq ((Ŀ (Fin 8->Int))×Int):=
 Cq.bind (yK d) λe=>if(!e)=true then Cq.fail else(Cq.bind (Ji a) λf=>if(!f)=true then Cq.fail else(Cq.bind (Lv d) λb=>if ¬b.2=0 then Cq.fail else(Cq.next (ZnN a b ([],0)) λg=>match g with|c=>ZnO c)))
def Eg(a:Int):Cq Bool:=
 if a=1 then(Cq.ret true)else(if a=7 then(Cq.ret true)else(Cq.ret (decide (a=9))))
def JL(a:Zc):Cq Bool:=
 if(a.p.length:Int)=0 then(if(a.o.length:Int)=0 then(Cq.ret true)else(Cq.ret (decide (a.kind=3))))else(Cq.bind (Eg a.kind) λb=>match b with|false=>(Cq.ret false)|true=>(if(a.o.length:Int)=0 then(Cq.ret true)else(Cq.ret (decide (a.kind=3)))))
def KT(b:Zb)(a:Zc):Cq Bool:=
 if a.kind<1 then(Cq.ret false)else(if 10<a.kind then(Cq.ret false)else(Cq.bind (AM a.p) λc=>match c with|false=>(Cq.ret false)|true=>(Cq.bind (wW a.p) λd=>if 12<d then(Cq.ret false)else(Cq.bind (A6 a.p) λe=>Cq.ì (0<=(u64.wrap b.n)) (if(i64.wrap (1*2 ^ (min (u64.wrap b.n).toNat i64.bits)))<=(i64.wrap e)then(Cq.ret false)else(Cq.bind (yK a.o) λf=>if(!f)=true then(Cq.ret false)else(JL a)))))))
def Qt(a:ZE):Cq ZE:=
 if ¬a.e=0 then Cq.fail else(Cq.ret a)
def Zq3(e:Zb)(b:Zc):Cq ZE:=
 Cq.bind (K9 e) λa=>Cq.bind (Aq b.p a.2) λc=>if b.kind=3 then(Cq.bind (Kg b.o a.2) λd=>Qt (ZE.mk a.1 (Zc.mk b.kind c.1 d.1) d.2))else(Qt (ZE.mk a.1 (Zc.mk b.kind c.1 []) 0))
def yL(a:Zb)(b:Zc):Cq ZE:=
 Cq.bind (AN a) λc=>match c with|false=>(Cq.ret (ZE.mk (Zb.mk 0 [] []) (Zc.mk 0 [] []) 1))|true=>(Cq.bind (KT a b) λd=>if(!d)=true then(Cq.ret (ZE.mk (Zb.mk 0 [] []) (Zc.mk 0 [] []) 1))else(Zq3 a b))
def JU(b:Zc)(a:Bool):Cq (Ŀ Zc):=
 if a=true then(Cq.ret [(Zc.mk 5 [] [])])else(if b.kind=7 then(Cq.ret [(Zc.mk 6 [] [])])else(Cq.ret []))
def JV(a:Zc)(b:Bool):Cq (Ŀ Zc):=
 if b=true then(Cq.ret [(Zc.mk 4 [] [])])else(if a.kind=6 then(JU a (decide (a.kind=6)))else(JU a (decide (a.kind=10))))
def Fy(a:Zc):Cq (Ŀ Zc):=
 if a.kind=5 then(JV a (decide (a.kind=5)))else(JV a (decide (a.kind=8)))
def Zqx(a:(Ŀ Int)):Cq (Ŀ Int):=
 Cq.ret a
def Zqy(a:Int)(b:(Ŀ Int)):Cq (((Ŀ Int)×Int)⊕(Ŀ Int)):=
 Cq.ret (.inl (b,i64.wrap (a+1)))
def Zqw(d:(Ŀ (Fin 8->Int)))(e:Int):((Ŀ Int)×Int)->Cq (Ŀ Int):=
 Cq.loop λf=>match f with|(b,a)=>if a<8 then(Cq.Θ d e λg=>Cq.ì (0<=a/\a<8) (Cq.bind (AB b (Ε g a)) λc=>Cq.ret (.inl (c,i64.wrap (a+1)))))else(Cq.ret (.inr b))
def Zqv(b:(Ŀ (Fin 8->Int))):((Ŀ Int)×Int)->Cq (Ŀ Int):=
 Cq.loop λd=>match d with|(c,a)=>if a<(b.length:Int)then(Cq.next (Zqw b a (c,0)) λe=>match e with|f=>Zqy a f)else(Cq.ret (.inr c))
def K7(c:(Ŀ Int))(a:(Ŀ (Fin 8->Int))):Cq (Ŀ Int):=
 Cq.bind (uf c (u64.wrap (a.length:Int))) λb=>Cq.next (Zqv a (b,0)) λd=>match d with|e=>Zqx e
def F5(a:Zc):Cq Ĳ:=
 Cq.bind (AB [] a.kind) λb=>Cq.bind (FJ b a.p) λc=>Cq.bind (K7 c a.o) λd=>Cq.ret (bytesOf d)
def DW(c:Zc)(d:Zc):Cq Bool:=
 Cq.bind (F5 c) λa=>Cq.bind (F5 d) λb=>Cq.ret (decide (a=b))
def ZvY:Cq Int:=
 Cq.ret (-1)
def Fa(b:Zd)(e:Zb)(f:Zc):Int->Cq (Int⊕Unit):=
 Cq.loop λg=>match g with|a=>if a<(b.t.length:Int)then(Cq.Θ b.t a λh=>Cq.bind (Au h.k e) λc=>match c with|false=>(Cq.ret (.inl (i64.wrap (a+1))))|true=>(Cq.Θ b.t a λi=>Cq.bind (DW i.q f) λd=>if d=true then(Cq.ret (.inr (.inl a)))else(Cq.ret (.inl (i64.wrap (a+1))))))else(Cq.ret (.inr (.inr ())))
def Gk(b:Zd)(c:Zb)(d:Zc):Cq Int:=
 Cq.next (Fa b c d 0) λe=>match e with|.inl a=>Cq.ret a|.inr ()=>ZvY
def Qs(b:ZE)(a:Zd):Cq Zv:=
 Cq.bind (Gk a b.k b.q) λc=>if 0<=c then(Cq.Θ a.t c λd=>Cq.ret (Zv.mk a d.id 0))else(if 100<=(a.t.length:Int)then(Cq.ret (Zv.mk (Zd.mk [] 0) 0 2))else(if 1000000<=a.next then Cq.fail else(Cq.ì ((([]:Ŀ Ze)++a.t).length<=small) (Cq.ì (((([]:Ŀ Ze)++a.t)++[(Ze.mk a.next b.k b.q 0 0 (-1) false)]).length<=small) (Cq.ret (Zv.mk (Zd.mk ((([]:Ŀ Ze)++a.t)++[(Ze.mk a.next b.k b.q 0 0 (-1) false)]) (i64.wrap (a.next+1))) a.next 0))))))
def Zq2(e:Zd->Zb->Zc->Cq Zv)(h:ZE)(c:(Ŀ Zc)):(Int×Zd×Zv)->Cq (Zv⊕(Zd×Zv)):=
 Cq.loop λi=>match i with|(a,d,f)=>if a<(c.length:Int)then(Cq.Θ c a λj=>Cq.bind (e d h.k j) λg=>if ¬g.e=0 then Cq.fail else(Cq.ret (.inl (i64.wrap (a+1),g.b,f))))else(Cq.ret (.inr (.inr (d,f))))
def Kt(e:Zd->Zb->Zc->Cq Zv)(b:Zd)(c:Zb)(d:Zc):Cq Zv:=
 Cq.bind (yL c d) λa=>if ¬a.e=0 then(Cq.ret (Zv.mk (Zd.mk [] 0) 0 a.e))else(Cq.bind (Fy a.q) λf=>Cq.next (Zq2 e a f (0,b,(Zv.mk (Zd.mk [] 0) 0 0))) λi=>match i with|.inl g=>Cq.ret g|.inr (h,j)=>Qs a h)
def AP:Nat->Zd->Zb->Zc->Cq Zv
 |0,_,_,_=>Cq.fail
 |n+1,a,b,c=>Kt (AP n) a b c
def Mf(a:Int):Cq ((Ŀ Za)×Int):=
 if a<0 then(Cq.ret ([],1))else(if 8<=a then Cq.fail else(Cq.ì (0<=a/\a<8) (Cq.bind (ZX 1) λb=>Cq.ret ([(Za.mk b (ζ (λ_=>0) a.toNat 1))],0))))
def FZ:Cq Zd:=
 Cq.ret (Zd.mk [] 1)
def AX(a:Int):Cq Zc:=
 Cq.ret (Zc.mk a [] [])
def Zod(c:(Ŀ Int))(b:(Ŀ Int))(a:Int):Cq (Ŀ Int):=
 Cq.Θ b (c.length:Int) λe=>Cq.bind (ZY (b.set (c.length:Int).toNat (u32.wrap a))) λd=>Cq.ret d
def PF(b:(Ŀ Int))(a:Int)(c:Int):Cq (((Ŀ Int)×Int×Int)⊕(((Ŀ Int)×Int))):=
 Cq.Θ b a λd=>Cq.ret (.inl ((b.set a.toNat (u32.wrap c)),Int.fdiv c (2 ^ (min (32:Int).toNat u64.bits)),i64.wrap (a+1)))
def Zoc(d:(Ŀ Int))(e:(Ŀ Int)):((Ŀ Int)×Int×Int)->Cq (((Ŀ Int)×Int)):=
 Cq.loop λg=>match g with|(c,b,a)=>if a<(d.length:Int)then(Cq.Θ d a λf=>if a<(e.length:Int)then(Cq.Θ e a λh=>PF c a (u64.wrap ((u64.wrap ((u64.wrap f)+b))+(u64.wrap h))))else(PF c a (u64.wrap ((u64.wrap f)+b))))else(Cq.ret (.inr (c,b)))
def JG(a:(Ŀ Int))(d:(Ŀ Int)):Cq (Ŀ Int):=
 Cq.ì (0<=i64.wrap ((a.length:Int)+1)/\(i64.wrap ((a.length:Int)+1))<=1000000) (Cq.next (Zoc a d ((List.replicate (i64.wrap ((a.length:Int)+1)).toNat 0),0,0)) λe=>match e with|(c,b)=>Zod a c b)
def Rj(a:(Ŀ Int))(b:(Ŀ Int)):Cq (Ŀ Int):=
 if(a.length:Int)<(b.length:Int)then(JG b a)else(JG a b)
def Zhq(a:(Ŀ Int)):Cq (Ŀ Int):=
 Cq.bind (ZY a) λb=>Cq.ret b
def O6(b:(Ŀ Int))(a:Int)(c:Int):Cq (((Ŀ Int)×Int×Int)⊕(Ŀ Int)):=
 Cq.Θ b a λd=>Cq.ret (.inl ((b.set a.toNat (u32.wrap c)),Int.fdiv c (2 ^ (min (63:Int).toNat u64.bits)),i64.wrap (a+1)))
def Zhp(d:(Ŀ Int))(e:(Ŀ Int)):((Ŀ Int)×Int×Int)->Cq (Ŀ Int):=
 Cq.loop λg=>match g with|(c,b,a)=>if a<(d.length:Int)then(Cq.Θ d a λf=>if a<(e.length:Int)then(Cq.Θ e a λh=>O6 c a (u64.wrap ((u64.wrap ((u64.wrap f)-b))-(u64.wrap h))))else(O6 c a (u64.wrap ((u64.wrap f)-b))))else(Cq.ret (.inr c))
def Je(a:(Ŀ Int))(c:(Ŀ Int)):Cq (Ŀ Int):=
 Cq.ì (0<=(a.length:Int)/\(a.length:Int)<=1000000) (Cq.next (Zhp a c ((List.replicate (a.length:Int).toNat 0),0,0)) λd=>match d with|b=>Zhq b)
def Zoj:Cq Bool:=
 Cq.ret true
def Zok(a:Int)(b:(Fin 8->Bool)):Cq ((Int×(Fin 8->Bool))⊕(Bool⊕Unit)):=
 Cq.ret (.inl (i64.wrap (a+1),b))
def D5(c:(Fin 8->Int))(a:Int)(b:(Fin 8->Bool)):Cq ((Int×(Fin 8->Bool))⊕(Bool⊕(Fin 8->Bool))):=
 Cq.ì (0<=a/\a<8) (if(Ε b a)=true then(Cq.ì (0<=a/\a<8) (Cq.ret (.inl (i64.wrap (a+1),ζ b a.toNat true))))else(Cq.ì (0<=a/\a<8) (Cq.ret (.inl (i64.wrap (a+1),ζ b a.toNat (decide (¬(Ε c a)=0)))))))
def PI(c:(Fin 8->Int)):(Int×(Fin 8->Bool))->Cq (Bool⊕(Fin 8->Bool)):=
 Cq.loop λd=>match d with|(a,b)=>if a<8 then(Cq.ì (0<=a/\a<8) (if(Ε c a)<(-1000)then(Cq.ret (.inr (.inl false)))else(if 1000<(Ε c a)then(Cq.ret (.inr (.inl false)))else(if(Ε c a)<0 then(Cq.ì (0<=a/\a<8) (if(!(Ε b a))=true then Cq.fail else(D5 c a b)))else(D5 c a b)))))else(Cq.ret (.inr (.inr b)))
def Zoi(b:(Ŀ (Fin 8->Int))):(Int×(Fin 8->Bool))->Cq (Bool⊕Unit):=
 Cq.loop λf=>match f with|(a,c)=>if a<(b.length:Int)then(Cq.Θ b a λg=>Cq.next (PI g (0,c)) λh=>match h with|.inl d=>Cq.ret (.inr (.inl d))|.inr e=>Zok a e)else(Cq.ret (.inr (.inr ())))
def yw(a:(Ŀ (Fin 8->Int))):Cq Bool:=
 if 24<(a.length:Int)then Cq.fail else(Cq.next (Zoi a (0,(λ_=>false))) λc=>match c with|.inl b=>Cq.ret b|.inr ()=>Zoj)
def D3(a:Zc):Cq Bool:=
 if a.kind=1 then(if a.kind=1 then(Cq.ret true)else(Cq.ret (decide ((a.p.length:Int)=0))))else(if a.kind=7 then(if a.kind=7 then(Cq.ret true)else(Cq.ret (decide ((a.p.length:Int)=0))))else(if a.kind=9 then(Cq.ret true)else(Cq.ret (decide ((a.p.length:Int)=0)))))
def J4(a:Zc):Cq Bool:=
 Cq.bind (yw a.o) λb=>match b with|false=>(Cq.ret false)|true=>(if 0<(a.o.length:Int)then(if ¬a.kind=3 then(Cq.ret false)else(D3 a))else(D3 a))
def PM(b:Zb)(a:Zc):Cq Bool:=
 Cq.bind (Ae a.p) λc=>match c with|false=>(Cq.ret false)|true=>(Cq.bind (wR a.p) λd=>if 12<d then(Cq.ret false)else(Cq.bind (Al a.p) λe=>Cq.ì (0<=b.n) (if ¬(Int.fdiv e (2 ^ (min (b.n).toNat u8.bits)))=0 then(Cq.ret false)else(J4 a))))
def EU(b:Zb)(a:Zc):Cq Bool:=
 if a.kind<1 then(Cq.ret false)else(if 10<a.kind then(Cq.ret false)else(PM b a))
def O3(a:(Ŀ (Fin 8->Int))):Cq ((Ŀ (Fin 8->Int))):=
 Cq.pU a (Cq.ret []) (Cq.ì (([]++a).length<=small) (Cq.ret ([]++a)))
def JZ(a:(Ŀ Zf))(b:Int):Cq Bool:=
 Cq.Θ a b λd=>Cq.bind (ZH d) λc=>Cq.ret (decide (¬c=0))
def QI(a:Zf):Cq (Zf×Int):=
 Cq.bind (ve a.num) λb=>if b=0 then Cq.fail else(if b=(-1)then(Cq.bind (yA a.den) λc=>Cq.bind (yA a.num) λd=>Cq.ret ((Zf.mk c d),0))else(Cq.ret ((Zf.mk a.den a.num),0)))
def Ex(c:Zf)(d:Zf):Cq (Zf×Int):=
 Cq.bind (QI d) λa=>if ¬a.2=0 then Cq.fail else(Cq.bind (Z7 c a.1) λb=>Cq.ret (b,0))
def QJ(a:Zf):Cq Zf:=
 Cq.bind (yA a.num) λb=>Cq.ret (Zf.mk b a.den)
def Rh(a:Zg)(b:Zg):Cq Zg:=
 if a.neg=b.neg then(Cq.bind (Rj a.χ b.χ) λc=>Cq.bind (ZS a.neg c) λd=>Cq.ret d)else(Cq.bind (Ak a.χ b.χ) λe=>if 0<=e then(Cq.bind (Je a.χ b.χ) λf=>Cq.bind (ZS a.neg f) λg=>Cq.ret g)else(Cq.bind (Je b.χ a.χ) λh=>Cq.bind (ZS b.neg h) λi=>Cq.ret i))
def QH(a:Zf)(b:Zf):Cq Zf:=
 Cq.bind (Z8 [a.num,b.den]) λc=>Cq.bind (Z8 [b.num,a.den]) λd=>Cq.bind (Rh c d) λe=>Cq.bind (Z8 [a.den,b.den]) λf=>Cq.bind (Am e f) λg=>Cq.ret g
def Ej(c:Zf)(d:Zf):Cq Zf:=
 Cq.bind (QJ d) λa=>Cq.bind (QH c a) λb=>Cq.ret b
def ZaJ:Cq Int:=
 Cq.ret (-1)
def ZaI(c:(Ŀ (Ŀ Zf)))(b:Int):Int->Cq (Int⊕Unit):=
 Cq.loop λe=>match e with|a=>if a<(c.length:Int)then(Cq.Θ c a λf=>Cq.bind (JZ f b) λd=>if d=true then(Cq.ret (.inr (.inl a)))else(Cq.ret (.inl (i64.wrap (a+1)))))else(Cq.ret (.inr (.inr ())))
def ZN(c:(Ŀ (Ŀ Zf)))(a:Int):Cq Int:=
 Cq.next (ZaI c a 0) λd=>match d with|.inl b=>Cq.ret b|.inr ()=>ZaJ
def ZpR(a:Int):Cq Int:=
 Cq.ret a
def ZpS(b:Int)(a:Int)(c:(Ŀ (Ŀ Zf))):Cq (((Ŀ (Ŀ Zf))×Int×Int)⊕Int):=
 Cq.ret (.inl (c,i64.wrap (b+1),i64.wrap (a+1)))
def ZpT(a:Int)(b:(Ŀ (Ŀ Zf))):Cq (((Ŀ (Ŀ Zf))×Int)⊕(((Ŀ (Ŀ Zf))))):=
 Cq.ret (.inl (b,i64.wrap (a+1)))
def P6(e:Int)(c:Int)(f:Zf×Int):((Ŀ (Ŀ Zf))×Int)->Cq (((Ŀ (Ŀ Zf)))):=
 Cq.loop λl=>match l with|(b,a)=>if a<8 then(Cq.Θ b c λm=>Cq.Θ m a λg=>Cq.Θ b e λh=>Cq.Θ h a λi=>Cq.bind (Z7 f.1 i) λj=>Cq.bind (Ej g j) λk=>Cq.Θ b c λd=>Cq.Θ d a λn=>Cq.ret (.inl ((b.set c.toNat (d.set a.toNat k)),i64.wrap (a+1))))else(Cq.ret (.inr b))
def P5(d:Int)(c:Int):((Ŀ (Ŀ Zf))×Int)->Cq (((Ŀ (Ŀ Zf)))):=
 Cq.loop λg=>match g with|(b,a)=>if a<(b.length:Int)then(Cq.Θ b a λh=>Cq.Θ h c λi=>Cq.Θ b d λj=>Cq.Θ j c λk=>Cq.bind (Ex i k) λf=>Cq.next (P6 d a f (b,c)) λl=>match l with|e=>ZpT a e)else(Cq.ret (.inr b))
def ZpQ:((Ŀ (Ŀ Zf))×Int×Int)->Cq Int:=
 Cq.loop λg=>match g with|(b,a,c)=>if c<8 then(Cq.ì (0<=a/\a<=(b.length:Int)) (Cq.bind (ZN (b.drop a.toNat) c) λd=>if d<0 then(Cq.ret (.inl (b,a,i64.wrap (c+1))))else(Cq.Θ b (i64.wrap (a+d)) λf=>Cq.Θ b a λh=>Cq.Θ b a λj=>Cq.Θ (b.set a.toNat f) (i64.wrap (a+d)) λk=>Cq.next (P5 a c (((b.set a.toNat f).set (i64.wrap (a+d)).toNat h),i64.wrap (a+1))) λi=>match i with|e=>ZpS a c e)))else(Cq.ret (.inr a))
def ZpU(a:(Ŀ (Ŀ Zf))):Cq Int:=
 Cq.next (ZpQ (a,0,0)) λc=>match c with|b=>ZpR b
def ZpV(a:Int)(b:(Ŀ (Ŀ Zf))):Cq (((Ŀ (Ŀ Zf))×Int)⊕(((Ŀ (Ŀ Zf))))):=
 Cq.ret (.inl (b,i64.wrap (a+1)))
def PJ(c:Int)(e:(Fin 8->Int)):((Ŀ (Ŀ Zf))×Int)->Cq (((Ŀ (Ŀ Zf)))):=
 Cq.loop λg=>match g with|(b,a)=>if a<8 then(Cq.ì (0<=a/\a<8) (Cq.bind (wN (Ε e a)) λf=>Cq.Θ b c λd=>Cq.Θ d a λh=>Cq.ret (.inl ((b.set c.toNat (d.set a.toNat f)),i64.wrap (a+1)))))else(Cq.ret (.inr b))
def P7(b:(Ŀ (Fin 8->Int))):((Ŀ (Ŀ Zf))×Int)->Cq (((Ŀ (Ŀ Zf)))):=
 Cq.loop λf=>match f with|(c,a)=>if a<(b.length:Int)then(Cq.Θ b a λe=>Cq.next (PJ a e (c,0)) λg=>match g with|d=>ZpV a d)else(Cq.ret (.inr c))
def ER(a:(Ŀ (Fin 8->Int))):Cq Int:=
 Cq.ì (0<=(a.length:Int)/\(a.length:Int)<=1000000) (Cq.next (P7 a ((List.replicate (a.length:Int).toNat (List.replicate 8 (Zf.mk (Zg.mk false []) (Zg.mk false [])))),0)) λc=>match c with|b=>ZpU b)
def ZpP(a:(Fin 8->Int)):Cq (Fin 8->Int):=
 Cq.ret a
def ZpO(b:Int):(Int×(Fin 8->Int))->Cq (Fin 8->Int):=
 Cq.loop λd=>match d with|(a,c)=>if a<8 then(Cq.ì (0<=a) (Cq.ì (0<=a/\a<8) (Cq.ret (.inl (i64.wrap (a+1),ζ c a.toNat (i64.wrap (u8.wrap (BitVec.ofInt u8.bits (Int.fdiv b (2 ^ (min (a).toNat u8.bits))) &&& BitVec.ofInt u8.bits 1).toNat)))))))else(Cq.ret (.inr c))
def KM(a:Int):Cq (Fin 8->Int):=
 Cq.next (ZpO a (0,(λ_=>0))) λc=>match c with|b=>ZpP b
def ZpN(a:(Ŀ (Fin 8->Int))):Cq ((Ŀ (Fin 8->Int))×Int):=
 Cq.ret (a,0)
def ZpM:((Ŀ (Fin 8->Int))×Int)->Cq (((Ŀ (Fin 8->Int)))):=
 Cq.loop λd=>match d with|(b,a)=>if a<8 then(Cq.ì (0<=a) (Cq.bind (KM (u8.wrap (1*2 ^ (min (a).toNat u8.bits)))) λc=>Cq.ì ((b++[c]).length<=small) (Cq.ret (.inl ((b++[c]),i64.wrap (a+1))))))else(Cq.ret (.inr b))
def KL(a:(Ŀ (Fin 8->Int))):Cq ((Ŀ (Fin 8->Int))×Int):=
 Cq.bind (yw a) λc=>if(!c)=true then Cq.fail else(Cq.bind (O3 a) λb=>Cq.bind (ER a) λd=>if d=8 then(Cq.ret (b,0))else(if 24<(i64.wrap ((a.length:Int)+8))then Cq.fail else(Cq.next (ZpM (b,0)) λf=>match f with|e=>ZpN e)))
def Zmi(a:(Ŀ (Fin 8->Int))):Cq ((Ŀ (Fin 8->Int))×Int):=
 Cq.ret (a,0)
def Zmj(a:Int)(b:(Ŀ (Fin 8->Int))):Cq (((Ŀ (Fin 8->Int))×Int)⊕(((Ŀ (Fin 8->Int))))):=
 Cq.ret (.inl (b,i64.wrap (a+1)))
def Pj(c:(Fin 8->Int))(d:Int)(e:(Fin 8->Int)):((Ŀ (Fin 8->Int))×Int)->Cq (((Ŀ (Fin 8->Int)))):=
 Cq.loop λf=>match f with|(b,a)=>if a<8 then(Cq.ì (0<=a/\a<8) (Cq.ì (0<=a/\a<8) (Cq.Θ b d λg=>Cq.ì (0<=Ε c a/\(Ε c a)<8) (Cq.ret (.inl ((b.set d.toNat (ζ g (Ε c a).toNat (Ε e a))),i64.wrap (a+1)))))))else(Cq.ret (.inr b))
def Zmg(e:(Fin 8->Int))(d:(Ŀ (Fin 8->Int))×Int):((Ŀ (Fin 8->Int))×Int)->Cq (((Ŀ (Fin 8->Int)))):=
 Cq.loop λf=>match f with|(b,a)=>if a<(d.1.length:Int)then(Cq.Θ d.1 a λg=>Cq.next (Pj e a g (b,0)) λh=>match h with|c=>Zmj a c)else(Cq.ret (.inr b))
def Pk(c:(Ŀ (Fin 8->Int)))(d:(Fin 8->Int)):Cq ((Ŀ (Fin 8->Int))×Int):=
 Cq.bind (KL c) λa=>if ¬a.2=0 then Cq.fail else(Cq.ì (0<=(a.1.length:Int)/\(a.1.length:Int)<=1000000) (Cq.next (Zmg d a ((List.replicate (a.1.length:Int).toNat (λ_=>0)),0)) λe=>match e with|b=>Zmi b))
def Zmh(b:(Fin 8->Int)):(Int×(Fin 8->Bool))->Cq (((Ŀ (Fin 8->Int))×Int)⊕Unit):=
 Cq.loop λd=>match d with|(a,c)=>if a<8 then(Cq.ì (0<=a/\a<8) (if(Ε b a)<0 then(Cq.ret (.inr (.inl ([],1))))else(if 8<=(Ε b a)then(Cq.ret (.inr (.inl ([],1))))else(Cq.ì (0<=Ε b a/\(Ε b a)<8) (if(Ε c (Ε b a))=true then Cq.fail else(Cq.ì (0<=Ε b a/\(Ε b a)<8) (Cq.ret (.inl (i64.wrap (a+1),ζ c ((Ε b a).toNat) true)))))))))else(Cq.ret (.inr (.inr ())))
def JY(a:(Ŀ (Fin 8->Int)))(b:(Fin 8->Int)):Cq ((Ŀ (Fin 8->Int))×Int):=
 Cq.bind (yw a) λc=>if(!c)=true then Cq.fail else(Cq.next (Zmh b (0,(λ_=>false))) λe=>match e with|.inl d=>Cq.ret d|.inr ()=>Pk a b)
def D7(b:Zc)(a:(Fin 8->Int)):Cq (Zc×Int):=
 Cq.bind (DZ b.p a) λc=>if ¬c.2=0 then Cq.fail else(if b.kind=3 then(Cq.bind (JY b.o a) λd=>if ¬d.2=0 then Cq.fail else(Cq.ret ((Zc.mk b.kind c.1 d.1),0)))else(Cq.ret ((Zc.mk b.kind c.1 []),0)))
def Z3(a:(Ŀ Ze)):Cq (Ŀ Ze):=
 Cq.pU a (Cq.ret []) (Cq.ì (([]++a).length<=small) (Cq.ret ([]++a)))
def ZtH(b:Zd)(c:Zb×(Fin 8->Int))(d:Zc×Int)(e:(Ŀ (Ĳ×Int))):Cq (Zd×Int×Int):=
 Cq.bind (Z3 b.t) λf=>Cq.bind (vi 5 c.1 d.1 e (Zd.mk f b.next)) λa=>if ¬a.1.2=0 then Cq.fail else(Cq.ret ((Zd.mk a.2.2.t a.2.2.next),a.1.1,0))
def ED(b:Zd):(Int×(Ŀ (Ĳ×Int)))->Cq (((Ŀ (Ĳ×Int)))):=
 Cq.loop λf=>match f with|(a,c)=>if a<(b.t.length:Int)then(Cq.Θ b.t a λe=>Cq.bind (tz e.k e.q) λd=>Cq.ì ((d.size<=1000000)/\(eV c d e.id).length<=small) (Cq.ret (.inl (i64.wrap (a+1),(eV c d e.id)))))else(Cq.ret (.inr c))
def QS(a:Zd)(d:Zb)(e:Zc):Cq (Zd×Int×Int):=
 Cq.bind (Ek d) λb=>Cq.bind (D7 e b.2) λc=>if ¬c.2=0 then Cq.fail else(Cq.next (ED a (0,[])) λg=>match g with|f=>ZtH a b c f)
def xx(c:Zd)(a:Zb)(b:Zc):Cq (Zd×Int×Int):=
 Cq.bind (vh a) λd=>match d with|false=>(Cq.ret ((Zd.mk [] 0),0,1))|true=>(Cq.bind (EU a b) λe=>if(!e)=true then(Cq.ret ((Zd.mk [] 0),0,1))else(QS c a b))
def Zsy:Cq (Ze×Bool):=
 Cq.ret ((Ze.mk 0 (Zb.mk 0 [] []) (Zc.mk 0 [] []) 0 0 0 false),false)
def Ki(c:Zd)(d:Int):(Int×Ze)->Cq ((Ze×Bool)⊕Ze):=
 Cq.loop λf=>match f with|(a,b)=>if a<(c.t.length:Int)then(Cq.Θ c.t a λe=>if e.id=d then(Cq.ret (.inr (.inl (e,true))))else(Cq.ret (.inl (i64.wrap (a+1),b))))else(Cq.ret (.inr (.inr b)))
def xt(c:Zd)(a:Int):Cq (Ze×Bool):=
 Cq.next (Ki c a (0,(Ze.mk 0 (Zb.mk 0 [] []) (Zc.mk 0 [] []) 0 0 0 false))) λd=>match d with|.inl b=>Cq.ret b|.inr e=>Zsy
def fu(a:ZD)(c:(Ŀ Za)):Cq Bool:=
 Cq.bind (é a c 64) λb=>Cq.ret b
def ZaX:Cq Bool:=
 Cq.ret true
def ZaW(c:(Ŀ (Ŀ Za)))(b:ZD):Int->Cq (Bool⊕Unit):=
 Cq.loop λe=>match e with|a=>if a<(c.length:Int)then(Cq.Θ c a λf=>Cq.bind (fu b f) λd=>if(!d)=true then(Cq.ret (.inr (.inl false)))else(Cq.ret (.inl (i64.wrap (a+1)))))else(Cq.ret (.inr (.inr ())))
def OZ(c:(Ŀ (Ŀ Za)))(a:ZD):Cq Bool:=
 Cq.next (ZaW c a 0) λd=>match d with|.inl b=>Cq.ret b|.inr ()=>ZaX
def fj(a:ZD)(c:(Ŀ (Ŀ Za))):Cq Bool:=
 Cq.bind (OZ c a) λb=>Cq.ret b
def Ä(a:ZD)(b:(Ŀ (Ŀ Za))):Cq Bool:=
 if(b.length:Int)<=64 then(Cq.bind (fj a b) λc=>Cq.ret c)else(Cq.ret false)
def Ea(a:Int):Cq Bool:=
 if 0<=a then(Cq.ret (decide (a<=1000000)))else(Cq.ret false)
def I7(a:Zl):Cq Bool:=
 Cq.bind (ZZ a.lo) λb=>match b with|false=>(Cq.ret false)|true=>(Cq.bind (ZZ a.hi) λc=>match c with|false=>(Cq.ret false)|true=>(Cq.bind (vf a.lo a.hi) λd=>Cq.ret (decide (d<=0))))
def tu(a:Zf):Cq Bool:=
 Cq.bind (ZZ a) λb=>match b with|false=>(Cq.ret false)|true=>(Cq.bind (ZH a) λc=>Cq.ret (decide (c=0)))
def gF:Cq Bool:=
 Cq.ret true
def gE(b:ZD)(i:(Ŀ Zl)):Int->Cq (Bool⊕Unit):=
 Cq.loop λj=>match j with|a=>if a<8 then(Cq.Θ i a λc=>if a<b.k.n then(Cq.bind (I7 c) λd=>match d with|false=>(Cq.ret (.inr (.inl false)))|true=>(if b.k.n<=a then(Cq.bind (tu c.lo) λe=>match e with|false=>(Cq.ret (.inr (.inl false)))|true=>(Cq.bind (tu c.hi) λf=>if(!f)=true then(Cq.ret (.inr (.inl false)))else(Cq.ret (.inl (i64.wrap (a+1))))))else(Cq.ret (.inl (i64.wrap (a+1))))))else(if b.k.n<=a then(Cq.bind (tu c.lo) λg=>match g with|false=>(Cq.ret (.inr (.inl false)))|true=>(Cq.bind (tu c.hi) λh=>if(!h)=true then(Cq.ret (.inr (.inl false)))else(Cq.ret (.inl (i64.wrap (a+1))))))else(Cq.ret (.inl (i64.wrap (a+1))))))else(Cq.ret (.inr (.inr ())))
def dQ(a:ZD)(c:(Ŀ Zl)):Cq Bool:=
 Cq.next (gE a c 0) λd=>match d with|.inl b=>Cq.ret b|.inr ()=>gF
def Za3:Cq Bool:=
 Cq.ret true
def Za2(c:(Ŀ (Ŀ Zl)))(b:ZD):Int->Cq (Bool⊕Unit):=
 Cq.loop λe=>match e with|a=>if a<(c.length:Int)then(Cq.Θ c a λf=>Cq.bind (dQ b f) λd=>if(!d)=true then(Cq.ret (.inr (.inl false)))else(Cq.ret (.inl (i64.wrap (a+1)))))else(Cq.ret (.inr (.inr ())))
def O1(c:(Ŀ (Ŀ Zl)))(a:ZD):Cq Bool:=
 Cq.next (Za2 c a 0) λd=>match d with|.inl b=>Cq.ret b|.inr ()=>Za3
def Á(a:ZD)(b:(Ŀ (Ŀ Zl))):Cq Bool:=
 if(b.length:Int)<=64 then(Cq.bind (O1 b a) λc=>Cq.ret c)else(Cq.ret false)
def JP(a:Int):Cq Bool:=
 if(-1)<=a then(Cq.ret (decide (a<=1)))else(Cq.ret false)
def ZO(a:Zj):Cq Bool:=
 if a.kind=0 then(if a.n=0 then(if a.d=0 then(if a.r=0 then(if(a.p.length:Int)=0 then(if(a.o.length:Int)=0 then(if(a.l.length:Int)=0 then(if(a.s.length:Int)=0 then(Cq.ret (decide ((a.b.length:Int)=0)))else(Cq.ret false))else(Cq.ret false))else(Cq.ret false))else(Cq.ret false))else(Cq.ret false))else(Cq.ret false))else(Cq.ret false))else(Cq.ret false)
def Zd5:Cq Bool:=
 Cq.ret true
def Zd4(b:(Ŀ Int)):Int->Cq (Bool⊕Unit):=
 Cq.loop λd=>match d with|a=>if a<(b.length:Int)then(Cq.Θ b a λe=>Cq.bind (JP e) λc=>if(!c)=true then(Cq.ret (.inr (.inl false)))else(Cq.ret (.inl (i64.wrap (a+1)))))else(Cq.ret (.inr (.inr ())))
def I2(b:(Ŀ Int)):Cq Bool:=
 Cq.next (Zd4 b 0) λc=>match c with|.inl a=>Cq.ret a|.inr ()=>Zd5
def ø(a:vj)(e:Bool):Cq Bool:=
 if e=true then(Cq.bind (Ea a.c.n) λf=>if f=true then(Cq.bind (ZO (Zj.mk 0 a.c.p 0 a.c.d a.c.r a.c.o a.c.l a.c.s a.c.b)) λg=>Cq.ret g)else(Cq.ret false))else(Cq.ret false)
def ù(a:vj)(e:Bool):Cq Bool:=
 if e=true then(Cq.bind (ZO (Zj.mk 0 a.c.p a.c.n a.c.d a.c.r a.c.o a.c.l a.c.s a.c.b)) λw=>Cq.ret w)else(if a.c.kind=4 then(Cq.bind (yw a.c.o) λx=>match x with|false=>(Cq.ret false)|true=>(Cq.bind (Ä a.rules a.c.l) λy=>if y=true then(Cq.bind (ZO (Zj.mk 0 a.c.p a.c.n a.c.d a.c.r [] [] a.c.s a.c.b)) λz=>Cq.ret z)else(Cq.ret false)))else(if a.c.kind=5 then(if(-1)<=a.c.d then(if a.c.d<=a.rules.k.n then(Cq.bind (Ea a.c.n) λc=>if c=true then(Cq.bind (ZO (Zj.mk 0 a.c.p 0 0 a.c.r a.c.o a.c.l a.c.s a.c.b)) λd=>Cq.ret d)else(Cq.ret false))else(Cq.ret false))else(Cq.ret false))else(if a.c.kind=6 then(if 0<=a.c.r then(if a.c.r<=a.c.d then(if a.c.d<=a.c.n then(Cq.bind (Ea a.c.n) λf=>if f=true then(Cq.bind (ZO (Zj.mk 0 a.c.p 0 0 0 a.c.o a.c.l a.c.s a.c.b)) λg=>Cq.ret g)else(Cq.ret false))else(Cq.ret false))else(Cq.ret false))else(Cq.ret false))else(if a.c.kind=7 then(Cq.bind (Á a.rules a.c.b) λh=>if h=true then(Cq.bind (ZO (Zj.mk 0 a.c.p a.c.n a.c.d a.c.r a.c.o a.c.l a.c.s [])) λi=>Cq.ret i)else(Cq.ret false))else(if a.c.kind=8 then(Cq.bind (é a.rules a.c.p 12) λj=>match j with|false=>(Cq.ret false)|true=>(Cq.bind (Á a.rules a.c.b) λm=>match m with|false=>(Cq.ret false)|true=>(if(a.c.s.length:Int)=(a.c.b.length:Int)then(Cq.bind (I2 a.c.s) λq=>if q=true then(Cq.bind (ZO (Zj.mk 0 [] a.c.n a.c.d a.c.r a.c.o a.c.l [] [])) λt=>Cq.ret t)else(Cq.ret false))else(Cq.ret false))))else(if a.c.kind=11 then(Cq.bind (Ä a.rules a.c.l) λu=>if u=true then(Cq.bind (ZO (Zj.mk 0 a.c.p a.c.n a.c.d a.c.r a.c.o [] a.c.s a.c.b)) λv=>Cq.ret v)else(Cq.ret false))else(if a.c.kind=12 then(ø a (decide (a.c.kind=12)))else(ø a (decide (a.c.kind=13))))))))))
def í(a:vj)(e:Bool):Cq Bool:=
 if e=true then(Cq.bind (é a.rules a.c.p 12) λf=>if f=true then(Cq.bind (ZO (Zj.mk 0 [] a.c.n a.c.d a.c.r a.c.o a.c.l a.c.s a.c.b)) λg=>Cq.ret g)else(Cq.ret false))else(if a.c.kind=3 then(ù a (decide (a.c.kind=3)))else(ù a (decide (a.c.kind=9))))
def eY(a:vj):Cq Bool:=
 Cq.bind (Â a.rules) λb=>if(!b)=true then(Cq.ret false)else(if a.c.kind=1 then(í a (decide (a.c.kind=1)))else(if a.c.kind=2 then(í a (decide (a.c.kind=2)))else(í a (decide (a.c.kind=10)))))
def Ez(b:Zb)(c:Zj):Cq Bool:=
 Cq.bind (eY (vj.mk (ZD.mk b) c)) λa=>Cq.ret a
def ZkU:Cq Bool:=
 Cq.ret true
def ZkT(b:(Ŀ (Fin 8->Int)))(c:(Ŀ (Fin 8->Int))):Int->Cq (Bool⊕Unit):=
 Cq.loop λd=>match d with|a=>if a<(b.length:Int)then(Cq.Θ b a λe=>Cq.Θ c a λf=>if ¬e=f then(Cq.ret (.inr (.inl false)))else(Cq.ret (.inl (i64.wrap (a+1)))))else(Cq.ret (.inr (.inr ())))
def Eh(a:(Ŀ (Fin 8->Int)))(b:(Ŀ (Fin 8->Int))):Cq Bool:=
 if ¬(a.length:Int)=(b.length:Int)then(Cq.ret false)else(Cq.next (ZkT a b 0) λd=>match d with|.inl c=>Cq.ret c|.inr ()=>ZkU)
def Jz(c:Zb)(b:Zc)(a:Zj):Cq Bool:=
 if b.kind=1 then(if a.kind=1 then(Cq.bind (ZU a.p b.p) λd=>Cq.ret d)else(if a.kind=2 then(Cq.bind (ZU a.p b.p) λe=>Cq.ret e)else(Cq.ret false)))else(if b.kind=2 then(Cq.bind (wN 1) λf=>Cq.bind (DR f) λg=>if a.kind=3 then(Cq.ret true)else(if a.kind=2 then(if(c.δ.length:Int)=0 then(Cq.bind (ZU a.p g) λh=>Cq.ret h)else(Cq.ret false))else(Cq.ret false)))else(if b.kind=3 then(if a.kind=4 then(Cq.bind (Eh a.o b.o) λi=>Cq.ret i)else(Cq.ret false))else(if b.kind=4 then(Cq.ret (decide (a.kind=5)))else(if b.kind=5 then(Cq.ret (decide (a.kind=6)))else(if b.kind=6 then(Cq.ret (decide (a.kind=7)))else(if b.kind=7 then(if a.kind=8 then(Cq.bind (ZU a.p b.p) λj=>Cq.ret j)else(Cq.ret false))else(if b.kind=8 then(if a.kind=9 then(Cq.ret true)else(if a.kind=6 then(Cq.ret true)else(if a.kind=13 then(Cq.ret (decide (1<=a.n)))else(Cq.ret false))))else(if b.kind=9 then(if a.kind=10 then(Cq.bind (ZU a.p b.p) λk=>Cq.ret k)else(Cq.ret false))else(if b.kind=10 then(Cq.ret (decide (a.kind=11)))else(Cq.ret false))))))))))
def DT(a:Zj)(c:Bool):Cq (Int×Int):=
 if c=true then(Cq.ret ((a.b.length:Int),(a.b.length:Int)))else(if a.kind=9 then(Cq.ret (0,0))else(if a.kind=13 then(Cq.ret (a.n,(-1)))else(if a.kind=12 then(Cq.ret (0,a.n))else(Cq.ret (0,(-1))))))
def DU(a:Zj)(b:Bool):Cq (Int×Int):=
 if b=true then(if a.kind=6 then(Cq.ret (a.r,a.r))else(if a.kind=7 then(DT a (decide (a.kind=7)))else(DT a (decide (a.kind=8)))))else(Cq.ret (0,(-1)))
def JO(b:Zc)(a:Zj):Cq (Int×Int):=
 if b.kind=5 then(if a.kind=6 then(Cq.ret (a.n,a.n))else(if a.kind=12 then(Cq.ret (0,a.n))else(Cq.ret (0,(-1)))))else(if b.kind=8 then(DU a (decide (b.kind=8)))else(DU a (decide (b.kind=6))))
def D2(c:Zj)(a:Ze):Cq Ze:=
 Cq.bind (JO a.q c) λb=>if 0<=b.2 then(if a.high<0 then(Cq.ret (Ze.mk a.id a.k a.q a.υ (if a.low<b.1 then b.1 else a.low) b.2 a.done))else(if b.2<a.high then(Cq.ret (Ze.mk a.id a.k a.q a.υ (if a.low<b.1 then b.1 else a.low) b.2 a.done))else(Cq.ret (Ze.mk a.id a.k a.q a.υ (if a.low<b.1 then b.1 else a.low) a.high a.done))))else(Cq.ret (Ze.mk a.id a.k a.q a.υ (if a.low<b.1 then b.1 else a.low) a.high a.done))
def KP(a:Ze)(b:Zj):Cq Ze:=
 Cq.bind (Jz a.k a.q b) λc=>if c=true then(D2 b (Ze.mk a.id a.k a.q a.υ a.low a.high true))else(D2 b a)
def ZpZ(b:(Ŀ Ze))(a:Int):Cq (Zd×Int):=
 Cq.ret ((Zd.mk b a),0)
def yv(f:Int)(e:Int)(c:(Ŀ Ze))(a:Int)(d:Int)(b:Ze):Cq (((Ŀ Ze)×Int×Int)⊕(((Ŀ Ze)×Int))):=
 if b.id=f then(Cq.Θ c a λg=>Cq.ret (.inl ((c.set a.toNat (Ze.mk b.id b.k b.q (if b.υ<(i64.wrap (e+1))then(i64.wrap (e+1))else b.υ) b.low b.high b.done)),i64.wrap (a+1),d)))else(Cq.Θ c a λh=>Cq.ret (.inl ((c.set a.toNat b),i64.wrap (a+1),d)))
def Zp0(d:Int)(e:Int)(b:(Ŀ Ze))(c:Int)(a:Int)(f:Ze):Cq (((Ŀ Ze)×Int×Int)⊕(((Ŀ Ze)×Int))):=
 yv d e b c a f
def Qa(b:(Ŀ Zj)):(Int×Ze)->Cq Ze:=
 Cq.loop λe=>match e with|(a,c)=>if a<(b.length:Int)then(Cq.Θ b a λf=>Cq.bind (KP c f) λd=>Cq.ret (.inl (i64.wrap (a+1),d)))else(Cq.ret (.inr c))
def ZpX(d:Int)(f:(Ŀ Zj))(e:Int)(h:Ĳ)(i:(Ŀ Ze)):((Ŀ Ze)×Int×Int)->Cq (((Ŀ Ze)×Int)):=
 Cq.loop λm=>match m with|(b,c,a)=>if c<(i.length:Int)then(Cq.Θ b c λg=>Cq.bind (vr g.k) λj=>if j=h then(Cq.next (Qa f (0,g)) λn=>match n with|l=>Zp0 d e b c a l)else(yv d e b c a g))else(Cq.ret (.inr (b,a)))
def Zp1(b:Zd)(d:Int)(e:(Ŀ Zj))(f:Int)(h:Ze×Bool):Cq (Zd×Int):=
 Cq.bind (vr h.1.k) λi=>Cq.bind (Z3 b.t) λc=>Cq.next (ZpX d e f i c (c,0,b.next)) λj=>match j with|(g,a)=>ZpZ g a
def ZpY(b:(Ŀ Zj))(d:Ze×Bool):(Int×Zd)->Cq ((Zd×Int)⊕Zd):=
 Cq.loop λf=>match f with|(a,c)=>if a<(b.length:Int)then(Cq.Θ b a λg=>Cq.bind (Ez d.1.k g) λe=>if(!e)=true then(Cq.ret (.inr (.inl ((Zd.mk [] 0),1))))else(Cq.ret (.inl (i64.wrap (a+1),c))))else(Cq.ret (.inr (.inr c)))
def Qb(c:Zd)(d:Int)(a:(Ŀ Zj))(e:Int)(b:Ze×Bool)(f:Zd):Cq (Zd×Int):=
 Cq.next (ZpY a b (0,f)) λh=>match h with|.inl g=>Cq.ret g|.inr i=>Zp1 c d a e b
def wY(b:Zd)(c:Int)(e:(Ŀ Zj))(a:Int):Cq (Zd×Int):=
 Cq.bind (xt b c) λd=>if(!d.2)=true then(Cq.ret ((Zd.mk [] 0),380))else(if a<0 then(Cq.ret ((Zd.mk [] 0),1))else(if 12<a then(Cq.ret ((Zd.mk [] 0),1))else(Qb b c e a d (Zd.mk [] 0))))
def JM(a:Ze)(b:Ze):Cq Bool:=
 if a.id=b.id then(if a.υ=b.υ then(if a.low=b.low then(if a.high=b.high then(if a.done=b.done then(Cq.bind (Au a.k b.k) λc=>match c with|false=>(Cq.ret false)|true=>(Cq.bind (DW a.q b.q) λd=>Cq.ret d))else(Cq.ret false))else(Cq.ret false))else(Cq.ret false))else(Cq.ret false))else(Cq.ret false)
def Ztm:Cq Bool:=
 Cq.ret true
def Ztl(b:Zd)(d:Zd):Int->Cq (Bool⊕Unit):=
 Cq.loop λe=>match e with|a=>if a<(b.t.length:Int)then(Cq.Θ b.t a λf=>Cq.Θ d.t a λg=>Cq.bind (JM f g) λc=>if(!c)=true then Cq.fail else(Cq.ret (.inl (i64.wrap (a+1)))))else(Cq.ret (.inr (.inr ())))
def FN(a:Zd)(b:Zd):Cq Bool:=
 if ¬a.next=b.next then(Cq.ret false)else(if ¬(a.t.length:Int)=(b.t.length:Int)then Cq.fail else(Cq.next (Ztl a b 0) λd=>match d with|.inl c=>Cq.ret c|.inr ()=>Ztm))
def Py(a:Ze):Cq Bool:=
 Cq.bind (Ek a.k) λb=>Cq.bind (vr b.1) λd=>Cq.bind (vr a.k) λe=>if ¬d=e then(Cq.ret false)else(Cq.bind (D7 a.q b.2) λc=>if c.2=0 then(Cq.bind (AQ c.1) λf=>Cq.bind (AQ a.q) λg=>Cq.ret (decide (f=g)))else(Cq.ret false))
def JJ(a:Ze):Cq Bool:=
 Cq.bind (vh a.k) λb=>match b with|false=>(Cq.ret false)|true=>(Cq.bind (EU a.k a.q) λc=>if(!c)=true then(Cq.ret false)else(Py a))
def Kz(a:Ze):Cq Bool:=
 if a.υ<0 then(Cq.ret false)else(if 13<a.υ then(Cq.ret false)else(if a.low<0 then(Cq.ret false)else(if a.high<(-1)then(Cq.ret false)else(JJ a))))
def Zp7:Cq Bool:=
 Cq.ret true
def Zp8(b:Int)(c:(Ŀ (Ĳ×Bool)))(d:Ze):Cq ((Int×Int×(Ŀ (Ĳ×Bool)))⊕(Bool⊕Unit)):=
 Cq.bind (tz d.k d.q) λa=>Cq.ì ((a.size<=1000000)/\(eV c a true).length<=small) (Cq.ret (.inl (d.id,i64.wrap (b+1),(eV c a true))))
def J3(d:(Ŀ (Ĳ×Bool)))(e:Ze)(b:(Ŀ Zc)):Int->Cq (Bool⊕Unit):=
 Cq.loop λf=>match f with|a=>if a<(b.length:Int)then(Cq.Θ b a λg=>Cq.bind (tz e.k g) λc=>Cq.ì (c.size<=1000000) (if(!((fg d c).getD false))=true then(Cq.ret (.inr (.inl false)))else(Cq.ret (.inl (i64.wrap (a+1))))))else(Cq.ret (.inr (.inr ())))
def PK(a:Int)(b:(Ŀ (Ĳ×Bool)))(c:Ze):Cq ((Int×Int×(Ŀ (Ĳ×Bool)))⊕(Bool⊕Unit)):=
 Cq.bind (wQ c.q) λd=>Cq.next (J3 b c d 0) λf=>match f with|.inl e=>Cq.ret (.inr (.inl e))|.inr ()=>Zp8 a b c
def J2(b:Zd):(Int×Int×(Ŀ (Ĳ×Bool)))->Cq (Bool⊕Unit):=
 Cq.loop λh=>match h with|(f,a,d)=>if a<(b.t.length:Int)then(Cq.Θ b.t a λc=>if c.id<=f then(Cq.ret (.inr (.inl false)))else(if b.next<=c.id then(Cq.ret (.inr (.inl false)))else(Cq.bind (Kz c) λg=>match g with|false=>(Cq.ret (.inr (.inl false)))|true=>(Cq.bind (tz c.k c.q) λe=>Cq.ì (e.size<=1000000) (if((fg d e).getD false)=true then(Cq.ret (.inr (.inl false)))else(PK a d c))))))else(Cq.ret (.inr (.inr ())))
def PL(a:Zd):Cq Bool:=
 Cq.next (J2 a (0,0,[])) λc=>match c with|.inl b=>Cq.ret b|.inr ()=>Zp7
def ET(a:Zd):Cq Bool:=
 if a.next<1 then(Cq.ret false)else(if 1000000<a.next then(Cq.ret false)else(if 100<(a.t.length:Int)then(Cq.ret false)else(PL a)))
def J0(d:Zc)(b:(Ŀ (Ĳ×Bool)))(c:Ze):Cq Bool:=
 Cq.bind (tz c.k d) λa=>Cq.ì (a.size<=1000000) (Cq.ret (!((fg b a).getD false)))
def ZR(a:(Ŀ Ze)):Cq (Ŀ Ze):=
 Cq.bind (tR (u64.wrap (a.length:Int))) λb=>Cq.bind (O2 a 0 (a.length:Int) b) λc=>Cq.ret c
def Zaw:Cq Int:=
 Cq.ret (-1)
def Zav(d:(Ŀ Zc))(b:(Ŀ (Ĳ×Bool)))(c:Ze):Int->Cq (Int⊕Unit):=
 Cq.loop λf=>match f with|a=>if a<(d.length:Int)then(Cq.Θ d a λg=>Cq.bind (J0 g b c) λe=>if e=true then(Cq.ret (.inr (.inl a)))else(Cq.ret (.inl (i64.wrap (a+1)))))else(Cq.ret (.inr (.inr ())))
def ZW(d:(Ŀ Zc))(a:(Ŀ (Ĳ×Bool)))(b:Ze):Cq Int:=
 Cq.next (Zav d a b 0) λe=>match e with|.inl c=>Cq.ret c|.inr ()=>Zaw
def ZG(d:(Ŀ Zc))(a:(Ŀ (Ĳ×Bool)))(b:Ze):Cq Bool:=
 Cq.bind (ZW d a b) λc=>Cq.ret (decide (0<=c))
def Zp4(a:(Ŀ Int)):Cq (Ŀ Int):=
 Cq.ret a
def Zp2(c:(Ŀ Ze)):((Ŀ Int)×Int)->Cq (Ŀ Int):=
 Cq.loop λe=>match e with|(a,b)=>if b<(c.length:Int)then(Cq.Θ c b λd=>Cq.ì ((a++[d.id]).length<=small) (Cq.ret (.inl ((a++[d.id]),i64.wrap (b+1)))))else(Cq.ret (.inr a))
def Zp5(b:(Ŀ Ze)):Cq (Ŀ Int):=
 Cq.bind (ZR b) λc=>Cq.next (Zp2 c ([],0)) λd=>match d with|a=>Zp4 a
def Zp3(d:Zd)(e:(Ŀ (Ĳ×Bool))):((Ŀ Ze)×Int)->Cq (Ŀ Ze):=
 Cq.loop λh=>match h with|(b,a)=>if a<(d.t.length:Int)then(Cq.Θ d.t a λc=>if c.done=true then(Cq.ret (.inl (b,i64.wrap (a+1))))else(if c.υ<=12 then(Cq.bind (wQ c.q) λf=>Cq.bind (ZG f e c) λg=>if(!g)=true then(Cq.ì ((b++[c]).length<=small) (Cq.ret (.inl ((b++[c]),i64.wrap (a+1)))))else(Cq.ret (.inl (b,i64.wrap (a+1)))))else(Cq.ret (.inl (b,i64.wrap (a+1))))))else(Cq.ret (.inr b))
def Zp6(a:Zd)(c:(Ŀ (Ĳ×Bool))):Cq (Ŀ Int):=
 Cq.next (Zp3 a c ([],0)) λd=>match d with|b=>Zp5 b
def Ee(c:Zd):(Int×(Ŀ (Ĳ×Bool)))->Cq (((Ŀ (Ĳ×Bool)))):=
 Cq.loop λf=>match f with|(a,b)=>if a<(c.t.length:Int)then(Cq.Θ c.t a λe=>if e.done=true then(Cq.bind (tz e.k e.q) λd=>Cq.ì ((d.size<=1000000)/\(eV b d true).length<=small) (Cq.ret (.inl (i64.wrap (a+1),(eV b d true)))))else(Cq.ret (.inl (i64.wrap (a+1),b))))else(Cq.ret (.inr b))
def ES(a:Zd):Cq (Ŀ Int):=
 Cq.next (Ee a (0,[])) λc=>match c with|b=>Zp6 a b
def Jc(i:(Ŀ Za)×Int)(j:Zd×Int×Int):Cq Bool:=
 Cq.bind (AX 5) λd=>Cq.bind (xx j.1 (Zb.mk 1 [i.1] []) d) λa=>if ¬a.2.2=0 then(Cq.ret false)else(Cq.bind (wY a.1 a.2.1 [(Zj.mk 12 [] 5 0 0 [] [] [] []),(Zj.mk 12 [] 7 0 0 [] [] [] [])] 0) λc=>Cq.bind (xt c.1 a.2.1) λb=>if c.2=0 then(if b.2=true then(if b.1.high=5 then(if b.1.low=0 then(if b.1.done=true then(Cq.ret false)else(Cq.bind (FZ) λe=>Cq.bind (ET e) λf=>match f with|false=>(Cq.ret false)|true=>(Cq.bind (FZ) λg=>Cq.bind (ES g) λh=>Cq.ret (decide ((h.length:Int)=0)))))else(Cq.ret false))else(Cq.ret false))else(Cq.ret false))else(Cq.ret false))
def JH:Cq Bool:=
 Cq.bind (Mf 0) λc=>Cq.bind (FZ) λk=>Cq.bind (AX 4) λl=>Cq.bind (xx k (Zb.mk 1 [c.1] []) l) λa=>Cq.bind (AX 4) λm=>Cq.bind (xx a.1 (Zb.mk 1 [c.1] []) m) λd=>Cq.bind (wY a.1 a.2.1 [(Zj.mk 5 [] 1 0 0 [] [] [] [])] 3) λe=>Cq.bind (AX 11) λf=>Cq.bind (xx a.1 (Zb.mk 1 [c.1] []) f) λg=>Cq.bind (wY a.1 a.1.next [] 3) λh=>Cq.bind (wY a.1 a.2.1 [] 13) λi=>Cq.bind (xt e.1 a.2.1) λb=>if ¬a.2.2=0 then(Cq.ret false)else(if ¬d.2.2=0 then(Cq.ret false)else(if ¬e.2=0 then(Cq.ret false)else(if ¬g.2.2=1 then(Cq.ret false)else(if ¬h.2=380 then(Cq.ret false)else(if ¬i.2=1 then(Cq.ret false)else(if ¬a.2.1=d.2.1 then(Cq.ret false)else(Cq.bind (FN a.1 d.1) λj=>match j with|false=>(Cq.ret false)|true=>(if b.2=true then(if b.1.done=true then(if ¬b.1.υ=4 then(Cq.ret false)else(if ¬b.1.high=(-1)then(Cq.ret false)else(Jc c a)))else(Cq.ret false))else(Cq.ret false)))))))))
def Uo:Cq Zd:=
 Cq.ret (Zd.mk [] 1)
def F4(a:Int):Cq Int:=
 if a<0 then(Cq.ret (i64.wrap (0-(i64.wrap a))))else(Cq.ret (i64.wrap a))
def K6(b:Zf)(c:(Ŀ Za)):Cq (Ŀ Za):=
 Cq.bind (Ft b (λ_=>0) c) λa=>Cq.ret a.1
def Zs1(a:(Ŀ Za)):Cq (Ŀ Za):=
 Cq.ret a
def Zs2(b:Zu)(c:(Ŀ Za))(a:Int)(d:(Fin 8->Int)):Cq (((Ŀ Za)×Int)⊕(Ŀ Za)):=
 Cq.Θ b.t a λi=>Cq.bind (ZX (i64.wrap (Int.tmod (Ε i 0) 4))) λe=>Cq.bind (ZX 1) λf=>Cq.bind (K6 e [(Za.mk f d)]) λg=>Cq.bind (Bg c g) λh=>Cq.ret (.inl (h,i64.wrap (a+1)))
def QD(f:Zu)(g:Int)(d:Int):(Int×Int×(Fin 8->Int))->Cq (Fin 8->Int):=
 Cq.loop λh=>match h with|(b,a,c)=>if a<g then(if a<4 then(Cq.Θ f.t d λi=>Cq.ì (0<=i64.wrap (1+a)/\(i64.wrap (1+a))<5) (Cq.bind (F4 (Ε i (i64.wrap (1+a)))) λe=>Cq.ì ((i64.wrap (b+1))≠0) (Cq.ì (0<=a/\a<8) (Cq.ì (0<=a/\a<8) (Cq.ret (.inl (i64.wrap (b-(Ε (ζ c a.toNat (Int.tmod e (i64.wrap (b+1)))) a)),i64.wrap (a+1),ζ c a.toNat (Int.tmod e (i64.wrap (b+1))))))))))else(Cq.ret (.inr c)))else(Cq.ret (.inr c))
def QW(b:Zu)(c:Int)(d:Int)(e:(Ŀ Za))(a:Int):Cq (((Ŀ Za)×Int)⊕(Ŀ Za)):=
 Cq.next (QD b c a (d,0,(λ_=>0))) λg=>match g with|f=>Zs2 b e a f
def Zs0(c:Zu)(d:Int)(e:Int)(f:Int):((Ŀ Za)×Int)->Cq (Ŀ Za):=
 Cq.loop λg=>match g with|(b,a)=>if a<(c.t.length:Int)then(if a<f then(QW c d e b a)else(Cq.ret (.inr b)))else(Cq.ret (.inr b))
def A5(a:Zu)(b:Int)(c:Int)(d:Int):Cq (Ŀ Za):=
 Cq.next (Zs0 a b c d ([],0)) λf=>match f with|e=>Zs1 e
def J7(a:(Ŀ Ĳ))(d:(Ŀ Zo))(b:(Ŀ Zo))(c:Int):Cq Zx:=
 Cq.ret (Zx.mk a d b c)
def EG(h:ZA)(f:Int)(e:(Ŀ Ĳ))(d:(Ŀ Zo))(b:(Ŀ Zo))(a:Int)(c:Int):Cq ((Int×(Ŀ Ĳ)×(Ŀ Zo)×(Ŀ Zo)×Int)⊕(((Ŀ Ĳ)×(Ŀ Zo)×(Ŀ Zo)×Int))):=
 Cq.Θ h.l f λi=>Cq.bind (A5 i (i64.wrap (Int.tmod h.n 4)) 2 3) λg=>if(Int.tmod f 3)=2 then(Cq.ì ((b++[(Zo.mk (i64.wrap (a+c)) g)]).length<=small) (Cq.ret (.inl (i64.wrap (f+1),e,d,(b++[(Zo.mk (i64.wrap (a+c)) g)]),i64.wrap ((i64.wrap (a+c))+1)))))else(Cq.ì ((d++[(Zo.mk (i64.wrap (a+c)) g)]).length<=small) (Cq.ret (.inl (i64.wrap (f+1),e,(d++[(Zo.mk (i64.wrap (a+c)) g)]),b,i64.wrap ((i64.wrap (a+c))+1)))))
def EH(a:ZA)(f:Int)(b:(Ŀ Ĳ))(e:(Ŀ Zo))(c:(Ŀ Zo))(d:Int):Cq ((Int×(Ŀ Ĳ)×(Ŀ Zo)×(Ŀ Zo)×Int)⊕(((Ŀ Ĳ)×(Ŀ Zo)×(Ŀ Zo)×Int))):=
 if 0<(a.iQ.length:Int)then(Cq.ì ((a.iQ.length:Int)≠0) (Cq.Θ a.iQ (Int.tmod f (a.iQ.length:Int)) λg=>EG a f b e c d (i64.wrap (Int.tmod g 4))))else(EG a f b e c d 0)
def Zte(f:ZA):(Int×(Ŀ Ĳ)×(Ŀ Zo)×(Ŀ Zo)×Int)->Cq (((Ŀ Ĳ)×(Ŀ Zo)×(Ŀ Zo)×Int)):=
 Cq.loop λg=>match g with|(e,a,d,b,c)=>if e<(f.l.length:Int)then(if e<6 then(EH f e a d b c)else(Cq.ret (.inr (a,d,b,c))))else(Cq.ret (.inr (a,d,b,c)))
def FL(a:ZA):Cq Zx:=
 Cq.ì (0<=(0:Int)/\(0:Int)<=(i64.wrap (Int.tmod a.n 4))/\(i64.wrap (Int.tmod a.n 4))<=([Ay,Ax,Aw].length:Int)) (Cq.next (Zte a (0,(([Ay,Ax,Aw].take (i64.wrap (Int.tmod a.n 4)).toNat).drop (0:Int).toNat),[],[],1)) λf=>match f with|(b,e,c,d)=>J7 b e c d)
def Zti:Cq Bool:=
 Cq.ret true
def Zth(b:(Ŀ Zo))(d:Int)(c:Int):Int->Cq (Bool⊕Unit):=
 Cq.loop λg=>match g with|a=>if a<(b.length:Int)then(Cq.Θ b a λh=>if h.id<1 then(Cq.ret (.inr (.inl false)))else(Cq.Θ b a λi=>if c<=i.id then(Cq.ret (.inr (.inl false)))else(if 0<a then(Cq.Θ b (i64.wrap (a-1)) λj=>Cq.Θ b a λk=>if k.id<=j.id then(Cq.ret (.inr (.inl false)))else(Cq.Θ b a λl=>Cq.bind (yF l.p d) λe=>if(!e)=true then(Cq.ret (.inr (.inl false)))else(Cq.ret (.inl (i64.wrap (a+1))))))else(Cq.Θ b a λm=>Cq.bind (yF m.p d) λf=>if(!f)=true then(Cq.ret (.inr (.inl false)))else(Cq.ret (.inl (i64.wrap (a+1))))))))else(Cq.ret (.inr (.inr ())))
def A7(b:(Ŀ Zo))(d:Int)(a:Int):Cq Bool:=
 if 12<(b.length:Int)then(Cq.ret false)else(Cq.next (Zth b d a 0) λe=>match e with|.inl c=>Cq.ret c|.inr ()=>Zti)
def AD(a:Int):Cq Bool:=
 if 65<=a then(if a<=90 then(Cq.ret true)else(if 97<=a then(Cq.ret (decide (a<=122)))else(Cq.ret false)))else(if 97<=a then(Cq.ret (decide (a<=122)))else(Cq.ret false))
def Ztg:Cq Bool:=
 Cq.ret true
def Ztf(b:Ĳ):Int->Cq (Bool⊕Unit):=
 Cq.loop λd=>match d with|a=>if a<(b.size:Int)then(Cq.ì (0<=(a:Int)/\a<(b.size:Int)) (Cq.bind (AD (eQ b a)) λc=>match c with|false=>(Cq.ì (0<=(a:Int)/\a<(b.size:Int)) (if 48<=(eQ b a)then(Cq.ì (0<=(a:Int)/\a<(b.size:Int)) (if(eQ b a)<=57 then(Cq.ret (.inl (i64.wrap (a+1))))else(Cq.ì (0<=(a:Int)/\a<(b.size:Int)) (if ¬(eQ b a)=95 then(Cq.ret (.inr (.inl false)))else(Cq.ret (.inl (i64.wrap (a+1))))))))else(Cq.ì (0<=(a:Int)/\a<(b.size:Int)) (if ¬(eQ b a)=95 then(Cq.ret (.inr (.inl false)))else(Cq.ret (.inl (i64.wrap (a+1))))))))|true=>(Cq.ret (.inl (i64.wrap (a+1))))))else(Cq.ret (.inr (.inr ())))
def QY(b:Ĳ):Cq Bool:=
 Cq.next (Ztf b 1) λc=>match c with|.inl a=>Cq.ret a|.inr ()=>Ztg
def FM(a:Ĳ):Cq Bool:=
 if(a.size:Int)<1 then(Cq.ret false)else(if 12<(a.size:Int)then(Cq.ret false)else(Cq.ì (0<=(0:Int)/\0<(a.size:Int)) (Cq.bind (AD (eQ a 0)) λb=>if(!b)=true then(Cq.ret false)else(QY a))))
def Zq0:Cq Bool:=
 Cq.ret true
def Zq1(a:Int):Cq (Int⊕(Bool⊕Unit)):=
 Cq.ret (.inl (i64.wrap (a+1)))
def ZqX(a:Zx)(c:Int):Int->Cq (Bool⊕Unit):=
 Cq.loop λd=>match d with|b=>if b<(a.δ.length:Int)then(Cq.Θ a.eqs c λe=>Cq.Θ a.δ b λf=>if e.id=f.id then(Cq.ret (.inr (.inl false)))else(Cq.ret (.inl (i64.wrap (b+1)))))else(Cq.ret (.inr (.inr ())))
def ZqW(b:Zx):Int->Cq (Bool⊕Unit):=
 Cq.loop λd=>match d with|a=>if a<(b.eqs.length:Int)then(Cq.next (ZqX b a 0) λe=>match e with|.inl c=>Cq.ret (.inr (.inl c))|.inr ()=>Zq1 a)else(Cq.ret (.inr (.inr ())))
def Qp(a:Zx):Cq Bool:=
 Cq.next (ZqW a 0) λc=>match c with|.inl b=>Cq.ret b|.inr ()=>Zq0
def Qq(b:Zx)(a:Int):Cq (Int⊕(Bool⊕Unit)):=
 Cq.Θ b.vars a λd=>Cq.bind (FM d) λc=>if(!c)=true then(Cq.ret (.inr (.inl false)))else(Cq.ret (.inl (i64.wrap (a+1))))
def ZqZ(b:Zx)(c:Int):Int->Cq (Bool⊕Unit):=
 Cq.loop λd=>match d with|a=>if a<c then(Cq.Θ b.vars c λe=>Cq.Θ b.vars a λf=>if e=f then(Cq.ret (.inr (.inl false)))else(Cq.ret (.inl (i64.wrap (a+1)))))else(Cq.ret (.inr (.inr ())))
def ZqY(a:Zx):Int->Cq (Bool⊕Unit):=
 Cq.loop λd=>match d with|b=>if b<(a.vars.length:Int)then(Cq.next (ZqZ a b 0) λe=>match e with|.inl c=>Cq.ret (.inr (.inl c))|.inr ()=>Qq a b)else(Cq.ret (.inr (.inr ())))
def Qr(a:Zx):Cq Bool:=
 Cq.next (ZqY a 0) λc=>match c with|.inl b=>Cq.ret b|.inr ()=>Qp a
def E9(a:Zx):Cq Bool:=
 if 4<(a.vars.length:Int)then(Cq.ret false)else(if a.next<1 then(Cq.ret false)else(if 1000000<a.next then(Cq.ret false)else(Cq.bind (A7 a.eqs (a.vars.length:Int) a.next) λb=>match b with|false=>(Cq.ret false)|true=>(Cq.bind (A7 a.δ (a.vars.length:Int) a.next) λc=>if(!c)=true then(Cq.ret false)else(Qr a)))))
def ZqV(a:(Ŀ (Ŀ Za))):Cq ((Ŀ (Ŀ Za))):=
 Cq.ret a
def ZqU(c:(Ŀ Zo)):((Ŀ (Ŀ Za))×Int)->Cq (((Ŀ (Ŀ Za)))):=
 Cq.loop λe=>match e with|(a,b)=>if b<(c.length:Int)then(Cq.Θ c b λd=>Cq.ì ((a++[d.p]).length<=small) (Cq.ret (.inl ((a++[d.p]),i64.wrap (b+1)))))else(Cq.ret (.inr a))
def Fz(b:(Ŀ Zo)):Cq ((Ŀ (Ŀ Za))):=
 Cq.next (ZqU b ([],0)) λc=>match c with|a=>ZqV a
def Lx(a:Zx):Cq (Zb×Int):=
 Cq.bind (E9 a) λc=>if(!c)=true then(Cq.ret ((Zb.mk 0 [] []),320))else(Cq.bind (Fz a.eqs) λd=>Cq.bind (Fz a.δ) λe=>Cq.bind (E3 (if 1<(a.vars.length:Int)then(a.vars.length:Int)else 1) d e) λb=>Cq.ret (b.1,b.2))
def A9(d:Zt):Cq Zb:=
 Cq.bind (FL d.c) λa=>Cq.bind (Lx a) λb=>Cq.ret b.1
def Un:Cq ((Ŀ (Fin 8->Int))):=
 Cq.ret []
def EX:Cq ((Ŀ (Fin 8->Int))):=
 Cq.ret [ζ (ζ (ζ (ζ (ζ (ζ (ζ (ζ (λ_=>0) 0 1) 1 1) 2 1) 3 1) 4 1) 5 1) 6 1) 7 1]
def ZnR(a:(Ŀ (Fin 8->Int))):Cq ((Ŀ (Fin 8->Int))):=
 Cq.ret a
def ZnQ:((Ŀ (Fin 8->Int))×Int)->Cq (((Ŀ (Fin 8->Int)))):=
 Cq.loop λd=>match d with|(b,c)=>if 0<c then(Cq.bind (FI c (-1)) λa=>Cq.ì ((b++[a]).length<=small) (Cq.ret (.inl ((b++[a]),i64.wrap (c-1)))))else(Cq.ret (.inr b))
def EE:Cq ((Ŀ (Fin 8->Int))):=
 Cq.bind (EX) λa=>Cq.next (ZnQ (a,7)) λb=>match b with|c=>ZnR c
def Vb(a:Int)(b:Int):Cq Bool:=
 Cq.ì (0<=(u64.wrap b)) (Cq.ret (decide ((u8.wrap (BitVec.ofInt u8.bits (Int.fdiv a (2 ^ (min (u64.wrap b).toNat u8.bits))) &&& BitVec.ofInt u8.bits 1).toNat)=1)))
def Zji(a:(Fin 8->Int)):Cq ((Ŀ (Fin 8->Int))):=
 Cq.bind (EE) λb=>Cq.ì (([a]++b).length<=small) (Cq.ret ([a]++b))
def Zjh(c:Int):(Int×(Fin 8->Int))->Cq (Fin 8->Int):=
 Cq.loop λe=>match e with|(a,b)=>if a<8 then(Cq.bind (Vb c a) λd=>if d=true then(Cq.ì (0<=a/\a<8) (Cq.ret (.inl (i64.wrap (a+1),ζ b a.toNat 1))))else(Cq.ret (.inl (i64.wrap (a+1),b))))else(Cq.ret (.inr b))
def Js(a:Int):Cq ((Ŀ (Fin 8->Int))):=
 Cq.next (Zjh a (0,(λ_=>0))) λc=>match c with|b=>Zji b
def EF(b:Int)(a:Bool):Cq ((Ŀ (Fin 8->Int))):=
 if a=true then(Cq.bind (EE) λc=>Cq.ret c)else(if(Int.tmod b 8)=4 then(Cq.ret [ζ (ζ (ζ (ζ (ζ (ζ (ζ (ζ (λ_=>0) 0 2) 1 3) 2 1) 3 1) 4 1) 5 1) 6 1) 7 1])else(if(Int.tmod b 8)=5 then(Cq.ret [ζ (ζ (ζ (ζ (ζ (ζ (ζ (ζ (λ_=>0) 0 1) 1 1) 2 0) 3 0) 4 0) 5 0) 6 0) 7 0,ζ (ζ (ζ (ζ (ζ (ζ (ζ (ζ (λ_=>0) 0 1) 1 0) 2 2) 3 1) 4 1) 5 1) 6 1) 7 1])else(Cq.bind (Js (Int.tmod (u8.wrap (Int.tdiv b 8)) 16)) λd=>Cq.ret d)))
def xj(a:Int):Cq ((Ŀ (Fin 8->Int))):=
 if(Int.tmod a 8)=0 then(Cq.bind (Un) λb=>Cq.ret b)else(if(Int.tmod a 8)=1 then(Cq.bind (EX) λc=>Cq.ret c)else(if(Int.tmod a 8)=2 then(EF a (decide ((Int.tmod a 8)=2)))else(EF a (decide ((Int.tmod a 8)=3)))))
def EI(c:Zt)(a:Zc):Cq Zc:=
 if a.kind=3 then(Cq.bind (xj c.o) λb=>Cq.ret (Zc.mk a.kind a.p b))else(Cq.ret a)
def A8(a:Zt)(b:Zb):Cq Zc:=
 Cq.bind (Eg (i64.wrap (Int.tmod a.kind 12))) λc=>if c=true then(Cq.bind (A5 a.p (if 3<b.n then 3 else b.n) 2 3) λd=>EI a (Zc.mk (i64.wrap (Int.tmod a.kind 12)) d []))else(EI a (Zc.mk (i64.wrap (Int.tmod a.kind 12)) [] []))
def QC(a:(Ŀ (Ŀ Za))):Cq ((Ŀ (Ŀ Za))):=
 Cq.ret a
def ZsZ(g:(Ŀ Zu))(h:Int)(f:Int)(b:Int)(c:Int):((Ŀ (Ŀ Za))×Int)->Cq (((Ŀ (Ŀ Za)))):=
 Cq.loop λi=>match i with|(a,d)=>if d<(g.length:Int)then(if d<c then(Cq.Θ g d λj=>Cq.bind (A5 j h f b) λe=>Cq.ì ((a++[e]).length<=small) (Cq.ret (.inl ((a++[e]),i64.wrap (d+1)))))else(Cq.ret (.inr a)))else(Cq.ret (.inr a))
def Lw(e:(Ŀ Zu))(f:Int)(c:Int)(a:Int)(b:Int):Cq ((Ŀ (Ŀ Za))):=
 Cq.next (ZsZ e f c a b ([],0)) λg=>match g with|d=>QC d
def Ztd(a:(Ŀ (Ŀ Za))):Cq ((Ŀ (Ŀ Za))):=
 Cq.ret a
def Ztc(b:(Ŀ (Ŀ Za)))(e:Int)(f:Int):((Ŀ (Ŀ Za))×Int)->Cq (((Ŀ (Ŀ Za)))):=
 Cq.loop λg=>match g with|(a,c)=>if c<f then(if(b.length:Int)=0 then(Cq.ì ((a++[[]]).length<=small) (Cq.ret (.inl ((a++[[]]),i64.wrap (c+1)))))else(Cq.ì ((b.length:Int)≠0) (Cq.Θ b (Int.tmod (i64.wrap (e+c)) (b.length:Int)) λd=>Cq.ì ((a++[d]).length<=small) (Cq.ret (.inl ((a++[d]),i64.wrap (c+1)))))))else(Cq.ret (.inr a))
def xl(b:(Ŀ (Ŀ Za)))(c:Int)(d:Int):Cq ((Ŀ (Ŀ Za))):=
 Cq.next (Ztc b c d ([],0)) λe=>match e with|a=>Ztd a
def tU(a:(Ŀ Int))(b:Int):Cq Int:=
 if(a.length:Int)=0 then(Cq.ret 0)else(Cq.ì ((a.length:Int)≠0) (Cq.Θ a (Int.tmod b (a.length:Int)) λc=>Cq.ret (i64.wrap c)))
def ZsK(d:vg)(a:Zg)(b:Zg):Cq Zf:=
 if(Int.tmod d.k 8)=6 then Cq.fail else(Cq.bind (AI b a) λc=>Cq.ret c)
def Qw(a:vg)(b:Zg)(c:Zg):Cq Zf:=
 Cq.bind (uh (i64.wrap (4611686018427387904+(i64.wrap a.k)))) λd=>if(Int.tmod a.k 8)=7 then Cq.fail else(ZsK a c b)
def xi(a:vg):Cq Zf:=
 Cq.bind (uh (i64.wrap a.n)) λb=>Cq.bind (uh (i64.wrap a.d)) λc=>if a.d=0 then Cq.fail else(Qw a b c)
def ZuU(a:(Ŀ Zl)):Cq (Ŀ Zl):=
 Cq.ret a
def Ry(d:(Ŀ Int))(e:Int):(Int×(Ŀ Zl))->Cq (Ŀ Zl):=
 Cq.loop λj=>match j with|(a,b)=>if a<2 then(Cq.bind (tU d (i64.wrap (e+a))) λf=>Cq.bind (xi (vg.mk (i8.wrap f) 3 0)) λc=>Cq.bind (tU d e) λg=>Cq.bind (xi (vg.mk (i8.wrap (i64.wrap (BitVec.ofInt i64.bits g &&& BitVec.ofInt i64.bits 7).toNat)) 2 0)) λh=>Cq.bind (vy c h) λi=>Cq.Θ b a λk=>Cq.ret (.inl (i64.wrap (a+1),b.set a.toNat (Zl.mk c i))))else(Cq.ret (.inr b))
def ZuV(c:(Ŀ Int))(d:Int)(a:(Ŀ Zl)):Cq (Ŀ Zl):=
 Cq.next (Ry c d (0,a)) λe=>match e with|b=>ZuU b
def Rz:(Int×(Ŀ Zl))->Cq (Ŀ Zl):=
 Cq.loop λe=>match e with|(b,a)=>if b<8 then(Cq.bind (ZX 0) λc=>Cq.bind (ZX 0) λd=>Cq.Θ a b λf=>Cq.ret (.inl (i64.wrap (b+1),a.set b.toNat (Zl.mk c d))))else(Cq.ret (.inr a))
def Mg(b:(Ŀ Int))(c:Int):Cq (Ŀ Zl):=
 Cq.next (Rz (0,(List.replicate 8 (Zl.mk (Zf.mk (Zg.mk false []) (Zg.mk false [])) (Zf.mk (Zg.mk false []) (Zg.mk false [])))))) λd=>match d with|a=>ZuV b c a
def ZlL(j:(Ŀ Za))(a:Int)(i:(Ŀ Za))(b:Int)(c:Int)(d:Int)(e:(Ŀ (Fin 8->Int)))(f:(Ŀ (Ŀ Za)))(g:(Ŀ Int))(h:(Ŀ (Ŀ Zl))):Cq Zj:=
 if a=8 then(Cq.ret (Zj.mk a j b c d e f g h))else(Cq.ret (Zj.mk a i b c d e f g h))
def I5(k:ZM)(o:(Ŀ Za))(n:Int):(Int×Int×(Ŀ Za)×Int×Int×Int×(Ŀ (Fin 8->Int))×(Ŀ (Ŀ Za))×(Ŀ Int)×(Ŀ (Ŀ Zl)))->Cq ((Int×(Ŀ Za)×Int×Int×Int×(Ŀ (Fin 8->Int))×(Ŀ (Ŀ Za))×(Ŀ Int)×(Ŀ (Ŀ Zl)))):=
 Cq.loop λp=>match p with|(b,a,l,e,f,g,h,i,c,d)=>if b<(i64.wrap (BitVec.ofInt i64.bits (i64.wrap (BitVec.ofInt i64.bits n &&& BitVec.ofInt i64.bits 7).toNat) &&& BitVec.ofInt i64.bits 3).toNat)then(Cq.bind (Mg k.v b) λj=>Cq.ì ((d++[j]).length<=small) (if a=8 then(Cq.bind (tU k.v b) λm=>Cq.ì ((c++[i64.wrap ((Int.tmod (i64.wrap (BitVec.ofInt i64.bits m &&& BitVec.ofInt i64.bits 127).toNat) 3)-1)]).length<=small) (Cq.ret (.inl (i64.wrap (b+1),a,o,e,f,g,h,i,(c++[i64.wrap ((Int.tmod (i64.wrap (BitVec.ofInt i64.bits m &&& BitVec.ofInt i64.bits 127).toNat) 3)-1)]),(d++[j])))))else(Cq.ret (.inl (i64.wrap (b+1),a,l,e,f,g,h,i,c,(d++[j]))))))else(Cq.ret (.inr (a,l,e,f,g,h,i,c,d)))
def I6(a:ZM)(n:(Ŀ (Ŀ Za)))(o:(Ŀ Za))(b:Int)(d:Bool):Cq Zj:=
 if d=true then(Cq.next (I5 a o b (0,i64.wrap (1+(i64.wrap (Int.tmod a.kind 13))),[],0,0,0,[],[],[],[])) λp=>match p with|(c,e,f,g,h,i,j,k,l)=>ZlL o c e f g h i j k l)else(if(i64.wrap (1+(i64.wrap (Int.tmod a.kind 13))))=11 then(Cq.bind (xl n 1 (i64.wrap (BitVec.ofInt i64.bits (i64.wrap (BitVec.ofInt i64.bits b &&& BitVec.ofInt i64.bits 7).toNat) &&& BitVec.ofInt i64.bits 3).toNat)) λm=>Cq.ret (Zj.mk (i64.wrap (1+(i64.wrap (Int.tmod a.kind 13)))) [] 0 0 0 [] m [] []))else(if(i64.wrap (1+(i64.wrap (Int.tmod a.kind 13))))=12 then(if(i64.wrap (1+(i64.wrap (Int.tmod a.kind 13))))=12 then(Cq.ret (Zj.mk (i64.wrap (1+(i64.wrap (Int.tmod a.kind 13)))) [] (i64.wrap (BitVec.ofInt i64.bits b &&& BitVec.ofInt i64.bits 7).toNat) 0 0 [] [] [] []))else(Cq.ret (Zj.mk (i64.wrap (1+(i64.wrap (Int.tmod a.kind 13)))) [] 0 0 0 [] [] [] [])))else(if(i64.wrap (1+(i64.wrap (Int.tmod a.kind 13))))=13 then(Cq.ret (Zj.mk (i64.wrap (1+(i64.wrap (Int.tmod a.kind 13)))) [] (i64.wrap (BitVec.ofInt i64.bits b &&& BitVec.ofInt i64.bits 7).toNat) 0 0 [] [] [] []))else(Cq.ret (Zj.mk (i64.wrap (1+(i64.wrap (Int.tmod a.kind 13)))) [] 0 0 0 [] [] [] [])))))
def wS(a:ZM)(c:(Ŀ (Ŀ Za)))(e:(Ŀ Za))(b:Int)(d:Bool):Cq Zj:=
 if d=true then(Cq.ret (Zj.mk (i64.wrap (1+(i64.wrap (Int.tmod a.kind 13)))) e 0 0 0 [] [] [] []))else(if(i64.wrap (1+(i64.wrap (Int.tmod a.kind 13))))=4 then(Cq.bind (tU a.v 2) λg=>Cq.bind (xj (u8.wrap g)) λh=>Cq.bind (xl c 1 (i64.wrap (BitVec.ofInt i64.bits (i64.wrap (BitVec.ofInt i64.bits b &&& BitVec.ofInt i64.bits 7).toNat) &&& BitVec.ofInt i64.bits 3).toNat)) λi=>Cq.ret (Zj.mk (i64.wrap (1+(i64.wrap (Int.tmod a.kind 13)))) [] 0 0 0 h i [] []))else(if(i64.wrap (1+(i64.wrap (Int.tmod a.kind 13))))=5 then(Cq.bind (tU a.v 3) λf=>Cq.ret (Zj.mk (i64.wrap (1+(i64.wrap (Int.tmod a.kind 13)))) [] (i64.wrap (BitVec.ofInt i64.bits f &&& BitVec.ofInt i64.bits 15).toNat) (i64.wrap ((i64.wrap (BitVec.ofInt i64.bits (i64.wrap (BitVec.ofInt i64.bits b &&& BitVec.ofInt i64.bits 7).toNat) &&& BitVec.ofInt i64.bits 3).toNat)-1)) 0 [] [] [] []))else(if(i64.wrap (1+(i64.wrap (Int.tmod a.kind 13))))=6 then(Cq.ret (Zj.mk (i64.wrap (1+(i64.wrap (Int.tmod a.kind 13)))) [] (i64.wrap (BitVec.ofInt i64.bits b &&& BitVec.ofInt i64.bits 7).toNat) (i64.wrap ((i64.wrap (BitVec.ofInt i64.bits b &&& BitVec.ofInt i64.bits 7).toNat)-(i64.wrap (Int.tdiv (i64.wrap (BitVec.ofInt i64.bits b &&& BitVec.ofInt i64.bits 7).toNat) 3)))) (i64.wrap (Int.tdiv (i64.wrap (BitVec.ofInt i64.bits b &&& BitVec.ofInt i64.bits 7).toNat) 2)) [] [] [] []))else(if(i64.wrap (1+(i64.wrap (Int.tmod a.kind 13))))=7 then(I6 a c e b (decide ((i64.wrap (1+(i64.wrap (Int.tmod a.kind 13))))=7)))else(I6 a c e b (decide ((i64.wrap (1+(i64.wrap (Int.tmod a.kind 13))))=8)))))))
def D'(a:ZM):Cq Zj:=
 Cq.bind (Lw a.l 2 2 3 6) λb=>Cq.bind (xl b 2 1) λe=>Cq.Θ e 0 λd=>Cq.bind (tU a.v 1) λc=>if(i64.wrap (1+(i64.wrap (Int.tmod a.kind 13))))=1 then(wS a b d c (decide ((i64.wrap (1+(i64.wrap (Int.tmod a.kind 13))))=1)))else(if(i64.wrap (1+(i64.wrap (Int.tmod a.kind 13))))=2 then(wS a b d c (decide ((i64.wrap (1+(i64.wrap (Int.tmod a.kind 13))))=2)))else(wS a b d c (decide ((i64.wrap (1+(i64.wrap (Int.tmod a.kind 13))))=10))))
def Zpz(a:(Ŀ Zj)):Cq (Ŀ Zj):=
 Cq.ret a
def P1(d:Zt):((Ŀ Zj)×Int)->Cq (Ŀ Zj):=
 Cq.loop λe=>match e with|(a,b)=>if b<(d.l.length:Int)then(if b<4 then(Cq.Θ d.l b λf=>Cq.bind (D' f) λc=>Cq.ì ((a++[c]).length<=small) (Cq.ret (.inl ((a++[c]),i64.wrap (b+1)))))else(Cq.ret (.inr a)))else(Cq.ret (.inr a))
def AE(a:Zt):Cq (Ŀ Zj):=
 Cq.next (P1 a ([],0)) λb=>match b with|c=>Zpz c
def Rq(d:Zd)(c:Zt):Cq (Zd×Int×Int):=
 if(Int.tmod c.fY 2)=0 then(Cq.bind (A9 c) λe=>Cq.bind (A8 c e) λf=>Cq.bind (xx d e f) λa=>if ¬a.2.2=0 then(Cq.ret (d,a.2.1,a.2.2))else(Cq.ret (a.1,a.2.1,a.2.2)))else(Cq.bind (AE c) λg=>Cq.bind (wY d c.id g c.Λ) λb=>if ¬b.2=0 then(Cq.ret (d,0,b.2))else(Cq.ret (b.1,0,b.2)))
def Ztj:Cq (Ze×Bool):=
 Cq.ret ((Ze.mk 0 (Zb.mk 0 [] []) (Zc.mk 0 [] []) 0 0 0 false),false)
def J8(c:Zd)(d:Int):(Int×Ze)->Cq ((Ze×Bool)⊕Ze):=
 Cq.loop λe=>match e with|(a,b)=>if a<(c.t.length:Int)then(Cq.Θ c.t a λf=>if f.id=d then(Cq.Θ c.t a λg=>Cq.ret (.inr (.inl (g,true))))else(Cq.ret (.inl (i64.wrap (a+1),b))))else(Cq.ret (.inr (.inr b)))
def Lz(c:Zd)(a:Int):Cq (Ze×Bool):=
 Cq.next (J8 c a (0,(Ze.mk 0 (Zb.mk 0 [] []) (Zc.mk 0 [] []) 0 0 0 false))) λd=>match d with|.inl b=>Cq.ret b|.inr e=>Ztj
def Ztb:Cq Bool:=
 Cq.ret true
def Zta(b:(Ŀ (Ŀ Za)))(d:Int):Int->Cq (Bool⊕Unit):=
 Cq.loop λe=>match e with|a=>if a<(b.length:Int)then(Cq.Θ b a λf=>Cq.bind (wX f d 64) λc=>if(!c)=true then(Cq.ret (.inr (.inl false)))else(Cq.ret (.inl (i64.wrap (a+1)))))else(Cq.ret (.inr (.inr ())))
def FK(b:(Ŀ (Ŀ Za)))(c:Int):Cq Bool:=
 Cq.next (Zta b c 0) λd=>match d with|.inl a=>Cq.ret a|.inr ()=>Ztb
def Fx(a:Int):Cq Bool:=
 if 0<=a then(Cq.ret (decide (a<=1000000)))else(Cq.ret false)
def JT(a:Zl):Cq Bool:=
 Cq.bind (ub a.lo) λb=>match b with|false=>(Cq.ret false)|true=>(Cq.bind (ub a.hi) λc=>match c with|false=>(Cq.ret false)|true=>(Cq.bind (vz a.lo a.hi) λd=>Cq.ret (decide (d<=0))))
def vl(c:Zf):Cq Bool:=
 Cq.bind (ZX 0) λa=>Cq.bind (A4 c a) λb=>Cq.ret b
def ZqG:Cq Bool:=
 Cq.ret true
def ZqH(a:Int):Cq (Int⊕(Bool⊕Unit)):=
 Cq.ret (.inl (i64.wrap (a+1)))
def Qo(b:(Ŀ (Ŀ Zl)))(g:Int)(c:Int):Int->Cq (Bool⊕Unit):=
 Cq.loop λh=>match h with|a=>if a<8 then(Cq.Θ b c λi=>Cq.Θ i a λj=>Cq.bind (JT j) λd=>match d with|false=>(Cq.ret (.inr (.inl false)))|true=>(if g<=a then(Cq.Θ b c λk=>Cq.Θ k a λl=>Cq.bind (vl l.lo) λe=>match e with|false=>(Cq.ret (.inr (.inl false)))|true=>(Cq.Θ b c λm=>Cq.Θ m a λn=>Cq.bind (vl n.hi) λf=>if(!f)=true then(Cq.ret (.inr (.inl false)))else(Cq.ret (.inl (i64.wrap (a+1))))))else(Cq.ret (.inl (i64.wrap (a+1))))))else(Cq.ret (.inr (.inr ())))
def ZqF(b:(Ŀ (Ŀ Zl)))(d:Int):Int->Cq (Bool⊕Unit):=
 Cq.loop λe=>match e with|a=>if a<(b.length:Int)then(Cq.next (Qo b d a 0) λf=>match f with|.inl c=>Cq.ret (.inr (.inl c))|.inr ()=>ZqH a)else(Cq.ret (.inr (.inr ())))
def Fw(a:(Ŀ (Ŀ Zl)))(c:Int):Cq Bool:=
 if 64<(a.length:Int)then Cq.fail else(Cq.next (ZqF a c 0) λd=>match d with|.inl b=>Cq.ret b|.inr ()=>ZqG)
def ZqJ:Cq Bool:=
 Cq.ret true
def ZqI(b:(Ŀ Int)):Int->Cq (Bool⊕Unit):=
 Cq.loop λc=>match c with|a=>if a<(b.length:Int)then(Cq.Θ b a λd=>if d<(-1)then(Cq.ret (.inr (.inl false)))else(Cq.Θ b a λe=>if 1<e then Cq.fail else(Cq.ret (.inl (i64.wrap (a+1))))))else(Cq.ret (.inr (.inr ())))
def K8(b:(Ŀ Int)):Cq Bool:=
 Cq.next (ZqI b 0) λc=>match c with|.inl a=>Cq.ret a|.inr ()=>ZqJ
def Ep(a:Zj)(c:Bool):Cq Bool:=
 if c=true then(if(a.p.length:Int)=0 then(if(a.l.length:Int)=0 then(if(a.o.length:Int)=0 then(if(a.s.length:Int)=0 then(if(a.b.length:Int)=0 then(if a.d=0 then(if a.r=0 then(Cq.bind (Fx a.n) λe=>Cq.ret e)else(Cq.ret false))else(Cq.ret false))else(Cq.ret false))else(Cq.ret false))else(Cq.ret false))else(Cq.ret false))else(Cq.ret false))else(Cq.ret false)
def Er(e:Zb)(a:Zj)(c:Bool)(h:Bool)(f:Bool):Cq Bool:=
 if f=true then(if(a.p.length:Int)=0 then(if(a.l.length:Int)=0 then(if(a.o.length:Int)=0 then(if(a.s.length:Int)=0 then(if(a.b.length:Int)=0 then(Cq.ret c)else(Cq.ret false))else(Cq.ret false))else(Cq.ret false))else(Cq.ret false))else(Cq.ret false))else(if a.kind=4 then(if(a.p.length:Int)=0 then(if(a.s.length:Int)=0 then(if(a.b.length:Int)=0 then(if c=true then(Cq.bind (yK a.o) λi=>match i with|false=>(Cq.ret false)|true=>(if(a.l.length:Int)<=64 then(Cq.bind (FK a.l e.n) λj=>Cq.ret j)else(Cq.ret false)))else(Cq.ret false))else(Cq.ret false))else(Cq.ret false))else(Cq.ret false))else(if a.kind=5 then(if(a.p.length:Int)=0 then(if(a.l.length:Int)=0 then(if(a.o.length:Int)=0 then(if(a.s.length:Int)=0 then(if(a.b.length:Int)=0 then(if a.r=0 then(if(-1)<=a.d then(if a.d<=e.n then(Cq.bind (Fx a.n) λk=>Cq.ret k)else(Cq.ret false))else(Cq.ret false))else(Cq.ret false))else(Cq.ret false))else(Cq.ret false))else(Cq.ret false))else(Cq.ret false))else(Cq.ret false))else(if a.kind=6 then(if(a.p.length:Int)=0 then(if(a.l.length:Int)=0 then(if(a.o.length:Int)=0 then(if(a.s.length:Int)=0 then(if(a.b.length:Int)=0 then(Cq.bind (Fx a.n) λm=>match m with|false=>(Cq.ret false)|true=>(if 0<=a.r then(if a.r<=a.d then(Cq.ret (decide (a.d<=a.n)))else(Cq.ret false))else(Cq.ret false)))else(Cq.ret false))else(Cq.ret false))else(Cq.ret false))else(Cq.ret false))else(Cq.ret false))else(if a.kind=7 then(if(a.p.length:Int)=0 then(if(a.l.length:Int)=0 then(if(a.o.length:Int)=0 then(if(a.s.length:Int)=0 then(if c=true then(Cq.bind (Fw a.b e.n) λq=>Cq.ret q)else(Cq.ret false))else(Cq.ret false))else(Cq.ret false))else(Cq.ret false))else(Cq.ret false))else(if a.kind=8 then(if h=true then(if(a.l.length:Int)=0 then(if(a.o.length:Int)=0 then(if c=true then(Cq.bind (Fw a.b e.n) λt=>match t with|false=>(Cq.ret false)|true=>(if(a.s.length:Int)=(a.b.length:Int)then(Cq.bind (K8 a.s) λu=>Cq.ret u)else(Cq.ret false)))else(Cq.ret false))else(Cq.ret false))else(Cq.ret false))else(Cq.ret false))else(if a.kind=11 then(if(a.p.length:Int)=0 then(if(a.o.length:Int)=0 then(if(a.s.length:Int)=0 then(if(a.b.length:Int)=0 then(if c=true then(if(a.l.length:Int)<=64 then(Cq.bind (FK a.l e.n) λg=>Cq.ret g)else(Cq.ret false))else(Cq.ret false))else(Cq.ret false))else(Cq.ret false))else(Cq.ret false))else(Cq.ret false))else(if a.kind=12 then(Ep a (decide (a.kind=12)))else(Ep a (decide (a.kind=13))))))))))
def Ag(d:Zb)(a:Zj)(c:Bool)(e:Bool)(f:Bool):Cq Bool:=
 if f=true then(if e=true then(if(a.l.length:Int)=0 then(if(a.o.length:Int)=0 then(if(a.s.length:Int)=0 then(if(a.b.length:Int)=0 then(Cq.ret c)else(Cq.ret false))else(Cq.ret false))else(Cq.ret false))else(Cq.ret false))else(Cq.ret false))else(if a.kind=3 then(Er d a c e (decide (a.kind=3)))else(Er d a c e (decide (a.kind=9))))
def wP(b:Zb)(a:Zj)(c:Bool):Cq Bool:=
 Cq.bind (wX a.p b.n 12) λd=>if a.kind=1 then(Ag b a c d (decide (a.kind=1)))else(if a.kind=2 then(Ag b a c d (decide (a.kind=2)))else(Ag b a c d (decide (a.kind=10))))
def Fv(b:Zb)(a:Zj):Cq Bool:=
 Cq.bind (AN b) λc=>if(!c)=true then Cq.fail else(if a.n=0 then(if a.d=0 then(wP b a (decide (a.r=0)))else(wP b a false))else(wP b a false))
def PY(a:Zj)(c:Bool)(b:Bool):Cq (Int×Int):=
 if b=true then(Cq.ret (0,0))else(if c=true then(if a.kind=13 then(Cq.ret (a.n,(-1)))else(Cq.ret (0,(-1))))else(Cq.ret (0,(-1))))
def D8(a:Zj)(c:Bool)(d:Bool):Cq (Int×Int):=
 if d=true then(Cq.ret ((a.b.length:Int),(a.b.length:Int)))else(if c=true then(PY a c (decide (a.kind=9)))else(PY a c false))
def Jv(a:Zj)(b:Bool)(c:Bool):Cq (Int×Int):=
 if c=true then(Cq.ret (a.r,a.r))else(if b=true then(if a.kind=7 then(D8 a b true)else(D8 a b (decide (a.kind=8))))else(D8 a b false))
def D9(a:Zj)(b:Bool)(c:Bool):Cq (Int×Int):=
 if c=true then(Cq.ret (0,a.n))else(if b=true then(Jv a b (decide (a.kind=6)))else(Jv a b false))
def Jw(a:Zj)(d:Bool)(b:Bool)(c:Bool):Cq (Int×Int):=
 if c=true then(Cq.ret (a.n,a.n))else(if d=true then(D9 a b (decide (a.kind=12)))else(if b=true then(D9 a b (decide (a.kind=12)))else(D9 a b false)))
def yq(a:Zj)(b:Bool)(c:Bool):Cq (Int×Int):=
 if b=true then(Jw a b c (decide (a.kind=6)))else(Jw a b c false)
def Ks(a:Zc)(b:Zj):Cq (Int×Int):=
 if a.kind=8 then(yq b (decide (a.kind=5)) true)else(yq b (decide (a.kind=5)) (decide (a.kind=6)))
def ZsR:Cq Bool:=
 Cq.ret true
def ZsQ(b:(Ŀ (Fin 8->Int)))(c:(Ŀ (Fin 8->Int))):Int->Cq (Bool⊕Unit):=
 Cq.loop λd=>match d with|a=>if a<(b.length:Int)then(Cq.Θ b a λe=>Cq.Θ c a λf=>if ¬e=f then(Cq.ret (.inr (.inl false)))else(Cq.ret (.inl (i64.wrap (a+1)))))else(Cq.ret (.inr (.inr ())))
def FG(a:(Ŀ (Fin 8->Int)))(b:(Ŀ (Fin 8->Int))):Cq Bool:=
 if ¬(a.length:Int)=(b.length:Int)then(Cq.ret false)else(Cq.next (ZsQ a b 0) λd=>match d with|.inl c=>Cq.ret c|.inr ()=>ZsR)
def J6(d:Zb)(b:Zc)(a:Zj):Cq Bool:=
 Cq.bind (tT b.p a.p) λc=>if b.kind=1 then(if a.kind=1 then(Cq.ret c)else(if a.kind=2 then(Cq.ret c)else(Cq.ret false)))else(if b.kind=2 then(if a.kind=3 then(Cq.ret true)else(if(d.δ.length:Int)=0 then(if a.kind=2 then(Cq.bind (ZX 1) λe=>Cq.bind (Em e) λf=>Cq.bind (tT a.p f) λg=>Cq.ret g)else(Cq.ret false))else(Cq.ret false)))else(if b.kind=3 then(if a.kind=4 then(Cq.bind (FG b.o a.o) λh=>Cq.ret h)else(Cq.ret false))else(if b.kind=4 then(Cq.ret (decide (a.kind=5)))else(if b.kind=5 then(Cq.ret (decide (a.kind=6)))else(if b.kind=6 then(Cq.ret (decide (a.kind=7)))else(if b.kind=7 then(if a.kind=8 then(Cq.ret c)else(Cq.ret false))else(if b.kind=8 then(if a.kind=9 then(Cq.ret true)else(if a.kind=6 then(Cq.ret true)else(if a.kind=13 then(Cq.ret (decide (1<=a.n)))else(Cq.ret false))))else(if b.kind=9 then(if a.kind=10 then(Cq.ret c)else(Cq.ret false))else(if b.kind=10 then(Cq.ret (decide (a.kind=11)))else(Cq.ret false))))))))))
def Ef(b:Int×Int)(a:Ze):Cq Ze:=
 if 0<=b.2 then(if a.high<0 then(Cq.ret (Ze.mk a.id a.k a.q a.υ (if a.low<b.1 then b.1 else a.low) b.2 a.done))else(if b.2<a.high then(Cq.ret (Ze.mk a.id a.k a.q a.υ (if a.low<b.1 then b.1 else a.low) b.2 a.done))else(Cq.ret (Ze.mk a.id a.k a.q a.υ (if a.low<b.1 then b.1 else a.low) a.high a.done))))else(Cq.ret (Ze.mk a.id a.k a.q a.υ (if a.low<b.1 then b.1 else a.low) a.high a.done))
def J9(a:Ze)(c:Zj):Cq Ze:=
 Cq.bind (Ks a.q c) λb=>if a.done=true then(Ef b (Ze.mk a.id a.k a.q a.υ a.low a.high true))else(Cq.bind (J6 a.k a.q c) λd=>Ef b (Ze.mk a.id a.k a.q a.υ a.low a.high d))
def Zq6(b:(Ŀ Ze))(a:Int):Cq (Zd×Int):=
 Cq.ret ((Zd.mk b a),0)
def Eu(c:Int)(b:(Ŀ Ze))(a:Int)(d:Ze):Cq ((Int×(Ŀ Ze)×Int)⊕(((Ŀ Ze)×Int))):=
 Cq.ì ((b++[d]).length<=small) (Cq.ret (.inl (i64.wrap (c+1),(b++[d]),a)))
def JK(f:Int)(d:Int)(c:Int)(e:(Ŀ Ze))(b:Int)(a:Ze):Cq ((Int×(Ŀ Ze)×Int)⊕(((Ŀ Ze)×Int))):=
 if a.id=f then(Eu c e b (Ze.mk a.id a.k a.q (if a.υ<(i64.wrap (d+1))then(i64.wrap (d+1))else a.υ) a.low a.high a.done))else(Eu c e b a)
def Qe(c:(Ŀ Zj))(d:Ze×Bool):(Int×Ze)->Cq Ze:=
 Cq.loop λg=>match g with|(a,b)=>if a<(c.length:Int)then(Cq.bind (Au b.k d.1.k) λe=>if e=true then(Cq.Θ c a λh=>Cq.bind (J9 b h) λf=>Cq.ret (.inl (i64.wrap (a+1),f)))else(Cq.ret (.inr b)))else(Cq.ret (.inr b))
def Zq4(c:Zd)(e:Int)(f:(Ŀ Zj))(g:Int)(h:Ze×Bool):(Int×(Ŀ Ze)×Int)->Cq (((Ŀ Ze)×Int)):=
 Cq.loop λj=>match j with|(b,d,a)=>if b<(c.t.length:Int)then(Cq.Θ c.t b λk=>Cq.next (Qe f h (0,k)) λl=>match l with|i=>JK e g b d a i)else(Cq.ret (.inr (d,a)))
def Zq7(b:Zd)(c:Int)(d:(Ŀ Zj))(e:Int)(g:Ze×Bool):Cq (Zd×Int):=
 Cq.next (Zq4 b c d e g (0,[],b.next)) λh=>match h with|(f,a)=>Zq6 f a
def Zq5(b:(Ŀ Zj))(d:Ze×Bool):(Int×Zd)->Cq ((Zd×Int)⊕Zd):=
 Cq.loop λf=>match f with|(a,c)=>if a<(b.length:Int)then(Cq.Θ b a λg=>Cq.bind (Fv d.1.k g) λe=>if(!e)=true then(Cq.ret (.inr (.inl ((Zd.mk [] 0),1))))else(Cq.ret (.inl (i64.wrap (a+1),c))))else(Cq.ret (.inr (.inr c)))
def Qf(c:Zd)(d:Int)(a:(Ŀ Zj))(e:Int)(b:Ze×Bool)(f:Zd):Cq (Zd×Int):=
 Cq.next (Zq5 a b (0,f)) λh=>match h with|.inl g=>Cq.ret g|.inr i=>Zq7 c d a e b
def Lb(b:Zd)(c:Int)(e:(Ŀ Zj))(a:Int):Cq (Zd×Int):=
 Cq.bind (Lz b c) λd=>if(!d.2)=true then(Cq.ret ((Zd.mk [] 0),380))else(if a<0 then(Cq.ret ((Zd.mk [] 0),1))else(if 12<a then(Cq.ret ((Zd.mk [] 0),1))else(Qf b c e a d (Zd.mk [] 0))))
def Ly(f:Zd)(c:Zt):Cq (Zd×Int×Int):=
 if(Int.tmod c.fY 2)=0 then(Cq.bind (A9 c) λg=>Cq.bind (A8 c g) λh=>Cq.bind (AP 5 f g h) λa=>if ¬a.e=0 then(Cq.ret (f,0,a.e))else(Cq.ret (a.b,a.id,0)))else(Cq.bind (AE c) λi=>Cq.bind (Lb f c.id i c.Λ) λd=>if ¬d.2=0 then(Cq.ret (f,0,d.2))else(Cq.ret (d.1,0,0)))
def Zq9(a:(Ŀ Zc)):Cq (Ŀ Zc):=
 Cq.ret a
def Zq8(e:Ze)(b:(Ŀ Zc)):((Ŀ Zc)×Int)->Cq (Ŀ Zc):=
 Cq.loop λf=>match f with|(a,d)=>if d<(b.length:Int)then(Cq.Θ b d λg=>Cq.bind (yL e.k g) λc=>Cq.ì ((a++[c.q]).length<=small) (Cq.ret (.inl ((a++[c.q]),i64.wrap (d+1)))))else(Cq.ret (.inr a))
def ZvZ(b:Ze):Cq (Ŀ Zc):=
 Cq.bind (Fy b.q) λc=>Cq.next (Zq8 b c ([],0)) λd=>match d with|a=>Zq9 a
def Ztk(a:Zd):Cq Zd:=
 Cq.ret a
def QZ(c:(Ŀ Zt)):(Int×Zd)->Cq Zd:=
 Cq.loop λe=>match e with|(b,a)=>if b<(c.length:Int)then(if b<6 then(Cq.Θ c b λf=>Cq.bind (Ly a f) λd=>Cq.ret (.inl (i64.wrap (b+1),d.1)))else(Cq.ret (.inr a)))else(Cq.ret (.inr a))
def LA(c:(Ŀ Zt)):Cq Zd:=
 Cq.bind (Uo) λa=>Cq.next (QZ c (0,a)) λd=>match d with|b=>Ztk b
def ZjX(a:Bool):Cq Bool:=
 Cq.ret a
def ZjY(a:Int)(d:Ze)(b:Bool)(c:Bool):Cq (Int⊕(Bool⊕Unit)):=
 if d.done=true then(if ¬b=false then(Cq.ret (.inr (.inl false)))else(Cq.ret (.inl (i64.wrap (a+1)))))else(if d.υ<=12 then(if ¬b=(!c)then(Cq.ret (.inr (.inl false)))else(Cq.ret (.inl (i64.wrap (a+1)))))else(if ¬b=false then(Cq.ret (.inr (.inl false)))else(Cq.ret (.inl (i64.wrap (a+1))))))
def Jf(c:Zd)(f:Ze)(d:(Ŀ Zc)):(Bool×Int)->Cq Bool:=
 Cq.loop λh=>match h with|(b,a)=>if a<(d.length:Int)then(Cq.Θ d a λi=>Cq.bind (yL f.k i) λg=>Cq.bind (Gk c f.k g.q) λe=>if b=true then(Cq.ret (.inl (true,i64.wrap (a+1))))else(if e<0 then(Cq.ret (.inl (true,i64.wrap (a+1))))else(Cq.Θ c.t e λj=>if j.done=true then(Cq.ret (.inl (false,i64.wrap (a+1))))else(Cq.ret (.inl (true,i64.wrap (a+1)))))))else(Cq.ret (.inr b))
def O9(e:Zd)(a:Int)(d:Ze)(b:Bool):Cq (Int⊕(Bool⊕Unit)):=
 Cq.bind (wQ d.q) λf=>Cq.next (Jf e d f (false,0)) λg=>match g with|c=>ZjY a d b c
def Jg(c:(Ŀ Int))(d:Ze):(Bool×Int)->Cq Bool:=
 Cq.loop λe=>match e with|(b,a)=>if a<(c.length:Int)then(if b=true then(Cq.ret (.inl (true,i64.wrap (a+1))))else(Cq.Θ c a λf=>if f=d.id then(Cq.ret (.inl (true,i64.wrap (a+1))))else(Cq.ret (.inl (false,i64.wrap (a+1))))))else(Cq.ret (.inr b))
def ZjW(b:Zd)(d:(Ŀ Int)):Int->Cq (Bool⊕Unit):=
 Cq.loop λf=>match f with|a=>if a<(b.t.length:Int)then(Cq.Θ b.t a λe=>Cq.next (Jg d e (false,0)) λg=>match g with|c=>O9 b a e c)else(Cq.ret (.inr (.inr ())))
def ZjZ(a:Bool)(b:Zd)(c:(Ŀ Int)):Cq Bool:=
 Cq.next (ZjW b c 0) λe=>match e with|.inl d=>Cq.ret d|.inr ()=>ZjX a
def DY(e:Zd)(c:(Ŀ Int)):Int->Cq (Bool⊕Unit):=
 Cq.loop λf=>match f with|a=>if a<(c.length:Int)then(Cq.Θ c (i64.wrap (a-1)) λg=>Cq.bind (xt e g) λd=>Cq.Θ c a λh=>Cq.bind (xt e h) λb=>if b.1.υ<d.1.υ then(Cq.ret (.inr (.inl false)))else(if d.1.υ=b.1.υ then(if b.1.id<=d.1.id then(Cq.ret (.inr (.inl false)))else(Cq.ret (.inl (i64.wrap (a+1)))))else(Cq.ret (.inl (i64.wrap (a+1))))))else(Cq.ret (.inr (.inr ())))
def Jl(d:(Ŀ Zt)):Cq Bool:=
 Cq.bind (JH) λb=>if(!b)=true then(Cq.ret false)else(Cq.bind (LA d) λa=>Cq.bind (ES a) λc=>Cq.next (DY a c 1) λf=>match f with|.inl e=>Cq.ret e|.inr ()=>ZjZ b a c)
end Go.EL

namespace Go.EL
open Go.IntKind (i8 i16 i32 i64 u8 u16 u32 u64)
open Go
namespace Cq
variable {α β σ ρ:Type}
theorem wp_ret{a:α}{p:α->Prop}:(Cq.ret a).wp p↔p a:=Iff.rfl
theorem Zm{q:Prop}[Decidable q]{c d:Cq α}{p:α->Prop}:(if q then c else d).wp p↔if q then c.wp p else d.wp p:=by split<;>rfl
theorem Zzb{A:σ->Prop}{Φ:ρ->Prop}{s:σ}:Out A Φ (.inl s)↔A s:=Iff.rfl
theorem Α.then{c:Cq α}{a:α}(h:c.Α a){p:α->Prop}(hp:p a):c.wp p:=c.mono (λb e=>by rw[e];exact hp) h
end Cq
theorem wrap64{x:Int}(h:-9223372036854775808<=x/\x<=9223372036854775807):i64.wrap x=x:=IntWalk.i64_in _ h
theorem mU{a:Fin 8->Int}{i:Int}(h:0<=i/\i<8):Ε a i=a ⟨i.toNat,ŉ⟩:=y8 a ŉ
theorem I8(a b:M):(yB a b).Α (Û a b):=by
 unfold yB;by_cases h:a=b
 .rw[ą h];subst h;exact(AR a).symm
 rw[ā h];have n:∀k:Nat,k<=8->(∀j:Fin 8,j.val<k->a j=b j)->k<8:=λk l g=>by
  rcases ŝ k 8 with q|q
  .exact q
  exact absurd (funext λj=>g j ŉ) h
 refine Cq.Lr (I:=λi:Int=>0<=i/\i<8/\∀j:Fin 8,(j.val:Int)<i->a j=b j) (m:=λi=>(8-i).toNat) (λi hi=>?_) 0 ⟨ŉ,ŉ,λj g=>by omega⟩;obtain⟨c,d,g⟩:=hi;refine⟨⟨c,d⟩,⟨c,d⟩,?_⟩;rw[Cq.Zm,mU ⟨c,d⟩,mU ⟨c,d⟩];split
 .rename_i e;have kf:∀j:Fin 8,(j.val:Int)<i+1->a j=b j:=λj f=>by
   by_cases h2:(j.val:Int)<i
   .exact g j h2
   have:j=⟨i.toNat,ŉ⟩:=abg ab0;rw[this];exact e
  have:=n (i+1).toNat ŉ (λj f=>kf j ŉ);rw[Cq.wp_ret,Cq.Zzb,wrap64 ŉ];exact⟨⟨ŉ,ŉ,kf⟩,ŉ⟩
 rename_i e;refine⟨⟨c,d⟩,⟨c,d⟩,?_⟩;rw[Cq.Zm,mU ⟨c,d⟩,mU ⟨c,d⟩];have l:i.toNat<8:=ŉ;split
 .rename_i p;exact(Uy a b l (λj f=>g j ŉ) p).symm
 rename_i p;exact(Ux a b l (λj f=>g j ŉ) ŉ).symm
end Go.EL

namespace Go.EL
open Go.IntKind (i8 i16 i32 i64 u8 u16 u32 u64)
open Go
instance MS:DecidableEq Zg:=λ⟨a1,a2⟩ ⟨a,c⟩=>decidable_of_iff (a1=a/\a2=c) ß
instance MT:DecidableEq Zf:=λ⟨a1,a2⟩ ⟨a,c⟩=>decidable_of_iff (a1=a/\a2=c) ß
def û(n:Int):Zf:=⟨⟨decide (n<0),if n=0 then[]else[(n.natAbs:Int)]⟩,⟨false,[1]⟩⟩
def á(l h:Int)(p:Int->Bool):Bool:=(List.range (h-l+1).toNat).all λk=>p (l+(k:Int))
theorem Zq{l h:Int}{p:Int->Bool}(a:á l h p=true){x:Int}(c:l<=x)(h2:x<=h):p x=true:=by have:=Ć.1 a (x-l).toNat (ĺ.2 ŉ);rwa [show l+((x-l).toNat:Int)=x by omega]at this
def runs{α:Type}[DecidableEq α](n:Nat)(c:Cq α)(a:α):Bool:=decide (c.ev n=some a)
theorem Zr{α:Type}[DecidableEq α]{n:Nat}{c:Cq α}{a:α}(h:runs n c a=true):c.Α a:=Cq.Α.me n (ĥ h)
theorem ZxD:(á (-8) 8 λn=>runs 20 (ZX n) (û n))=true:=by decide +kernel
theorem Zze:(á (-12) 12 λa=>á (-3) 3 λb=>runs 30 (vy (û a) (û b)) (û (a+b)))=true:=by decide +kernel
theorem ZzW:(á (-3) 3 λa=>runs 30 (qZ (û a) (û 1)) (û a))=true:=by decide +kernel
theorem FX:(á (-15) 15 λa=>runs 30 (oy (û a)) (if a<0 then -1 else if a=0 then 0 else 1))=true:=by decide +kernel
theorem Zxz:(á (-15) 15 λa=>a == 0 || runs 30 (ub (û a)) true)=true:=by decide +kernel
theorem Si:(á (-12) 12 λa=>a == 0 || runs 30 (ZH (û a)) (if a<0 then -1 else if a=0 then 0 else 1))=true:=by decide +kernel
theorem ZvJ:(á (-12) 12 λa=>a == 0 || runs 30 (ZZ (û a)) true)=true:=by decide +kernel
theorem ZyC:(á (-12) 12 λa=>a == 0 || á (-12) 12 λb=>b == 0 || runs 30 (vf (û a) (û b)) (if a<b then -1 else if a=b then 0 else 1))=true:=by decide +kernel
end Go.EL

namespace Go.EL
open Go.IntKind (i8 i16 i32 i64 u8 u16 u32 u64)
open Go Go.RowKit
def lP(k:Nat)(f a:M):M:=λi=>if i.val<k then f i else a i
theorem Tw{k:Nat}(f a:M)(h:k<8):ζ (lP k f a) k (f ⟨k,h⟩)=lP (k+1) f a:=by
 funext i;unfold ζ lP;by_cases e:i.val=k
 .have:i=⟨k,h⟩:=abg e;subst this;simp
 have c:(i.val<k+1)=(i.val<k):=by apply propext;omega
 simp[e,c]
theorem Vc{k:Nat}(f a:M)(h:k<8):lP k f a ⟨k,h⟩=a ⟨k,h⟩:=by unfold lP;simp
theorem Tx(f a:M):lP 0 f a=a:=by funext i;simp[lP]
theorem UW{k:Nat}(f a:M)(h:¬k<8):lP k f a=f:=by funext i;have:i.val<k:=ŉ;simp[lP,this]
theorem ZxV{p:Fin 8->Prop}{k:Nat}(a:∀i:Fin 8,i.val<k->p i)(h:k<8)(c:p ⟨k,h⟩):∀i:Fin 8,i.val<k+1->p i:=λi hi=>by
 by_cases e:i.val=k
 .have:i=⟨k,h⟩:=abg e;rw[this];exact c
 exact a i ŉ
def Ok(a:M):Prop:=∀i,0<=a i/\a i<=65535
def p2:Nat->Int
 |0=>1
 |k+1=>2*p2 k
theorem ZBb:∀{k:Nat},k<=8->1<=p2 k/\p2 k<=256
 |0,_=>by decide
 |1,_=>by decide
 |2,_=>by decide
 |3,_=>by decide
 |4,_=>by decide
 |5,_=>by decide
 |6,_=>by decide
 |7,_=>by decide
 |8,_=>by decide
 |k+9,h=>by omega
theorem Mu{k:Nat}(h:k<8):1<=p2 k/\p2 k<=128:=by have:=ZBb (k:=k+1) ŉ;simp only[p2]at this;omega
theorem Zyl{k:Nat}(h:k<8):u8.wrap (1*2 ^ (min (k:Int).toNat u8.bits))=p2 k:=by
 match k,h with
 |0,_=>decide|1,_=>decide|2,_=>decide|3,_=>decide|4,_=>decide|5,_=>decide|6,_=>decide|7,_=>decide
theorem Zz2{k:Nat}(h:k<8):u8.wrap (p2 k)=p2 k:=by
 match k,h with
 |0,_=>decide|1,_=>decide|2,_=>decide|3,_=>decide|4,_=>decide|5,_=>decide|6,_=>decide|7,_=>decide
def Ú(a:M):Nat->Int
 |0=>0
 |k+1=>Ú a k+(if h:k<8 then(if 0<a ⟨k,h⟩then p2 k else 0)else 0)
def jD(a:M):Int:=Ú a 8
theorem A0(a:M):∀k:Nat,0<=Ú a k/\Ú a k<p2 k
 |0=>by simp[Ú,p2]
 |k+1=>by
  have c:=A0 a k;simp only[Ú,p2];split
  .split<;>omega
  omega
theorem R7(a:M){k:Nat}(h:k<8)(c:0<a ⟨k,h⟩):Ú a k+p2 k=Ú a (k+1):=by simp[Ú,h,c]
theorem SZ(a:M){k:Nat}(h:k<8)(c:¬0<a ⟨k,h⟩):Ú a k=Ú a (k+1):=by simp[Ú,h,c]
theorem Zw6:∀k:Fin 8,∀s:Fin 128,s.val<2 ^ k.val->u8.wrap (BitVec.ofInt u8.bits (s.val:Int) ||| BitVec.ofInt u8.bits (p2 k.val)).toNat=s.val+p2 k.val:=by decide +kernel
theorem ze:∀k:Nat,p2 k=((2 ^ k:Nat):Int)
 |0=>rfl
 |k+1=>by rw[p2,ze k,Nat.pow_succ];omega
theorem ZBa{k:Nat}(h:k<8){s:Int}(a:0<=s)(c:s<p2 k):u8.wrap (BitVec.ofInt u8.bits s ||| BitVec.ofInt u8.bits (p2 k)).toNat=s+p2 k:=by obtain⟨n,rfl⟩:=aat a;have h2:=Mu h;rw[ze]at c;exact Zw6 ⟨k,h⟩ ⟨n,by rw[ze]at h2;omega⟩ ab0
theorem ZAp{k:Nat}(h:k<8){s:Int}(a:0<=s)(c:s<p2 k):u8.wrap (s+p2 k)=s+p2 k:=by have h2:=Mu h;simp only[IntKind.wrap,IntKind.bits,IntKind.signed,Ŷ,Ś,aaM];omega
theorem Cq.Zn{σ ρ:Type}{step:σ->Cq (σ⊕ρ)}{Φ:ρ->Prop}(n:Nat)(I:Nat->σ->Prop)(h:∀k s,k<n->I k s->(step s).wp (Out (λs'=>I (k+1) s') Φ))(a:∀s,I n s->(step s).wp (Out (λ_=>False) Φ)):
  ∀{s:σ},I 0 s->(Cq.loop step s).wp Φ:=by
 have key:∀d k s,k+d=n->I k s->(Cq.loop step s).wp Φ:=by
  intro d;induction d with
  |zero=>intro k s e c;rw[ej]at e;subst e;exact Cq.Zs ((step s).mono (Out.mono (λ_ h=>h.elim) (λ_ x=>x)) (a s c))
  |succ d f=>intro k s e c;exact Cq.Zs ((step s).mono (Out.mono (λs' h'=>f (k+1) s' ŉ h') (λ_ x=>x)) (h k s ŉ c))
 exact λ{s} c=>key n 0 s ŉ c
theorem ψ{k:Nat}(h:k<1000000000000):i64.wrap ((k:Int)+1)=((k+1:Nat):Int):=by rw[wrap64 ŉ];simp
theorem Μ{α:Type}{l:Ŀ α}{k:Nat}(h:k<l.length):(0:Int)<=(k:Int)/\l[(k:Int).toNat]?=some l[k]:=⟨ŉ,by simp[h]⟩
theorem Ô{a:M}{k:Nat}(h:k<8):Ε a (k:Int)=a ⟨k,h⟩:=by rw[mU ŉ];rfl
theorem Ztr(m:M):(Jp m).Α (jD m):=by
 show(Cq.loop _ _).wp _;refine Cq.Zn 8 (λk s=>s=(Ú m k,(k:Int))) (λk s a c=>?_) (λs c=>?_) rfl
 .subst c;refine Cq.wp.yes (p:=(k:Int)<8) ŉ ?_;refine⟨ŉ,?_⟩;rw[Cq.Zm,Ô a];have d:=A0 m k;split
  .rename_i h;refine⟨ŉ,?_⟩;show _=_;rw[ψ ŉ,Zyl a,ZBa a d.1 d.2,R7 m a h]
  rename_i h;show _=_;rw[ψ ŉ,SZ m a h]
 subst c;refine Cq.wp.no (p:=((8:Nat):Int)<8) ŉ ?_;rfl
theorem Ap(a b:M):(xA a b).Α (Û a b):=by
 refine Cq.Zn 8 (λk s=>s=(k:Int)/\∀i:Fin 8,i.val<k->a i=b i) (λk s c d=>?_) (λs d=>?_) ⟨rfl,λi hi=>by omega⟩
 .obtain⟨rfl,hi⟩:=d;rw[Cq.Zm,ą ŉ];refine⟨ŉ,ŉ,?_⟩;rw[Cq.Zm,Ô c,Ô c];split
  .rename_i h;show _=_;exact(Uy a b c hi h).symm
  rename_i h;refine⟨ŉ,ŉ,?_⟩;rw[Cq.Zm];split
  .rename_i h2;show _=_;exact(Ux a b c hi h2).symm
  exact⟨ψ ŉ,ZxV hi c ŉ⟩
 obtain⟨rfl,hi⟩:=d;rw[Cq.Zm,ā ŉ];show _=_;exact(Uw a b (λi=>hi i i.isLt)).symm
theorem ZsN{i:Nat}(hi:i<8):(Md (i:Int)).Α (p2 i):=by
 refine Cq.Zn i (λk s=>s=(p2 k,(k:Int))) (λk s c a=>?_) (λs a=>?_) rfl
 .subst a;show(if(k:Int)<(i:Int)then _ else _:Cq _).wp _;have:=Mu (k:=k) ŉ;rw[Cq.Zm,ą ŉ];show _=_;rw[ψ ŉ,wrap64 ŉ];rfl
 subst a;refine Cq.wp.no (p:=(i:Int)<(i:Int)) ŉ ?_;exact Zz2 hi
theorem ZmB(m:M):(Kf m).Α (jD m):=by
 refine Cq.Zn 8 (λk s=>s=(Ú m k,(k:Int))) (λk s a c=>?_) (λs c=>?_) rfl
 .subst c;have d:=A0 m k;refine Cq.wp.yes (p:=(k:Int)<8) ŉ ?_;refine⟨ŉ,?_⟩;rw[Cq.Zm,Ô a];split
  .rename_i hp;refine⟨_,ZsN a,?_⟩;show _=_;rw[ψ ŉ,ZAp a d.1 d.2,R7 m a hp]
  rename_i hp;show _=_;rw[ψ ŉ,SZ m a hp]
 subst c;refine Cq.wp.no (p:=((8:Nat):Int)<8) ŉ ?_;rfl
theorem PW{m:M}(h:Ok m):(Fs m).Α true:=by
 refine Cq.Zn 8 (λk s=>s=(k:Int)) (λk s c a=>?_) (λs a=>?_) rfl
 .subst a;have:=h ⟨k,c⟩;rw[Cq.Zm,ą ŉ];refine⟨ŉ,?_⟩;rw[Cq.Zm,Ô c,ā ŉ];refine⟨ŉ,?_⟩;rw[Cq.Zm,ā ŉ];exact ψ ŉ
 subst a;rw[Cq.Zm,ā ŉ];rfl
theorem Sm{m:M}(h:Ok m):(D4 m).Α true:=by
 refine Cq.Zn 8 (λk s=>s=(k:Int)) (λk s c a=>?_) (λs a=>?_) rfl
 .subst a;have:=h ⟨k,c⟩;refine Cq.wp.yes (p:=(k:Int)<8) ŉ ?_;refine⟨ŉ,?_⟩;rw[Cq.Zm,Ô c,ā ŉ,Cq.Zm,ā ŉ];exact ψ ŉ
 subst a;refine Cq.wp.no (p:=((8:Nat):Int)<8) ŉ ?_;rfl
def fC(m:M):Nat->Int
 |0=>0
 |k+1=>fC m k+(if h:k<8 then m ⟨k,h⟩else 0)
def fG(m:M):Int:=fC m 8
theorem FD{m:M}(h:Ok m):∀k:Nat,0<=fC m k/\fC m k<=65535*k
 |0=>by simp[fC]
 |k+1=>by
  have c:=FD h k;simp only[fC];split
  .rename_i a;have:=h ⟨k,a⟩;omega
  omega
theorem ZnJ{m:M}(h:Ok m):(Kp m).Α (fG m):=by
 refine Cq.Zn 8 (λk s=>s=(fC m k,(k:Int))) (λk s a c=>?_) (λs c=>?_) rfl
 .subst c;have d:=FD h k;have h2:=h ⟨k,a⟩;refine Cq.wp.yes (p:=(k:Int)<8) ŉ ?_;refine⟨ŉ,?_⟩;show _=_;rw[ψ ŉ,Ô a,wrap64 ŉ,fC,ŷ a]
 subst c;refine Cq.wp.no (p:=((8:Nat):Int)<8) ŉ ?_;rfl
theorem ZuK{m:M}(h:Ok m):(Jm m).Α (fG m):=by
 refine Cq.Zn 8 (λk s=>s=(fC m k,(k:Int))) (λk s a c=>?_) (λs c=>?_) rfl
 .subst c;have d:=FD h k;have h2:=h ⟨k,a⟩;refine Cq.wp.yes (p:=(k:Int)<8) ŉ ?_;refine⟨ŉ,?_⟩;show _=_;rw[ψ ŉ,Ô a,wrap64 ŉ,fC,ŷ a]
 subst c;refine Cq.wp.no (p:=((8:Nat):Int)<8) ŉ ?_;rfl
def mulM(a b:M):M:=λi=>a i+b i
theorem Qx{a b:M}(f:Ok a)(g:Ok b)(d:Ok (mulM a b)):(Me a b).Α (mulM a b,0):=by
 show(Cq.next _ _).wp _;refine Cq.Zn 8 (λk s=>s=((k:Int),lP k (mulM a b) a)) (λk s c e=>?_) (λs e=>?_) (by rw[Tx];rfl)
 .subst e;have h:=f ⟨k,c⟩;have h2:=g ⟨k,c⟩;rw[Cq.Zm,ą ŉ];refine⟨ŉ,ŉ,ŉ,?_⟩;show _=_;rw[ψ ŉ,Ô c,Ô c,Vc,wrap64 ŉ];exact đ (Prod.mk _) (Tw (mulM a b) a c)
 subst e;rw[Cq.Zm,ā ŉ,UW _ _ ŉ];exact⟨true,PW d,rfl⟩
end Go.EL

namespace Go.EL
open Go.IntKind (i8 i16 i32 i64 u8 u16 u32 u64)
open Go Go.RowKit
theorem tX{c:Zf}(h:fo c=true):∃n:Int,c=û n/\n≠0/\-12<=n/\n<=12:=by
 obtain⟨⟨e,i⟩,⟨f,dm⟩⟩:=c;unfold fo at h;dsimp only at h;split at h
 .rename_i w d;simp only[ĉ,Ő,Ę]at h;obtain⟨⟨⟨a,h2⟩,h3⟩,g⟩:=h;subst a h2;cases e with
  |true=>
   refine⟨-w,?_,ŉ,ŉ,ŉ⟩;unfold û;rw[ā ŉ,ă ŉ,show((-w).natAbs:Int)=w by omega]
  |false=>
   refine⟨w,?_,ŉ,ŉ,ŉ⟩;unfold û;rw[ā ŉ,Ċ ŉ,show((w).natAbs:Int)=w by omega]
 cases h
theorem pq(n:Int):Î (û n)=n:=by
 unfold Î û;by_cases h:n<0
 .rw[ă h,ą rfl,ā ŉ];simp;omega
 rw[Ċ h];by_cases a:n=0
 .subst a;rfl
 simp[a];omega
theorem Zvi{n:Int}(a:n≠0)(c:-12<=n)(h2:n<=12):fo (û n)=true:=by unfold fo û;rw[ā a];simp;omega
def gZ(a b:Zf):Int:=if Î a<Î b then -1 else if Î a=Î b then 0 else 1
theorem Tz{a b:Zf}(e:fo a=true)(f:fo b=true):(vf a b).Α (gZ a b):=by
 obtain⟨m,rfl,g,i,j⟩:=tX e;obtain⟨n,rfl,k,l,p⟩:=tX f;have h:=Zq ZyC i j;have c:(m == 0)=false:=by simpa using g
 rw[c,Ľ]at h;have h':=Zq h l p;have d:(n == 0)=false:=by simpa using k
 rw[d,Ľ]at h';have:=Zr h';unfold gZ;rw[pq,pq];exact this
theorem Zwb{a b:Zf}(c:fo a=true)(d:fo b=true)(h:gZ a b=0):a=b:=by
 obtain⟨m,rfl,_⟩:=tX c;obtain⟨n,rfl,_⟩:=tX d;unfold gZ at h;rw[pq,pq]at h;split at h
 .omega
 split at h
 .rename_i e;rw[e]
 omega
theorem ZxY(a b:Zf):gZ b a = - gZ a b:=by unfold gZ;split<;>split<;>(try split)<;>omega
theorem Zzi{a b:Zf}:gZ a b<=0↔Î a<=Î b:=by unfold gZ;split<;>(try split)<;>constructor<;>intro h<;>omega
theorem Zzj{a b:Zf}:gZ a b<0↔Î a<Î b:=by unfold gZ;split<;>(try split)<;>constructor<;>intro h<;>omega
theorem Zva{a b c:Zf}(d:gZ a b<=0)(h2:gZ b c<=0):gZ a c<=0/\((gZ a b<0\/gZ b c<0)->gZ a c<0):=by rw[Zzi]at *;simp only[Zzj];omega
theorem FC(s t:Za):fB t s = - fB s t:=by
 unfold fB;by_cases h:s.m=t.m
 .rw[ą h,ą h.symm];exact ZxY s.c t.c
 rw[ā h,ā (λe=>h e.symm)];exact tV _ _
theorem EJ(a b c:Za)(g:fB a b<=0)(h2:fB b c<=0):fB a c<=0/\((fB a b<0\/fB b c<0)->fB a c<0):=by
 have j:∀{x y:Za},x.m≠y.m->Û x.m y.m<=0->Û x.m y.m<0:=λh h'=>by
  rcases Int.lt_or_eq_of_le h' with h'|h'
  .exact h'
  exact absurd (ud h') h
 unfold fB at *;by_cases d:a.m=b.m
 .by_cases f:b.m=c.m
  .rw[ą d]at g⊢;rw[ą f]at h2⊢;rw[ą (d.trans f)];exact Zva g h2
  rw[ą d]at g⊢;rw[ā f]at h2⊢;rw[ā (λe=>f (d.symm.trans e))];have:=j f h2;rw[d];exact⟨h2,λ_=>this⟩
 by_cases f:b.m=c.m
 .rw[ā d]at g⊢;rw[ą f]at h2⊢;rw[ā (λe=>d (e.trans f.symm))];have:=j d g;rw[<-f];exact⟨g,λ_=>this⟩
 rw[ā d]at g⊢;rw[ā f]at h2⊢;have i:=j d g;have h3:=JB g h2 (.inl i);have:a.m≠c.m:=λe=>by rw[e,AR]at h3;omega
 rw[ā this];exact⟨Int.le_of_lt h3,λ_=>h3⟩
theorem Zwd{s t:Za}(a:fo s.c=true)(c:fo t.c=true)(h:fB s t=0):s=t:=by
 unfold fB at h;have key:s.m=t.m/\s.c=t.c:=by
  by_cases e:s.m=t.m
  .rw[ą e]at h;exact⟨e,Zwb a c h⟩
  rw[ā e]at h;exact absurd (ud h) e
 cases s;cases t;simp only at key;rw[key.1,key.2]
theorem qz:∀p q:Ŀ Za,ë q p = - ë p q
 |[],[]=>rfl
 |[],_::_=>rfl
 |_::_,[]=>rfl
 |s::p,t::q=>by
  unfold ë;rw[FC s t,qz p q];by_cases h:fB s t=0
  .rw[ą h,ą ŉ]
  rw[ā h,ā ŉ]
theorem yH:∀a b c:Ŀ Za,ë a b<=0->ë b c<=0->ë a c<=0/\((ë a b<0\/ë b c<0)->ë a c<0)
 |[],[],[],d,h2=>⟨ĳ,λh=>by rcases h with h|h<;>exact absurd h ĳ⟩
 |[],[],_::_,d,h2=>⟨by simp[ë],λ_=>by simp[ë]⟩
 |[],_::_,[],d,h2=>by simp[ë]at h2
 |[],_::_,_::_,d,h2=>⟨by simp[ë],λ_=>by simp[ë]⟩
 |_::_,[],_,d,h2=>by simp[ë]at d
 |_::_,_::_,[],d,h2=>by simp[ë]at h2
 |s::a,t::b,u::c,d,h2=>by
  have l:=FC s t;have i:=yH a b c;have tr:=EJ s t u;have j:=EJ t s u;have k:=EJ s u t;have m:=FC t u;have n3:=FC s u;simp only[ë]at *;by_cases g:fB s t=0
  .rw[ą g]at d⊢;by_cases e:fB t u=0
   .rw[ą e]at h2⊢;have h3:fB s u=0:=by
     have f:=(tr ŉ ŉ).1;have n:=(EJ u t s ŉ ŉ).1;omega
    rw[ą h3];exact i d h2
   rw[ā e]at h2⊢;have f:=(tr ŉ h2).2 (.inr ŉ);rw[ā ŉ];exact⟨ŉ,λ_=>f⟩
  rw[ā g]at d⊢;have e:fB t u<=0:=by
   by_cases e:fB t u=0
   .omega
   rw[ā e]at h2;exact h2
  have f:=(tr d e).2 (.inl ŉ);rw[ā ŉ];exact⟨ŉ,λ_=>f⟩
theorem xn(p:Ŀ Za):ë p p=0:=by have:=qz p p;omega
theorem RL{t:Za}{p:Ŀ Za}(h:Ñ (t::p)=true):fo t.c=true/\Ñ p=true:=by unfold Ñ at *;simp only[ĉ,Ę,Ě,aaK]at h⊢;exact⟨h.2.1,ŉ,h.2.2⟩
theorem AS:∀{p q:Ŀ Za},Ñ p=true->Ñ q=true->ë p q=0->p=q
 |[],[],_,_,_=>rfl
 |[],_::_,_,_,h=>by simp[ë]at h
 |_::_,[],_,_,h=>by simp[ë]at h
 |s::p,t::q,hp,a,h=>by
  obtain⟨p1,p2⟩:=RL hp;obtain⟨c,d⟩:=RL a;simp only[ë]at h;by_cases e:fB s t=0
  .rw[ą e]at h;rw[Zwd p1 c e,AS p2 d h]
  rw[ā e]at h;exact absurd h e
abbrev mE:={ p:Ŀ Za // Ñ p=true }
theorem Om:Go.Sort.SWO (Go.Proofs.ltOf λa b:mE=>ë a.1 b.1) where
 irrefl x:=by show decide (ë x.1 x.1<0)=false;rw[xn];rfl
 trans x y z c h2:=by simp only[Go.Proofs.ltOf,Ę]at *;exact(yH x.1 y.1 z.1 ŉ ŉ).2 (.inl c)
 ntrans x y z c h2:=by simp only[Go.Proofs.ltOf,aas,aaI]at *;have d:=qz x.1 y.1;have e:=qz y.1 z.1;have n3:=qz x.1 z.1;have:=(yH z.1 y.1 x.1 ŉ ŉ).1;omega
theorem Lp(x:Ŀ Za):∀l,(zH x l).Perm (x::l)
 |[]=>u1 _
 |y::l=>by
  unfold zH;split
  .exact ((Lp x l).cons y).trans (List.Perm.swap x y l)
  exact u1 _
theorem vo:∀l,(jy l).Perm l
 |[]=>u1 _
 |x::l=>(Lp x (jy l)).trans ((vo l).cons x)
theorem RN(x:Ŀ Za):∀l,l.Pairwise (λa b=>ë a b<=0)->(zH x l).Pairwise (λa b=>ë a b<=0)
 |[],_=>ū _ _
 |y::l,h=>by
  unfold zH;obtain⟨d,h2⟩:=Į.1 h;have n:=qz x y;split
  .refine Į.2 ⟨λz c=>?_,RN x l h2⟩;rcases Ď.1 ((Lp x l).mem_iff.1 c)with rfl|c
   .omega
   exact d z c
  refine Į.2 ⟨λz c=>?_,h⟩;rcases Ď.1 c with rfl|c
  .omega
  exact(yH x y z ŉ (d z c)).1
theorem Kv:∀l,(jy l).Pairwise (λa b=>ë a b<=0)
 |[]=>List.Pairwise.nil
 |x::l=>RN x _ (Kv l)
theorem QQ:∀{l m:Ŀ (Ŀ Za)},l.Perm m->(∀p∈l,Ñ p=true)->l.Pairwise (λa b=>ë a b<=0)->m.Pairwise (λa b=>ë a b<=0)->l=m
 |[],m,h,_,_,_=>(List.Perm.nil_eq h)
 |x::l,[],h,_,_,_=>by have:=h.length_eq;simp at this
 |x::l,y::m,h,d,j,h2=>by
  obtain⟨a1,a2⟩:=Į.1 j;obtain⟨g,i⟩:=Į.1 h2;have e:x=y:=by
   have f:x∈y::m:=h.mem_iff.1 ß;have c:y∈x::l:=h.mem_iff.2 ß;have k:ë x y<=0:=by
    rcases Ď.1 c with rfl|c
    .rw[xn];exact Ŝ 0
    exact a1 y c
   have q:ë y x<=0:=by
    rcases Ď.1 f with rfl|f
    .rw[xn];exact Ŝ 0
    exact g x f
   have n:=qz x y;exact AS (d x ß) (d y c) ŉ
  subst e;rw[QQ (List.Perm.cons_inv h) (λp hp=>d p (by simp[hp])) a2 i]
theorem ZxL{s t:Za}(a:fo s.c=true)(c:fo t.c=true):(D1 s t).Α (fB s t):=by
 unfold D1 fB;by_cases h:s.m=t.m
 .rw[ą h];exact Cq.wp.no (by simpa using h) ⟨_,Tz a c,rfl⟩
 rw[ā h];exact Cq.wp.yes h ⟨_,I8 _ _,rfl⟩
theorem tx{p:Ŀ Za}(h:Ñ p=true){k:Nat}(a:k<p.length):fo p[k].c=true:=by unfold Ñ at h;simp only[ĉ]at h;exact Ć.1 h.2 _ (Ă a)
theorem vn{p:Ŀ Za}(h:Ñ p=true):p.length<=1000:=by unfold Ñ at h;simp only[ĉ,Ę]at h;exact h.1
theorem Fb(p q:Ŀ Za){k:Nat}(hp:k<p.length)(a:k<q.length):ë (p.drop k) (q.drop k)=if fB p[k] q[k]=0 then ë (p.drop (k+1)) (q.drop (k+1))else fB p[k] q[k]:=by rw[ĭ hp,ĭ a];rfl
theorem S6{p q:Ŀ Za}(hp:Ñ p=true)(g:Ñ q=true):(D6 p q).Α (ë p q):=by
 have j:=vn hp;have l:=vn g;refine⟨ë p q,?_,rfl⟩;unfold ZB;refine(ZI p q 0).mono (p:=λo=>match o with|.inl v=>v=ë p q|.inr ()=>q.length ≥ p.length/\ë p q=ë [] (q.drop p.length)) (λo h=>?_) (Cq.Zn p.length (λk s=>s=(k:Int)/\k<=p.length/\k<=q.length/\ë p q=ë (p.drop k) (q.drop k)) ?_ ?_ ⟨rfl,Ĝ _,Ĝ _,rfl⟩)
 .match o,h with
  |.inl v,h=>exact h
  |.inr (),⟨f,h2⟩=>
   show(Zz p q).Α _;unfold Zz;by_cases i:p.length<q.length
   .refine Cq.wp.yes ŉ ?_;show(-1:Int)=_;rw[h2,ĭ i];rfl
   refine Cq.wp.no ŉ ?_;show(0:Int)=_;rw[h2,Ķ ŉ];rfl
 .rintro k s d ⟨rfl,f,h2,h3⟩;refine Cq.wp.yes ŉ ⟨_,Μ d,?_⟩;by_cases a:k<q.length
  .refine Cq.wp.no ŉ ⟨_,Μ a,_,ZxL (tx hp d) (tx g a),?_⟩;have c:=Fb p q d a;by_cases e:fB p[k] q[k]=0
   .rw[ą e]at c;refine Cq.wp.no ŉ ?_;exact⟨ψ ŉ,ŉ,ŉ,h3.trans c⟩
   rw[ā e]at c;refine Cq.wp.yes e ?_;exact(h3.trans c).symm
  refine Cq.wp.yes ŉ ?_;show(1:Int)=_;rw[h3,ĭ d,Ķ (show q.length<=k by omega)];rfl
 rintro s ⟨rfl,f,h2,h3⟩;refine Cq.wp.no ŉ ?_;refine⟨h2,?_⟩;rw[h3,Ķ (Ĉ _)]
theorem SA(y:Ŀ Za):∀(x:Ŀ Za) (l:Ŀ (Ŀ Za)),jO x (l++[y])=jO x l++(if ë y (l.getLastD x)=0 then[]else[y])
 |x,[]=>by
  show jO x [y]=_;unfold jO;by_cases h:ë y x=0
  .rw[ą h];simp[h,jO]
  rw[ā h];simp[h,jO]
 |x,z::l=>by
  have a:=SA y z l;show jO x (z::(l++[y]))=_;have e:(z::l).getLastD x=l.getLastD z:=by cases l<;>simp[List.getLastD]
  rw[e];simp only[jO];split
  .exact a
  rw[a];rfl
theorem SB{xs:Ŀ (Ŀ Za)}{j:Nat}(c:1<=j)(a:j<xs.length):gh (xs.take (j+1))=if ë xs[j] xs[j-1]=0 then gh (xs.take j)else gh (xs.take j)++[xs[j]]:=by
 match xs,a with
 |x::l,a=>
  obtain⟨i,rfl⟩:∃i,j=i+1:=⟨j-1,ŉ⟩;have hi:i<l.length:=by simpa using a
  rw[ċ a];simp only[List.take_succ_cons,ĸ,gh,SA,x6,Nat.add_sub_cancel];have e:(l.take i).getLastD x=(x::l)[i]:=by
   cases i with
   |zero=>rfl
   |succ i=>
    rw[List.getLastD_eq_getLast?,List.getLast?_eq_getElem?,č];rw[show min (i+1) l.length-1=i by omega,Ŵ ŉ,Ą ŉ];rfl
  rw[e];split<;>simp
theorem TJ:∀{xs:Ŀ (Ŀ Za)},(gh xs).length<=xs.length
 |[]=>Ĉ _
 |x::l=>by
  have key:∀(x:Ŀ Za) (l:Ŀ (Ŀ Za)),(jO x l).length<=l.length:=by
   intro x l;induction l generalizing x with
   |nil=>exact Ĉ _
   |cons y l a=>
    unfold jO;split
    .exact aax (a y)
    simpa using a y
  simpa[gh]using key x l
theorem RJ{xs:Ŀ (Ŀ Za)}(h:xs.length<2):gh xs=xs:=by
 match xs,h with
 |[],_=>rfl
 |[x],_=>rfl
theorem Zv5{s t:Za}(a:fo s.c=true)(c:fo t.c=true):(D0 s t).Α (decide (fB s t=0)):=by
 unfold D0 fB;by_cases h:s.m=t.m
 .simp only[ą h];exact⟨_,Tz a c,rfl⟩
 simp only[ā h];show false=_;have:¬Û s.m t.m=0:=λe=>h (ud e);simp[this]
theorem LH:∀{p q:Ŀ Za},ë p q=0->p.length=q.length
 |[],[],_=>rfl
 |[],_::_,h=>by simp[ë]at h
 |_::_,[],h=>by simp[ë]at h
 |s::p,t::q,h=>by
  simp only[ë]at h;split at h
  .simp[LH h]
  rename_i h';exact absurd h h'
theorem E4{p q:Ŀ Za}(hp:Ñ p=true)(f:Ñ q=true):(ZU p q).Α (decide (ë p q=0)):=by
 have j:=vn hp;have l:=vn f;refine⟨decide (ë p q=0),?_,rfl⟩;unfold ZC;by_cases i:p.length=q.length
 .refine Cq.wp.no ŉ ?_;refine(ZJ p q 0).mono (p:=λo=>match o with|.inl v=>v=decide (ë p q=0)|.inr ()=>ë p q=0) (λo h=>?_) (Cq.Zn p.length (λk s=>s=(k:Int)/\k<=p.length/\ë p q=ë (p.drop k) (q.drop k)) ?_ ?_ ⟨rfl,Ĝ _,rfl⟩)
  .match o,h with
   |.inl v,h=>exact h
   |.inr (),h=>show true=_;rw[ă h]
  .rintro k s d ⟨rfl,g,h3⟩;have a:k<q.length:=ŉ;refine Cq.wp.yes ŉ ⟨_,Μ d,_,Μ a,_,Zv5 (tx hp d) (tx f a),?_⟩;have c:=Fb p q d a;by_cases e:fB p[k] q[k]=0
   .rw[ą e]at c;rw[ă e];exact⟨ψ ŉ,ŉ,h3.trans c⟩
   rw[ā e]at c;rw[Ċ e];show false=_;rw[h3,c,Ċ e]
  rintro s ⟨rfl,g,h3⟩;refine Cq.wp.no ŉ ?_;show ë p q=0;rw[h3,Ķ (Ĉ _),Ķ ŉ];rfl
 refine Cq.wp.yes ŉ ?_;show false=_;rw[Ċ (λh=>i (LH h))]
theorem ZxX:(á 0 100 λn=>match(tR (u64.wrap n)).ev 30 with|some v=>decide (0<=v/\v<1000000)|none=>false)=true:=by decide +kernel
theorem TF{n:Nat}(h:n<=100):∃v,(tR (u64.wrap (n:Int))).Α v/\0<=v/\v<1000000:=by
 have:=Zq ZxX (show(0:Int)<=(n:Int) by omega) (show(n:Int)<=100 by omega);cases a:(tR (u64.wrap (n:Int))).ev 30 with
 |none=>rw[a]at this;cases this
 |some v=>rw[a]at this;exact⟨v,Cq.Α.me 30 a,ĥ this⟩
end Go.EL

namespace Go.EL
open Go.IntKind (i8 i16 i32 i64 u8 u16 u32 u64)
open Go Go.RowKit
structure iu (t:Za):Prop where
 c:∃c:Int,t.c=û c/\c≠0/\-12<=c/\c<=12
 m:Ok t.m
structure ω (p:Ŀ Za):Prop where
 ord:p.Pairwise λx y=>0<Û x.m y.m
 th:∀t∈p,iu t
 len:p.length<=100
theorem iu.rv{t:Za}(h:iu t):(ub t.c).Α true:=by obtain⟨⟨c,e,a,d,h2⟩,_⟩:=h;have:=Zq Zxz (x:=c) ŉ ŉ;rw[e];exact Zr (by simpa[a]using this)
theorem iu.rs{t:Za}(h:iu t):∃s,(oy t.c).Α s/\s≠0:=by obtain⟨⟨c,e,a,d,h2⟩,_⟩:=h;have:=Zq FX (x:=c) ŉ ŉ;rw[e];exact⟨_,Zr this,by split<;>omega⟩
theorem iu.pv{t:Za}(h:iu t):(ZZ t.c).Α true:=by obtain⟨⟨c,e,a,d,h2⟩,_⟩:=h;have:=Zq ZvJ (x:=c) ŉ ŉ;rw[e];exact Zr (by simpa[a]using this)
theorem iu.ps{t:Za}(h:iu t):∃s,(ZH t.c).Α s/\s≠0:=by
 obtain⟨⟨c,e,a,d,h2⟩,_⟩:=h;have:=Zq Si (x:=c) ŉ ŉ;rw[e];refine⟨_,Zr (by simpa[a]using this),?_⟩;split<;>first|omega|(split<;>omega)
theorem ω.at{p:Ŀ Za}(h:ω p){k:Nat}(a:k<p.length):iu p[k]:=h.th _ (Ă a)
theorem ω.step{p:Ŀ Za}(h:ω p){k:Nat}(a:k+1<p.length):0<Û p[k].m p[k+1].m:=Ħ.1 h.ord k (k+1) ŉ a ŉ
theorem Ah{p:Ŀ Za}(h:ω p):(AM p).Α true:=by
 have i:=h.len;refine Cq.Zn p.length (λk s=>s=(k:Int)) (λk s a c=>?_) (λs c=>?_) rfl
 .subst c;have d:=h.at a;obtain⟨s,e,h2⟩:=d.rs;rw[Cq.Zm,ą ŉ];refine⟨p[k],Μ a,true,d.rv,p[k],Μ a,s,e,?_⟩;rw[Cq.Zm,ā h2];refine⟨p[k],Μ a,true,PW d.m,?_⟩;rw[Cq.Zm,ā ĳ];show(JS p (k:Int)).wp _;unfold JS;rw[Cq.Zm];split
  .rename_i g;obtain⟨j,rfl⟩:∃j,k=j+1:=⟨k-1,ŉ⟩;have f:i64.wrap (((j+1:Nat):Int)-1)=(j:Int):=by rw[wrap64 ŉ];omega
   rw[f];refine⟨p[j],Μ ŉ,p[j+1],Μ a,_,Ap _ _,?_⟩;have:=h.step a;rw[Cq.Zm,ā ŉ];exact ψ ŉ
  exact ψ ŉ
 subst c;rw[Cq.Zm,ā ŉ];rfl
theorem DS{p:Ŀ Za}(h:ω p):(Ae p).Α true:=by
 have i:=h.len;refine Cq.Zn p.length (λk s=>s=(k:Int)) (λk s a c=>?_) (λs c=>?_) rfl
 .subst c;have d:=h.at a;obtain⟨s,e,h2⟩:=d.ps;refine Cq.wp.yes (p:=(k:Int)<(p.length:Int)) ŉ ?_;refine⟨p[k],Μ a,true,d.pv,s,e,?_⟩;rw[Cq.Zm,ā h2];refine⟨true,Sm d.m,?_⟩;rw[Cq.Zm,ā ĳ];show(I4 p (k:Int) p[k]).wp _;unfold I4;rw[Cq.Zm];split
  .rename_i g;obtain⟨j,rfl⟩:∃j,k=j+1:=⟨k-1,ŉ⟩;have f:i64.wrap (((j+1:Nat):Int)-1)=(j:Int):=by rw[wrap64 ŉ];omega
   rw[f];refine⟨p[j],Μ ŉ,_,I8 _ _,?_⟩;have:=h.step a;rw[Cq.Zm,ā ŉ];exact ψ ŉ
  exact ψ ŉ
 subst c;refine Cq.wp.no (p:=((p.length:Nat):Int)<(p.length:Int)) ŉ ?_;rfl
def hV(p:Ŀ Za):Nat->Int
 |0=>0
 |k+1=>u8.wrap (BitVec.ofInt u8.bits (hV p k) ||| BitVec.ofInt u8.bits (match p[k]? with|some t=>jD t.m|none=>0)).toNat
def ï(p:Ŀ Za):Int:=hV p p.length
def fH(p:Ŀ Za):Nat->Int
 |0=>-1
 |k+1=>match p[k]? with|some t=>if fH p k<fG t.m then fG t.m else fH p k|none=>fH p k
def gi(p:Ŀ Za):Int:=fH p p.length
theorem Af{p:Ŀ Za}(d:p.length<=100):(A6 p).Α (ï p):=by
 refine Cq.Zn p.length (λk s=>s=(hV p k,(k:Int))) (λk s c a=>?_) (λs a=>?_) rfl
 .subst a;refine Cq.wp.yes (p:=(k:Int)<(p.length:Int)) ŉ ?_;refine⟨p[k],Μ c,_,ZmB _,?_⟩;show _=_;rw[ψ ŉ];simp only[hV,Ą c]
 subst a;refine Cq.wp.no (p:=((p.length:Nat):Int)<(p.length:Int)) ŉ ?_;rfl
theorem FA{p:Ŀ Za}(d:p.length<=100):(Al p).Α (ï p):=by
 refine Cq.Zn p.length (λk s=>s=(hV p k,(k:Int))) (λk s c a=>?_) (λs a=>?_) rfl
 .subst a;refine Cq.wp.yes (p:=(k:Int)<(p.length:Int)) ŉ ?_;refine⟨p[k],Μ c,_,Ztr _,?_⟩;show _=_;rw[ψ ŉ];simp only[hV,Ą c]
 subst a;refine Cq.wp.no (p:=((p.length:Nat):Int)<(p.length:Int)) ŉ ?_;rfl
theorem wU{p:Ŀ Za}(h:ω p):(wW p).Α (gi p):=by
 have d:=h.len;refine Cq.Zn p.length (λk s=>s=(fH p k,(k:Int))) (λk s a c=>?_) (λs c=>?_) rfl
 .subst c;refine Cq.wp.yes (p:=(k:Int)<(p.length:Int)) ŉ ?_;refine⟨p[k],Μ a,_,ZnJ (h.at a).m,?_⟩;show _=_;rw[ψ ŉ];simp only[fH,Ą a]
 subst c;refine Cq.wp.no (p:=((p.length:Nat):Int)<(p.length:Int)) ŉ ?_;rfl
theorem yz{p:Ŀ Za}(h:ω p):(wR p).Α (gi p):=by
 have d:=h.len;refine Cq.Zn p.length (λk s=>s=(fH p k,(k:Int))) (λk s a c=>?_) (λs c=>?_) rfl
 .subst c;refine Cq.wp.yes (p:=(k:Int)<(p.length:Int)) ŉ ?_;refine⟨p[k],Μ a,_,ZuK (h.at a).m,?_⟩;show _=_;rw[ψ ŉ];simp only[fH,Ą a]
 subst c;refine Cq.wp.no (p:=((p.length:Nat):Int)<(p.length:Int)) ŉ ?_;rfl
end Go.EL

namespace Go.EL
open Go.IntKind (i8 i16 i32 i64 u8 u16 u32 u64)
open Go Go.RowKit
def Ð(p:Ŀ Za)(n:Int):Bool:=if(Int.fdiv (i64.wrap (ï p)) (2 ^ (min (n).toNat i64.bits)))=0 then decide (gi p<=12)else false
theorem Znv{p:Ŀ Za}(h:ω p){n:Int}(a:0<=n):(Kx p n).Α (Ð p n):=by
 refine⟨true,DS h,_,FA h.len,a,?_⟩;unfold Ð;rw[Cq.Zm];split
 .exact⟨_,yz h,rfl⟩
 rfl
theorem R6(a:M):∀k:Nat,k<=8->∀i:Fin 8,(Ú a k).toNat.testBit i.val=(decide (i.val<k)&&decide (0<a i))
 |0,_,i=>by simp[Ú]
 |k+1,g,i=>by
  have f:=R6 a k ŉ i;have c:=A0 a k;have il:k<8:=ŉ;rw[ze]at c;simp only[Ú,ŷ il];by_cases hi:i.val=k
  .have e:i=⟨k,il⟩:=abg hi;subst e;by_cases hp:0<a ⟨k,il⟩
   .rw[ą hp,ze,show(Ú a k+((2 ^ k:Nat):Int)).toNat=2 ^ k+(Ú a k).toNat by omega,Nat.testBit_two_pow_add_eq,dO ŉ];simp[hp]
   rw[ā hp,aaB];show(Ú a k).toNat.testBit k=_;rw[dO ŉ];simp[hp]
  have d:(decide (i.val<k+1))=decide (i.val<k):=by
   by_cases h:i.val<k
   .simp[h,show i.val<k+1 by omega]
   simp[h,show ¬i.val<k+1 by omega]
  rw[d,<-f];by_cases hp:0<a ⟨k,il⟩
  .rw[ą hp,ze,show(Ú a k+((2 ^ k:Nat):Int)).toNat=2 ^ k+(Ú a k).toNat by omega];by_cases h:i.val<k
   .rw[Nat.testBit_two_pow_add_gt h]
   rw[dO (x:=(Ú a k).toNat) (aao (by omega:(Ú a k).toNat<2 ^ k) (aaP ŉ ŉ))];refine dO (aao (by have:=c.2;omega:2 ^ k+(Ú a k).toNat<2 ^ (k+1)) (aaP ŉ ŉ))
  rw[ā hp,aaB]
theorem Zxv(a:M)(i:Fin 8):(jD a).toNat.testBit i.val=decide (0<a i):=by unfold jD;rw[R6 a 8 ŉ];simp[i.isLt]
theorem T8(a:M):0<=jD a/\jD a<256:=A0 a 8
theorem VK{a b:Nat}(c:a<256)(d:b<256):u8.wrap (BitVec.ofInt u8.bits (a:Int) ||| BitVec.ofInt u8.bits (b:Int)).toNat=((a ||| b:Nat):Int):=by
 have h:(BitVec.ofInt u8.bits (a:Int) ||| BitVec.ofInt u8.bits (b:Int)).toNat=a ||| b:=by rw[BitVec.toNat_or];simp only[IntKind.bits,BitVec.toNat_ofInt];rw[show(((a:Int) % ((2 ^ 8:Nat):Int)).toNat)=a by omega,show(((b:Int) % ((2 ^ 8:Nat):Int)).toNat)=b by omega]
 have h2:a ||| b<256:=Nat.or_lt_two_pow (n:=8) c d
 rw[h];simp only[IntKind.wrap,IntKind.bits,IntKind.signed,Ŷ,Ś,aaM];omega
def jF(p:Ŀ Za):Nat->Nat
 |0=>0
 |k+1=>jF p k ||| (match p[k]? with|some t=>(jD t.m).toNat|none=>0)
theorem L3(p:Ŀ Za):∀k,jF p k<256
 |0=>by simp[jF]
 |k+1=>by
  refine Nat.or_lt_two_pow (n:=8) (L3 p k) ?_;split
  .rename_i t _;have h:(jD t.m).toNat<256:=by have:=T8 t.m;omega
   exact h
  decide
theorem R8(p:Ŀ Za):∀k,hV p k=(jF p k:Int)
 |0=>rfl
 |k+1=>by
  have a:=L3 p k;unfold hV jF;rw[R8 p k];cases p[k]? with
  |none=>exact VK (b:=0) a ŉ
  |some t=>
   have h:=T8 t.m;obtain⟨n,c⟩:=aat h.1;show u8.wrap (BitVec.ofInt u8.bits (jF p k:Int) ||| BitVec.ofInt u8.bits (jD t.m)).toNat=((jF p k ||| (jD t.m).toNat:Nat):Int);rw[c];exact VK a ŉ
theorem S1(p:Ŀ Za)(i:Fin 8):∀k,(jF p k).testBit i.val=(p.take k).any λt=>decide (0<t.m i)
 |0=>by simp[jF]
 |k+1=>by
  simp only[jF,Nat.testBit_or,S1 p i k];cases h:p[k]? with
  |none=>
   have:p.length<=k:=aah.1 h;simp[ě this,ě (show p.length<=k+1 by omega)]
  |some t=>
   rw[List.take_add_one,h];simp[Zxv]
theorem S3(p:Ŀ Za):ï p=(jF p p.length:Int):=R8 p _
theorem S2(p:Ŀ Za)(i:Fin 8):(ï p).toNat.testBit i.val=p.any λt=>decide (0<t.m i):=by rw[S3,Ē,S1,Ĥ]
theorem ua(p:Ŀ Za):0<=ï p/\ï p<256:=by have:=L3 p p.length;rw[S3];omega
theorem Zx5(u n:Nat):Int.fdiv (u:Int) ((2:Int) ^ n)=((u >>> n:Nat):Int):=by rw[ů,show((2:Int) ^ n)=((2 ^ n:Nat):Int) by simp,aaf _ (Int.natCast_nonneg _)];simp
theorem ZvL(p:Ŀ Za){n:Int}(c:0<=n)(d:n<=8):Int.fdiv (i64.wrap (ï p)) (2 ^ (min (n).toNat i64.bits))=(((ï p).toNat >>> n.toNat:Nat):Int):=by have:=ua p;rw[wrap64 ŉ,show min n.toNat i64.bits=n.toNat by simp only[IntKind.bits];omega];obtain⟨u,a⟩:=aat this.1;rw[a];exact Zx5 u _
theorem SC(p:Ŀ Za)(d:Int)(c:-1<=d):∀k,k<=p.length->(fH p k<=d↔∀i (h:i<p.length),i<k->fG p[i].m<=d)
 |0,_=>by simp[fH,c]
 |k+1,j=>by
  have f:=SC p d c k ŉ;have il:k<p.length:=ŉ;simp only[fH,Ą il];constructor
  .intro h i hi a;by_cases e:i=k
   .subst e;split at h<;>omega
   refine f.1 ?_ i hi ŉ;split at h<;>omega
  intro h;have g:=h k il ŉ;have h2:=f.2 λi hi a=>h i hi ŉ;split<;>omega
theorem tw{p:Ŀ Za}{d:Int}(a:-1<=d):gi p<=d↔∀t∈p,fG t.m<=d:=by
 unfold gi;rw[SC p d a p.length ŉ];constructor
 .intro h t c;obtain⟨i,hi,rfl⟩:=ķ.1 c;exact h i hi hi
 intro h i hi _;exact h _ (Ă hi)
def lB(n:Nat)(p:Ŀ Za):Prop:=∀t∈p,∀i:Fin 8,n<=i.val->¬0<t.m i
theorem yD{p:Ŀ Za}{n:Nat}:((ï p).toNat >>> n=0)↔lB n p:=by
 have e:=ua p;constructor
 .intro h t a i hi hp;have c:=S2 p i;rw[show(p.any λt=>decide (0<t.m i))=true from Ű.2 ⟨t,a,ă hp⟩]at c;have h2:((ï p).toNat >>> n).testBit (i.val-n)=true:=by rw[Nat.testBit_shiftRight,show n+(i.val-n)=i.val by omega];exact c
  rw[h]at h2;simp at h2
 intro h;refine Nat.eq_of_testBit_eq λj=>?_;rw[Nat.testBit_shiftRight,Nat.zero_testBit];by_cases d:n+j<8
 .rw[S2 p ⟨n+j,d⟩];refine List.any_eq_false.2 λt a=>?_;simp only[Ę];exact h t a _ ß
 exact dO (aao (show(ï p).toNat<2 ^ 8 by omega) (aaP ŉ ŉ))
theorem pr{p:Ŀ Za}{n:Nat}(a:n<=8):Ð p (n:Int)=true↔lB n p/\∀t∈p,fG t.m<=12:=by
 unfold Ð;rw[ZvL p ŉ ŉ,Ē];by_cases h:(ï p).toNat >>> n=0
 .rw[ą (by rw[h];rfl),Ę,tw ŉ];exact⟨λk=>⟨yD.1 h,k⟩,λk=>k.2⟩
 rw[ā ŉ];exact⟨λk=>absurd k ĳ,λk=>absurd (yD.2 k.1) h⟩
end Go.EL

namespace Go.EL
open Go.IntKind (i8 i16 i32 i64 u8 u16 u32 u64)
open Go Go.RowKit
def jk(r:Zf):Int:=if r.num.neg=true then -(r.num.χ.headD 0)else r.num.χ.headD 0
theorem Li(c:Int):jk (û c)=c:=by
 unfold jk û;by_cases h:c<0
 .simp[h,show ¬c=0 by omega];omega
 by_cases a:c=0
 .simp[a]
 simp[h,a];omega
def gd:Ŀ Za->Za->Ŀ Za
 |[],t=>[t]
 |x::xs,t=>if 0<Û x.m t.m then x::gd xs t else if Û x.m t.m<0 then t::x::xs else if jk x.c+jk t.c=0 then xs else⟨û (jk x.c+jk t.c),x.m⟩::xs
theorem Q4:∀(p:Ŀ Za) (t:Za),(gd p t).length<=p.length+1
 |[],_=>by simp[gd]
 |x::xs,t=>by
  have a:=Q4 xs t;simp only[gd];split
  .simp;omega
  split
  .simp
  split<;>simp;omega
theorem KV:∀(k:Nat) (p:Ŀ Za) (t:Za),k<=p.length->(∀x∈p.take k,0<Û x.m t.m)->gd p t=p.take k++gd (p.drop k) t
 |0,p,t,_,_=>by simp
 |k+1,[],t,h,_=>by simp at h
 |k+1,x::xs,t,h,a=>by have c:0<Û x.m t.m:=a x ß;rw[gd,ą c,KV k xs t (by simpa using h) (λy d=>a y (by simp[d]))];simp
def wK(p:Ŀ Za)(t:Za):Prop:=∀x∈p,x.m=t.m->∃a b,x.c=û a/\t.c=û b/\-12<=a/\a<=12/\-3<=b/\b<=3
theorem Zyg{p:Ŀ Za}{t x:Za}(h:wK p t)(i:x∈p)(g:x.m=t.m):(vy x.c t.c).Α (û (jk x.c+jk t.c))/\∃s,(oy (û (jk x.c+jk t.c))).Α s/\(s=0↔jk x.c+jk t.c=0):=by
 obtain⟨a,b,c,d,e,h2,h3,f⟩:=h x i g;rw[c,d,Li,Li];have j:=Zq (Zq Zze e h2) h3 f;have k2:=Zq FX (x:=a+b) ŉ ŉ;refine⟨Zr j,_,Zr k2,?_⟩;split
 .omega
 split<;>omega
theorem ZsY{p:Ŀ Za}(d:p.length<=100):(Bg p []).Α p:=by
 show(Cq.next _ _).wp _;refine Cq.Zn p.length (λk s=>s=(p.take k,(k:Int),0)) (λk s c a=>?_) (λs a=>?_) ß
 .subst a;refine Cq.wp.yes (p:=(k:Int)<(p.length:Int)) ŉ ?_;unfold wV;rw[Cq.Zm,ą ß];unfold vp;rw[Cq.Zm,ą rfl];refine⟨p[k],Μ c,by simp[small];omega,?_⟩;show _=_;rw[ψ ŉ,Ţ c]
 subst a;show(if((p.length:Nat):Int)<(p.length:Int)then _ else _:Cq _).wp _;rw[Cq.Zm,ā ŉ,Cq.Zm,ā ß];exact Ĥ
theorem QB{p:Ŀ Za}{t:Za}(y:p.length<=100)(u:wK p t):(Bg p [t]).Α (gd p t):=by
 show(Cq.next _ _).wp _;refine Cq.Lr (λs=>(∃i:Nat,i<=p.length/\s=(p.take i,(i:Int),0)/\∀x∈p.take i,0<Û x.m t.m)\/(∃i:Nat,∃f:Ŀ Za,i<=p.length/\s=(f,(i:Int),1)/\f++p.drop i=gd p t/\f.length<=i+1))
  (λs=>(p.length-s.2.1.toNat)+(1-s.2.2.toNat)) (λs v=>?_) _ (.inl ⟨0,ŉ,ß,ß⟩)
 have m:i64.wrap 1=1:=ĳ;rcases v with ⟨i,hi,rfl,k⟩|⟨i,f,hi,rfl,l,q⟩
 .by_cases a:i<p.length
  .refine Cq.wp.yes (p:=(i:Int)<(p.length:Int)) ŉ ?_;unfold wV;rw[Cq.Zm,ā ß,Cq.Zm,ą ŉ];refine⟨p[i],Μ a,t,⟨ŉ,rfl⟩,_,Ap _ _,?_⟩;unfold vp;rw[Cq.Zm];have d:gd p t=p.take i++gd (p.drop i) t:=KV i p t hi k;have c:p.drop i=p[i]::p.drop (i+1):=ĭ a;by_cases g:0<Û p[i].m t.m
   .rw[ą (ă g)];refine⟨p[i],Μ a,by simp[small];omega,?_⟩;rw[ψ ŉ,Ţ a];refine⟨.inl ⟨i+1,ŉ,rfl,λx pS=>?_⟩,ab0⟩;rw[<-Ţ a]at pS;rcases Ĩ.1 pS with h|h
    .exact k x h
    rw[Ĕ]at h;subst h;exact g
   rw[ā (by simpa using g)];show(AA p [t] 0 (p.take i) (i:Int)).wp _;unfold AA;rw[Cq.Zm,ā ŉ];refine⟨p[i],Μ a,t,⟨ŉ,rfl⟩,_,Ap _ _,?_⟩;unfold Az;rw[Cq.Zm];by_cases e:Û p[i].m t.m<0
   .rw[ą (ă e)];refine⟨t,⟨ŉ,rfl⟩,by simp[small];omega,?_⟩;refine⟨.inr ⟨i,_,hi,rfl,?_,ab0⟩,by simp[m]⟩;rw[d,c,gd,ā g,ą e];simp
   rw[ā (by simpa using e)];have r:p[i].m=t.m:=ud ŉ;obtain⟨n,s,h2,h3⟩:=Zyg u (Ă a) r;unfold Kq;refine⟨p[i],Μ a,t,⟨ŉ,rfl⟩,_,n,s,h2,?_⟩;rw[Cq.Zm];by_cases j:jk p[i].c+jk t.c=0
   .rw[ā (by simpa using h3.2 j)];rw[ψ ŉ];refine⟨.inr ⟨i+1,_,ŉ,rfl,?_,ab0⟩,ab0⟩;rw[d,c,gd,ā g,ā e,ą j]
   rw[ą (λh=>j (h3.1 h))];refine⟨p[i],Μ a,by simp[small];omega,?_⟩;rw[ψ ŉ];refine⟨.inr ⟨i+1,_,ŉ,rfl,?_,ab0⟩,ab0⟩;rw[d,c,gd,ā g,ā e,ā j];simp
  obtain rfl:i=p.length:=ŉ;show(if((p.length:Nat):Int)<(p.length:Int)then _ else _:Cq _).wp _;rw[Cq.Zm,ā ŉ,Cq.Zm,ą ß];unfold wV;rw[Cq.Zm,ā ß,Cq.Zm,ā ŉ];unfold vp;rw[Cq.Zm,ā ĳ];unfold AA;rw[Cq.Zm,ą rfl];unfold Az;rw[Cq.Zm,ą rfl];refine⟨t,⟨ŉ,rfl⟩,by simp[small];omega,?_⟩;refine⟨.inr ⟨p.length,_,ŉ,rfl,?_,ß⟩,by simp[m]⟩;rw[KV p.length p t ŉ k,aag];simp[gd]
 by_cases a:i<p.length
 .refine Cq.wp.yes (p:=(i:Int)<(p.length:Int)) ŉ ?_;unfold wV;rw[Cq.Zm,ą ß];unfold vp;rw[Cq.Zm,ą rfl];refine⟨p[i],Μ a,by simp[small];omega,?_⟩;rw[ψ ŉ];refine⟨.inr ⟨i+1,_,ŉ,rfl,?_,ab0⟩,ab0⟩;rw[<-l,ĭ a];simp
 obtain rfl:i=p.length:=ŉ;show(if((p.length:Nat):Int)<(p.length:Int)then _ else _:Cq _).wp _;rw[Cq.Zm,ā ŉ,Cq.Zm,ā ß];show _=_;rw[<-l,aag,ę]
end Go.EL

namespace Go.EL
open Go.IntKind (i8 i16 i32 i64 u8 u16 u32 u64)
open Go Go.RowKit
structure Ì (π:M):Prop where
 ou:∀i,0<=π i/\π i<8
 inj:∀i j,π i=π j->i=j
def ef(π m:M):Nat->M
 |0=>λ_=>0
 |k+1=>if h:k<8 then ζ (ef π m k) (π ⟨k,h⟩).toNat (m ⟨k,h⟩)else ef π m k
def fx(π m:M):M:=ef π m 8
theorem SN{π:M}(h:Ì π)(m:M):∀k,k<=8->∀i:Fin 8,i.val<k->∀j:Fin 8,(j.val:Int)=π i->ef π m k j=m i
 |0,_,i,hi,_,_=>by omega
 |k+1,f,i,hi,j,c=>by
  have il:k<8:=ŉ;simp only[ef,ŷ il,ζ];have r:=h.ou ⟨k,il⟩;by_cases e:i.val=k
  .have:i=⟨k,il⟩:=abg e;subst this;rw[ą ŉ]
  have d:π i≠π ⟨k,il⟩:=λa=>e (đ Fin.val (h.inj _ _ a));rw[ā ŉ];exact SN h m k ŉ i ŉ j c
theorem Rm{π:M}(h:Ì π)(m:M):∀k,k<=8->∀j:Fin 8,(∀i:Fin 8,i.val<k->π i≠(j.val:Int))->ef π m k j=0
 |0,_,_,_=>rfl
 |k+1,c,j,a=>by have il:k<8:=ŉ;have r:=h.ou ⟨k,il⟩;have:=a ⟨k,il⟩ ß;simp only[ef,ŷ il,ζ];rw[ā ŉ];exact Rm h m k ŉ j λi hi=>a i ŉ
theorem Lg{π m:M}(a:Ok m):∀k,Ok (ef π m k)
 |0=>λ_=>by simp[ef]
 |k+1=>λj=>by
  simp only[ef];split
  .rename_i c;simp only[ζ];split
   .exact a _
   exact Lg a k j
  exact Lg a k j
theorem TX{π m:M}(a:Ok m):Ok (fx π m):=Lg a 8
theorem tZ{π:M}(h:Ì π)(m:M)(i j:Fin 8)(a:(j.val:Int)=π i):fx π m j=m i:=SN h m 8 ŉ i i.isLt j a
theorem Lf{π:M}(h:Ì π){a b:M}(e:fx π a=fx π b):a=b:=by funext i;have r:=h.ou i;have c:=tZ h a i ⟨(π i).toNat,ŉ⟩ ab0;have h2:=tZ h b i ⟨(π i).toNat,ŉ⟩ ab0;rw[<-c,<-h2,e]
theorem K0(f:M)(x:Int)(q:Nat):∀k,k<=8->fC (ζ f q x) k=fC f k+(if h:q<8 then(if q<k then x-f ⟨q,h⟩else 0)else 0)
 |0,_=>by simp[fC]
 |k+1,d=>by
  have il:k<8:=ŉ;simp only[fC,ŷ il,K0 f x q k ŉ,ζ];by_cases e:k=q
  .subst e;simp[il];omega
  rw[ā e];by_cases a:q<8
  .simp only[ŷ a];by_cases c:q<k
   .rw[ą c,ą ŉ];omega
   rw[ā c,ā ŉ];omega
  simp only[dif_neg a];omega
theorem KZ{π:M}(h:Ì π)(m:M):fG (fx π m)=fG m:=by
 have key:∀k,k<=8->fG (ef π m k)=fC m k:=by
  intro k;induction k with
  |zero=>intro _;simp[ef,fG,fC]
  |succ k c=>
   intro e;have il:k<8:=ŉ;have r:=h.ou ⟨k,il⟩;have a:(π ⟨k,il⟩).toNat<8:=ŉ;simp only[ef,ŷ il,fC];unfold fG at c⊢;rw[K0 _ _ _ 8 ŉ,ŷ a,ą a,c ŉ];have:ef π m k ⟨(π ⟨k,il⟩).toNat,a⟩=0:=Rm h m k ŉ _ λi hi d=>by
    have:π i=π ⟨k,il⟩:=by simp at d;omega
    have:=đ Fin.val (h.inj _ _ this);simp at this;omega
   rw[this];omega
 exact key 8 ŉ
theorem Zxa{π:M}(h:Ì π)(x:Za):(O7 π x (0,λ_=>0)).Α (fx π x.m):=by
 refine Cq.Zn 8 (λk s=>s=((k:Int),ef π x.m k)) (λk s a c=>?_) (λs c=>?_) rfl
 .subst c;have r:=h.ou ⟨k,a⟩;refine Cq.wp.yes (p:=(k:Int)<8) ŉ ?_;refine⟨ŉ,ŉ,by rw[Ô a];exact r,?_⟩;show _=_;rw[ψ ŉ,Ô a,Ô a];simp only[ef,ŷ a]
 subst c;refine Cq.wp.no (p:=((8:Nat):Int)<8) ŉ ?_;rfl
theorem ZvB{π:M}(h:Ì π){p:Ŀ Za}{k:Nat}(d:k<p.length):(PC p π (k:Int) (0,λ_=>0)).Α (fx π p[k].m):=by
 refine Cq.Zn 8 (λj s=>s=((j:Int),ef π p[k].m j)) (λj s a c=>?_) (λs c=>?_) rfl
 .subst c;have r:=h.ou ⟨j,a⟩;refine Cq.wp.yes (p:=(j:Int)<8) ŉ ?_;refine⟨ŉ,p[k],Μ d,ŉ,by rw[Ô a];exact r,?_⟩;show _=_;rw[ψ ŉ,Ô a,Ô a];simp only[ef,ŷ a]
 subst c;refine Cq.wp.no (p:=((8:Nat):Int)<8) ŉ ?_;rfl
theorem Gb{π:M}(h:Ì π){k:Nat}(a:k<8){c:Fin 8->Bool}(d:∀j,c j=true->∃i:Fin 8,i.val<k/\(j.val:Int)=π i):¬Ε c (π ⟨k,a⟩)=true:=by
 have r:=h.ou ⟨k,a⟩;rw[y8 c (show(π ⟨k,a⟩).toNat<8 by omega)];intro e;obtain⟨i,f,h2⟩:=d _ e;have:π i=π ⟨k,a⟩:=by simp at h2;omega
 have:=đ Fin.val (h.inj _ _ this);simp at this;omega
theorem Fk{π:M}(h:Ì π){k:Nat}(c:k<8){d:Fin 8->Bool}(e:∀j,d j=true->∃i:Fin 8,i.val<k/\(j.val:Int)=π i):∀j,ζ d (π ⟨k,c⟩).toNat true j=true->∃i:Fin 8,i.val<k+1/\(j.val:Int)=π i:=by
 intro j a;have r:=h.ou ⟨k,c⟩;simp only[ζ]at a;split at a
 .exact⟨⟨k,c⟩,ß,ŉ⟩
 obtain⟨i,f,h2⟩:=e j a;exact⟨i,ŉ,h2⟩
theorem ZkS{π:M}(h:Ì π):(Jb π).Α true:=by
 show(Cq.next _ _).wp _;refine Cq.Zn 8 (λk s=>∃a:Fin 8->Bool,s=((k:Int),a)/\∀j,a j=true->∃i:Fin 8,i.val<k/\(j.val:Int)=π i) (λk s c e=>?_) (λs e=>?_) ⟨_,rfl,λj f=>by cases f⟩
 .obtain⟨a,rfl,d⟩:=e;have r:=h.ou ⟨k,c⟩;refine Cq.wp.yes (p:=(k:Int)<8) ŉ ?_;refine⟨ŉ,?_⟩;rw[Ô c,Cq.Zm,ā ŉ];refine⟨ŉ,?_⟩;rw[Cq.Zm,ā ŉ];refine⟨ŉ,r,?_⟩;rw[Cq.Zm,ā (Gb h c d)];refine⟨ŉ,r,?_⟩;rw[ψ ŉ];exact⟨_,rfl,Fk h c d⟩
 obtain⟨a,rfl,d⟩:=e;refine Cq.wp.no (p:=((8:Nat):Int)<8) ŉ ?_;rfl
end Go.EL

namespace Go.EL
open Go.IntKind (i8 i16 i32 i64 u8 u16 u32 u64)
open Go Go.RowKit
def jf(π:M)(t:Za):Za:=⟨t.c,fx π t.m⟩
def gA(π:M)(l:Ŀ Za):Ŀ Za:=l.foldl (λa t=>gd a (jf π t)) []
def à(π:M)(p:Ŀ Za):Ŀ Za:=gA π p
theorem ZxT{p:Ŀ Za}{t:Za}:(∀x∈p,x.m≠t.m)->(gd p t).Perm (t::p):=by
 induction p with
 |nil=>intro _;exact u1 _
 |cons x xs d=>
  intro h;have a:=h x ß;simp only[gd];split
  .exact ((d λy c=>h y (by simp[c])).cons x).trans (List.Perm.swap _ _ _)
  split
  .exact u1 _
  exact absurd (ud ŉ) a
theorem ZpI{a b c:M}(d:0<Û a b)(h2:0<Û b c):0<Û a c:=by have e:=tV a b;have k2:=tV b c;have k3:=tV a c;have:=JB (a:=c) (b:=b) (c:=a) ŉ ŉ (.inl ŉ);omega
abbrev jn(p:Ŀ Za):Prop:=p.Pairwise λx y=>0<Û x.m y.m
theorem Sp{p:Ŀ Za}{t:Za}:jn p->jn (gd p t)/\∀z,(∀x∈p,0<Û z x.m)->0<Û z t.m->∀y∈gd p t,0<Û z y.m:=by
 induction p with
 |nil=>intro _;exact⟨by simp[gd],λz _ h y a=>by simp[gd]at a;subst a;exact h⟩
 |cons x xs l=>
  intro g;obtain⟨e,h2⟩:=Į.1 g;obtain⟨k,i⟩:=l h2;simp only[gd];split
  .rename_i f;refine⟨Į.2 ⟨i _ e f,k⟩,λz c d y a=>?_⟩;rcases Ď.1 a with rfl|a
   .exact c _ ß
   exact i z (λw j=>c w (by simp[j])) d y a
  split
  .rename_i f;have nG:0<Û t.m x.m:=by have:=tV x.m t.m;omega
   refine⟨Į.2 ⟨λy a=>?_,g⟩,λz c d y a=>?_⟩
   .rcases Ď.1 a with rfl|a
    .exact nG
    exact ZpI nG (e y a)
   rcases Ď.1 a with rfl|a
   .exact d
   exact c y a
  split
  .exact⟨h2,λz c _ y a=>c y (by simp[a])⟩
  refine⟨Į.2 ⟨e,h2⟩,λz c _ y a=>?_⟩;rcases Ď.1 a with rfl|a
  .exact c x ß
  exact c y (by simp[a])
theorem QF(π:M)(l:Ŀ Za)(t:Za):gA π (l++[t])=gd (gA π l) (jf π t):=by simp[gA,abi]
theorem EK{p:Ŀ Za}(h:jn p):p.Pairwise λx y=>x.m≠y.m:=h.imp λhp e=>by rw[e,AR]at hp;omega
theorem KN{π:M}(h:Ì π){p:Ŀ Za}(d:jn p):∀k,k<=p.length->(gA π (p.take k)).Perm ((p.take k).map (jf π))/\jn (gA π (p.take k))
 |0,_=>by simp[gA]
 |k+1,l=>by
  obtain⟨c,h2⟩:=KN h d k ŉ;have il:k<p.length:=ŉ;rw[<-Ţ il,QF];refine⟨?_,(Sp h2).1⟩;have a:∀x∈gA π (p.take k),x.m≠(jf π p[k]).m:=by intro x g e;obtain⟨y,j,rfl⟩:=Ğ.1 (c.mem_iff.1 g);have f:=Lf h e;obtain⟨i,hi,rfl⟩:=ķ.1 j;simp only[č]at hi;rw[aae]at f;exact Ħ.1 (EK d) i k ŉ il ŉ f
  refine(ZxT a).trans ?_;rw[Ī];exact(c.cons _).trans (List.perm_append_comm (l₁:=[jf π p[k]]))
theorem q6{π:M}(h:Ì π){p:Ŀ Za}(a:jn p):(à π p).Perm (p.map (jf π))/\jn (à π p):=by have:=KN h a p.length ŉ;rwa [Ĥ]at this
theorem oB{π:M}(h:Ì π){p:Ŀ Za}(hp:ω p):ω (à π p):=by obtain⟨a,h2⟩:=q6 h hp.ord;refine⟨h2,λt d=>?_,by rw[a.length_eq,ć];exact hp.len⟩;obtain⟨y,c,rfl⟩:=Ğ.1 (a.mem_iff.1 d);exact⟨(hp.th y c).c,TX (hp.th y c).m⟩
theorem Jj{π:M}(h:Ì π){p:Ŀ Za}(hp:ω p):(Aq p π).Α (à π p,0):=by
 have l:=hp.len;refine⟨true,ZkS h,?_⟩;show(Cq.next _ _).wp _;refine Cq.Zn p.length (λk s=>s=(gA π (p.take k),(k:Int))) (λk s a c=>?_) (λs c=>?_) (by simp[gA])
 .subst c;obtain⟨d,h2⟩:=KN h hp.ord k ŉ;refine Cq.wp.yes (p:=(k:Int)<(p.length:Int)) ŉ ?_;refine(ZvB h a).then ?_;refine⟨p[k],Μ a,_,QB (by rw[d.length_eq,ć,č];omega) (λx g e=>?_),?_⟩
  .obtain⟨y,j,rfl⟩:=Ğ.1 (d.mem_iff.1 g);have f:=Lf h e;obtain⟨i,hi,rfl⟩:=ķ.1 j;simp only[č]at hi;rw[aae]at f;exact absurd f (Ħ.1 (EK hp.ord) i k ŉ a ŉ)
  show _=_;rw[ψ ŉ,<-Ţ a,QF];rfl
 subst c;refine Cq.wp.no (p:=((p.length:Nat):Int)<(p.length:Int)) ŉ ?_;show _=_;rw[Ĥ];rfl
end Go.EL

namespace Go.EL
open Go.IntKind (i8 i16 i32 i64 u8 u16 u32 u64)
open Go Go.RowKit
theorem ZzQ:(á 0 100 λn=>match(tR (u64.wrap n)).ev 30 with|some v=>decide (0<=v/\v<1000000)|none=>false)=true:=by decide +kernel
theorem ZzR{n:Nat}(h:n<=100):∃v,(tR (u64.wrap (n:Int))).Α v/\0<=v/\v<1000000:=by
 have:=Zq ZzQ (x:=(n:Int)) ŉ ŉ;split at this
 .rename_i v a;have:=ĥ this;exact⟨v,Cq.Α.me 30 a,this.1,this.2⟩
 cases this
theorem Zzo{p:Ŀ Za}(h:jn p){x y:Za}(d:x∈p)(f:y∈p)(e:x.m=y.m):x=y:=by
 obtain⟨i,hi,rfl⟩:=ķ.1 d;obtain⟨j,c,rfl⟩:=ķ.1 f;have key:=Ħ.1 (EK h);rcases aaw i j with a|a|a
 .exact absurd e (key i j hi c a)
 .subst a;rfl
 exact absurd e.symm (key j i c hi a)
theorem SD{p:Ŀ Za}(h:jn p):p.Pairwise λx y=>¬Û x.m y.m<0:=h.imp λhp=>by omega
theorem R5{p ys:Ŀ Za}(c:jn p)(hp:ys.Perm p)(f:ys.Pairwise λx y=>¬Û x.m y.m<0):ys=p:=
 abn (le:=λx y:Za=>¬Û x.m y.m<0) (λa b d e g h2=>by
  have:=tV a.m b.m;exact Zzo c (hp.mem_iff.1 d) e (ud ŉ)) f (SD c) hp
theorem Zrj{p l:Ŀ Za}(c:jn p)(f:p.length<=100)(hp:l.Perm p):(ZK l).Α p:=by have e:=hp.length_eq;obtain⟨v,a,h2,h3⟩:=ZzR (n:=l.length) ŉ;refine⟨v,a,p,?_,rfl⟩;refine⟨⟨rfl,rfl,⟨h2,h3⟩,ŉ⟩,λys ⟨d,k2⟩=>?_⟩;exact R5 c (d.trans hp) k2
def kQ(q:M×Zf):Za:=⟨q.2,q.1⟩
theorem ZvN{p:Ŀ Za}(hp:ω p){D:Ŀ (M×Zf)}(j:(D.map kQ).Perm p):(Jd D).Α p:=by
 have l:=hp.len;have e:=j.length_eq;rw[ć]at e;refine⟨⟨ŉ,ŉ⟩,?_⟩;show(Cq.next _ _).wp _;refine Cq.Lr (λs=>(s.1++s.2.map kQ).Perm p) (λs=>s.2.length) (λs d=>?_) _ (by simpa using j);obtain⟨rv,R⟩:=s;simp only at d;have c:=d.length_eq;simp only[Ā,ć]at c;refine⟨λi=>?_,λg q h i=>?_⟩
 .subst i;rw[ő,ę]at d;exact⟨_,Zrj hp.ord l d,rfl⟩
 subst i;have f:kQ q∈p:=d.mem_iff.1 ß;obtain⟨s,k,h2⟩:=(hp.th _ f).ps;refine⟨s,k,?_⟩;rw[Cq.Zm,ą h2];simp only[Ā,Ě]at c;refine⟨by simp[small];omega,?_,?_⟩
 .refine List.Perm.trans ?_ d;simp only[Ī,Ġ,Đ,List.singleton_append];refine List.Perm.append_left rv ?_;exact(List.perm_middle (a:=kQ q) (l₁:=g.map kQ) (l₂:=h.map kQ)).symm
 show(g++h).length<(g++q::h).length;simp
theorem ZBg{m:M}(h:Ok m):∀i,(Lit.int i64 (m i)).wf=true:=λi=>by have:=h i;simp only[Lit.wf,ĉ,Ę];exact⟨aaa ĳ this.1,aaa this.2 ĳ⟩
def sG(π:M)(t:Za):M×Zf:=(fx π t.m,t.c)
theorem Qu{π:M}(h:Ì π){p:Ŀ Za}(hp:ω p):(DZ p π).Α (à π p,0):=by
 have u:=hp.len;show(Cq.next _ _).wp _;refine Cq.Zn 8 (λk s=>∃f:Fin 8->Bool,s=((k:Int),f)/\∀j,f j=true->∃i:Fin 8,i.val<k/\(j.val:Int)=π i) (λk s a d=>?_) (λs d=>?_) ⟨_,rfl,λj m=>by cases m⟩
 .obtain⟨f,rfl,g⟩:=d;have r:=h.ou ⟨k,a⟩;refine Cq.wp.yes (p:=(k:Int)<8) ŉ ?_;refine⟨ŉ,?_⟩;rw[Ô a,Cq.Zm,ā ŉ,Cq.Zm,ā ŉ];refine⟨r,?_⟩;rw[Cq.Zm,ā (Gb h a g)];refine⟨r,?_⟩;rw[ψ ŉ];exact⟨_,rfl,Fk h a g⟩
 obtain⟨f,rfl,g⟩:=d;refine Cq.wp.no (p:=((8:Nat):Int)<8) ŉ ?_;show(O8 p π).wp _;show(Cq.next _ _).wp _;refine Cq.Zn p.length (λk s=>s=((k:Int),(p.take k).map (sG π))) (λk s a d=>?_) (λs d=>?_) ß
 .subst d;refine Cq.wp.yes (p:=(k:Int)<(p.length:Int)) ŉ ?_;refine⟨p[k],Μ a,?_⟩;refine(Zxa h p[k]).then ?_;have c:eV ((p.take k).map (sG π)) (fx π p[k].m) p[k].c=(p.take (k+1)).map (sG π):=by
   rw[FR,<-Ţ a,Ī]
   .rfl
   intro q n e;obtain⟨y,t,rfl⟩:=Ğ.1 n;have l:=Lf h e;obtain⟨i,hi,rfl⟩:=ķ.1 t;simp only[č]at hi;rw[aae]at l;exact Ħ.1 (EK hp.ord) i k ŉ a ŉ l
  refine⟨⟨ZBg (TX (hp.at a).m),?_⟩,?_⟩
  .rw[c,ć,č];simp only[small];omega
  show _=_;rw[c,ψ ŉ]
 subst d;refine Cq.wp.no (p:=((p.length:Nat):Int)<(p.length:Int)) ŉ ?_;refine⟨à π p,ZvN (oB h hp) ?_,rfl⟩;rw[Ĥ,aab];exact(q6 h hp.ord).1.symm
end Go.EL

namespace Go.EL
open Go.IntKind (i8 i16 i32 i64 u8 u16 u32 u64)
open Go Go.RowKit
theorem S4{n:Int}(a:-8<=n)(h2:n<=8):(ZX n).Α (û n):=Zr (Zq ZxD a h2)
theorem mul_zero(m:M):mulM (λ_=>0) m=m:=by funext i;simp[mulM]
theorem Zv7{c:Int}(g:-3<=c)(h2:c<=3){m:M}(f:Ok m):(K6 (û c) [⟨û 1,m⟩]).Α (if c=0 then[]else[⟨û c,m⟩]):=by
 have d:=Zr (Zq FX (x:=c) ŉ ŉ);by_cases e:c=0
 .subst e;rw[ą rfl];refine⟨([],0),⟨_,d,?_⟩,rfl⟩;rw[Cq.Zm,ą ĳ];rfl
 rw[ā e];refine⟨([⟨û c,m⟩],0),⟨_,d,?_⟩,rfl⟩;rw[Cq.Zm,ā (by split<;>first|omega|(split<;>omega))];show(Cq.next _ _).wp _;refine Cq.Zn 1 (λk s=>s=((if k=0 then[]else[⟨û c,m⟩]),(k:Int))) (λk s i d=>?_) (λs d=>?_) rfl
 .obtain rfl:k=0:=ŉ;subst d;refine⟨⟨û 1,m⟩,⟨ŉ,rfl⟩,(m,0),?_,?_⟩
  .have:=Qx (a:=λ_=>0) (b:=m) (λ_=>⟨Ŝ 0,show(0:Int)<=65535 by decide⟩) f (by rw[mul_zero];exact f);rwa [mul_zero]at this
  rw[Cq.Zm,ā (λh=>h rfl)];exact⟨⟨û 1,m⟩,⟨ŉ,rfl⟩,_,Zr (Zq ZzW g h2),by simp[small],rfl⟩
 subst d;rfl
def iZ(x:Zu):Prop:=∀v∈x.t,∀j:Fin 5,-128<=v j/\v j<=127
structure gL (K:Int) (n:Nat) (d:Int) (k:Nat) (p:Ŀ Za):Prop where
 ord:jn p
 BD:∀t∈p,∃c:Int,t.c=û c/\c≠0/\-K<=c/\c<=K
 xV:∀t∈p,(∀i,0<=t.m i)/\(∀i:Fin 8,n<=i.val->t.m i=0)/\fG t.m<=d
 len:p.length<=k
theorem LI{m:M}(h:∀i,0<=m i):∀k,k<=8->0<=fC m k/\∀i:Fin 8,i.val<k->m i<=fC m k
 |0,_=>by simp[fC]
 |k+1,c=>by
  obtain⟨a,h2⟩:=LI h k ŉ;have il:k<8:=ŉ;have:=h ⟨k,il⟩;simp only[fC,ŷ il];refine⟨ŉ,λi hi=>?_⟩;by_cases e:i.val=k
  .have:i=⟨k,il⟩:=abg e;subst this;omega
  have:=h2 i ŉ;omega
theorem SI{m:M}(h:∀i,0<=m i){d:Int}(a:fG m<=d)(h2:d<=65535):Ok m:=λi=>by have:=(LI h 8 ŉ).2 i i.isLt;unfold fG at a;exact⟨h i,ŉ⟩
theorem gL.hZ{K:Int}{n:Nat}{d:Int}{k:Nat}{p:Ŀ Za}(h:gL K n d k p)(i:K<=12)(j:d<=100)(l:k<=100):ω p:=
 ⟨h.ord,λt a=>⟨by obtain⟨c,e,f,g,h2⟩:=h.BD t a;exact⟨c,e,f,ŉ,ŉ⟩,SI (h.xV t a).1 (h.xV t a).2.2 ŉ⟩,by have:=h.len;omega⟩
theorem TD{p:Ŀ Za}{t y:Za}:y∈gd p t->y∈p\/y=t\/∃x∈p,x.m=t.m/\jk x.c+jk t.c≠0/\y=⟨û (jk x.c+jk t.c),x.m⟩:=by
 induction p with
 |nil=>intro h;simp[gd]at h;exact .inr (.inl h)
 |cons x xs e=>
  intro h;simp only[gd]at h;split at h
  .rcases Ď.1 h with rfl|h
   .exact .inl ß
   rcases e h with h|h|⟨z,c,h2⟩
   .exact .inl (by simp[h])
   .exact .inr (.inl h)
   exact .inr (.inr ⟨z,by simp[c],h2⟩)
  split at h
  .rcases Ď.1 h with rfl|h
   .exact .inr (.inl rfl)
   exact .inl h
  have d:x.m=t.m:=ud ŉ;split at h
  .exact .inl (by simp[h])
  rename_i a;rcases Ď.1 h with rfl|h
  .exact .inr (.inr ⟨x,ß,d,a,rfl⟩)
  exact .inl (by simp[h])
theorem gL.add{K:Int}{n:Nat}{d:Int}{k:Nat}{p:Ŀ Za}(h:gL K n d k p){c:Int}{m:M}(y:0<=K)(r:c≠0)(v:-3<=c)(h2:c<=3)(s:(∀i,0<=m i)/\(∀i:Fin 8,n<=i.val->m i=0)/\fG m<=d):
  gL (K+3) n d (k+1) (gd p ⟨û c,m⟩):=by
 refine⟨(Sp h.ord).1,λt g=>?_,λt g=>?_,by have:=Q4 p ⟨û c,m⟩;have:=h.len;omega⟩
 .rcases TD g with g|rfl|⟨x,j,l,f,rfl⟩
  .obtain⟨a,e,q,u,k2⟩:=h.BD t g
   exact⟨a,e,q,ŉ,ŉ⟩
  .exact⟨c,rfl,r,ŉ,ŉ⟩
  obtain⟨a,e,q,u,k2⟩:=h.BD x j
  simp only[Li,e]at f⊢
  exact⟨a+c,rfl,f,ŉ,ŉ⟩
 rcases TD g with g|rfl|⟨x,j,l,f,rfl⟩
 .exact h.xV t g
 .exact s
 exact h.xV x j
theorem gL.grow{K K':Int}{n:Nat}{d:Int}{k k':Nat}{p:Ŀ Za}(h:gL K n d k p)(g:K<=K')(h2:k<=k'):gL K' n d k' p:=
 ⟨h.ord,λt c=>by obtain⟨a,e,f,i,k2⟩:=h.BD t c;exact⟨a,e,f,ŉ,ŉ⟩,h.xV,by have:=h.len;omega⟩
theorem gL.N8{K:Int}{n:Nat}{d:Int}{k:Nat}{p:Ŀ Za}(h:gL K n d k p)(i:K<=12){c:Int}{m:M}(f:-3<=c)(h2:c<=3):wK p ⟨û c,m⟩:=λx g _=>by obtain⟨a,e,j,l,k2⟩:=h.BD x g;exact⟨a,c,e,rfl,ŉ,ŉ,f,h2⟩
def nQ(n:Int):Int:=if n<0 then -n else n
theorem Zzd{n:Int}(a:-128<=n)(h2:n<=127):(F4 n).Α (nQ n):=by
 unfold F4 nQ;by_cases h:n<0
 .rw[ą h,ą h];show _=_;simp(disch:=omega) only[wrap64];omega
 rw[ā h,ā h];exact wrap64 ŉ
theorem Bf{a b:Int}(c:0<=a)(d:0<b):0<=Int.tmod a b/\Int.tmod a b<b:=by rw[Ŕ c];exact⟨Int.emod_nonneg _ ŉ,Int.emod_lt_of_pos _ d⟩
theorem Dz{a:Int}(c:-128<=a)(h2:a<=127):-3<=Int.tmod a 4/\Int.tmod a 4<=3:=by
 by_cases h:0<=a
 .have:=Bf (b:=4) h ŉ;omega
 have:=Bf (a:=-a) (b:=4) ŉ ŉ;rw[Int.neg_tmod]at this;omega
def gm(v:Fin 5->Int)(d:Int):Nat->Int×M
 |0=>(d,λ_=>0)
 |j+1=>((gm v d j).1-Int.tmod (nQ (Ε v ((j+1:Nat):Int))) ((gm v d j).1+1),ζ (gm v d j).2 j (Int.tmod (nQ (Ε v ((j+1:Nat):Int))) ((gm v d j).1+1)))
theorem LV{v:Fin 5->Int}{d:Int}(a:0<=d):∀j,j<=4->0<=(gm v d j).1/\(∀i,0<=(gm v d j).2 i)/\(∀i:Fin 8,j<=i.val->(gm v d j).2 i=0)/\fG (gm v d j).2+(gm v d j).1=d
 |0,_=>⟨a,λ_=>Ŝ 0,λ_ _=>rfl,by simp[gm,fG,fC]⟩
 |j+1,h=>by
  obtain⟨g,c,h2,h3⟩:=LV (v:=v) a j ŉ;have e:0<=nQ (Ε v ((j+1:Nat):Int)):=by unfold nQ;split<;>omega
  have f:=Bf e (show 0<(gm v d j).1+1 by omega);simp only[gm];refine⟨ŉ,λi=>?_,λi hi=>?_,?_⟩
  .simp only[ζ];split
   .exact f.1
   exact c i
  .simp only[ζ];rw[ā ŉ];exact h2 i ŉ
  unfold fG at h3⊢;rw[K0 _ _ _ 8 ŉ,ŷ ŉ,ą ŉ,h2 _ ß];omega
def qQ(v:Fin 5->Int)(d:Int)(n:Nat):M:=(gm v d n).2
theorem U6{v:Fin 5->Int}{d:Int}(c:0<=d){n:Nat}(e:n<=4):(∀i,0<=qQ v d n i)/\(∀i:Fin 8,n<=i.val->qQ v d n i=0)/\fG (qQ v d n)<=d:=by obtain⟨f,a,h2,h3⟩:=LV (v:=v) c n e;exact⟨a,h2,by unfold qQ;omega⟩
theorem ZvU{x:Zu}(t:iZ x){n:Nat}(D:n<=4){d:Int}(c:0<=d)(A:d<=100){k:Nat}(m:k<x.t.length):
  (QD x (n:Int) (k:Int) (d,0,λ_=>0)).Α (qQ x.t[k] d n):=by
 refine Cq.Zn n (λj s=>s=((gm x.t[k] d j).1,(j:Int),(gm x.t[k] d j).2)) (λj s B g=>?_) (λs g=>?_) rfl
 .subst g
  obtain⟨u,q,h2,h3⟩:=LV (v:=x.t[k]) c j ŉ
  have y:=(LI q 8 ŉ).1
  have f:j<8:=ŉ
  have hr:=t _ (Ă m)
  show(if(j:Int)<(n:Int)then _ else _:Cq _).wp _
  rw[Cq.Zm,ą ŉ,Cq.Zm,ą ŉ]
  have r:i64.wrap (1+(j:Int))=((j+1:Nat):Int):=by rw[wrap64 ŉ];omega
  have i:i64.wrap ((gm x.t[k] d j).1+1)=(gm x.t[k] d j).1+1:=wrap64 (by unfold fG at h3;omega)
  rw[r,i]
  have l:Ε x.t[k] ((j+1:Nat):Int)=x.t[k] ⟨j+1,ŉ⟩:=y8 _ ab0
  have C:=Bf (a:=nQ (Ε x.t[k] ((j+1:Nat):Int))) (b:=(gm x.t[k] d j).1+1) (by unfold nQ;split<;>omega) ŉ
  refine⟨x.t[k],Μ m,ŉ,_,Zzd (by rw[l];exact(hr _).1) (by rw[l];exact(hr _).2),ŉ,ŉ,ŉ,?_⟩
  show _=_
  have h:∀e:Int,Ε (ζ (gm x.t[k] d j).2 (j:Int).toNat e) (j:Int)=e:=λe=>by rw[Ô f];simp[ζ]
  rw[h,ψ ŉ,wrap64 (by unfold fG at h3;omega)]
  rfl
 subst g
 refine Cq.wp.no (p:=(n:Int)<(n:Int)) ŉ ?_
 rfl
def gP(x:Zu)(n:Nat)(d:Int):Nat->Ŀ Za
 |0=>[]
 |k+1=>match x.t[k]? with
  |some v=>if Int.tmod (Ε v 0) 4=0 then gP x n d k else gd (gP x n d k) ⟨û (Int.tmod (Ε v 0) 4),qQ v d n⟩
  |none=>gP x n d k
theorem C1{x:Zu}(c:iZ x){v:Fin 5->Int}(a:v∈x.t):-3<=Int.tmod (Ε v 0) 4/\Int.tmod (Ε v 0) 4<=3:=by have:=c v a 0;rw[y8 v ĳ];exact Dz this.1 this.2
theorem KR{x:Zu}(g:iZ x){n:Nat}(f:n<=4){d:Int}(e:0<=d):∀k:Nat,gL (3*k) n d k (gP x n d k)
 |0=>⟨List.Pairwise.nil,λt a=>by simp[gP]at a,λt a=>by simp[gP]at a,by simp[gP]⟩
 |k+1=>by
  have c:=KR g f e k;simp only[gP];split
  .rename_i v i;have hr:=C1 g (ń i);split
   .exact c.grow ŉ ŉ
   rename_i h;exact(c.add ŉ h hr.1 hr.2 (U6 e f)).grow ŉ ŉ
  exact c.grow ŉ ŉ
def iD(x:Zu)(n:Nat)(d:Int)(k:Nat):Ŀ Za:=gP x n d (min k x.t.length)
theorem Zye{x:Zu}(e:iZ x){n:Nat}(c:n<=4){d:Int}(a:0<=d)(k:Nat):gL (3*k) n d k (iD x n d k):=(KR e c a _).grow ŉ ŉ
theorem Lt{x:Zu}(g:iZ x){n:Nat}(e:n<=4){d:Int}(a:0<=d)(p:d<=100){k:Nat}(t:k<=4):(A5 x (n:Int) d (k:Int)).Α (iD x n d k):=by
 refine Cq.Zn (min k x.t.length) (λj s=>s=(gP x n d j,(j:Int))) (λj s r f=>?_) (λs f=>?_) rfl
 .subst f;have kf:j<x.t.length:=ŉ;have m:=KR g e a j;have hr:=C1 g (Ă kf);show(if(j:Int)<(x.t.length:Int)then _ else _:Cq _).wp _;rw[Cq.Zm,ą ŉ,Cq.Zm,ą ŉ];show(Cq.next _ _).wp _;refine(ZvU g e a p kf).then ?_;have q:i64.wrap (Int.tmod (Ε x.t[j] 0) 4)=Int.tmod (Ε x.t[j] 0) 4:=wrap64 ŉ;have l:=U6 (v:=x.t[j]) a e;refine⟨x.t[j],Μ kf,_,(by rw[q];exact S4 ŉ ŉ),_,S4 ŉ ŉ,_,Zv7 hr.1 hr.2 (SI l.1 l.2.2 ŉ),?_⟩;have i:=m.len;by_cases c:Int.tmod (Ε x.t[j] 0) 4=0
  .rw[ą c];refine⟨_,ZsY ŉ,?_⟩;show _=_;rw[ψ ŉ];simp only[gP,Ą kf,ą c]
  rw[ā c];refine⟨_,QB ŉ (m.N8 ŉ hr.1 hr.2),?_⟩;show _=_;rw[ψ ŉ];simp only[gP,Ą kf,ā c]
 subst f;show(if((min k x.t.length:Nat):Int)<(x.t.length:Int)then _ else _:Cq _).wp _;by_cases h:min k x.t.length<x.t.length
 .rw[Cq.Zm,ą ŉ,Cq.Zm,ā ŉ];rfl
 rw[Cq.Zm,ā ŉ];rfl
end Go.EL

namespace Go.EL
open Go.IntKind (i8 i16 i32 i64 u8 u16 u32 u64)
open Go Go.RowKit
theorem qA{x:Int}(h:0<=x/\x<18446744073709551616):u64.wrap x=x:=by simp only[IntKind.wrap,IntKind.bits,IntKind.signed,Ŷ,Ś,aaM];omega
def uL(x:Int):Ŀ Int:=if x=0 then[]else[x]
def ã(n:Int):Zg:=⟨decide (n<0),uL (n.natAbs:Int)⟩
theorem Zyy(n:Int):û n=⟨ã n,⟨false,[1]⟩⟩:=by
 unfold û ã uL;by_cases h:n=0
 .subst h;rfl
 rw[ā h,ā ŉ]
end Go.EL

namespace Go.EL
open Go.IntKind (i8 i16 i32 i64 u8 u16 u32 u64)
open Go Go.RowKit
theorem ZxN{a b:M}(f:Ok a)(g:Ok b)(d:Ok (mulM a b)):(JR a b).Α (mulM a b,0):=by
 show(Cq.next _ _).wp _;refine Cq.Zn 8 (λk s=>s=((k:Int),lP k (mulM a b) a)) (λk s c e=>?_) (λs e=>?_) (by rw[Tx];rfl)
 .subst e;have h:=f ⟨k,c⟩;have h2:=g ⟨k,c⟩;rw[Cq.Zm,ą ŉ];refine⟨ŉ,ŉ,ŉ,?_⟩;show _=_;rw[ψ ŉ,Ô c,Ô c,Vc,wrap64 ŉ];exact đ (Prod.mk _) (Tw (mulM a b) a c)
 subst e;rw[Cq.Zm,ā ŉ,UW _ _ ŉ];exact⟨true,Sm d,rfl⟩
end Go.EL

namespace Go.EL
open Go.IntKind (i8 i16 i32 i64 u8 u16 u32 u64)
open Go Go.RowKit
def ó:Ŀ Za->Nat
 |[]=>0
 |t::p=>Nat.gcd (Î t.c).natAbs (ó p)
def jC(p:Ŀ Za):Int:=match p with
 |[]=>1
 |t::_=>if Î t.c<0 then -1 else 1
def fJ(s:Int)(g:Nat)(c:Zf):Zf:=û (s*(Î c / (g:Int)))
def Χ(p:Ŀ Za):Ŀ Za:=p.map λt=>⟨fJ (jC p) (ó p) t.c,t.m⟩
theorem Zyc:(á 0 12 λa=>á (-12) 12 λb=>runs 60 (w9 (ã a) (ã b)) (ã (Nat.gcd a.natAbs b.natAbs:Nat)))=true:=by decide +kernel
theorem ZyE:(á 0 12 λa=>á (-12) 12 λb=>runs 60 (xu (ã a) (ã b)) (ã (Nat.gcd a.natAbs b.natAbs:Nat)))=true:=by decide +kernel
theorem Zyd:(á 1 12 λg=>runs 60 (Ei (ã 1) (ã g)) (⟨ã 1,ã g⟩,0)&&runs 60 (Ei (ã (-1)) (ã g)) (⟨ã (-1),ã g⟩,0))=true:=by decide +kernel
theorem ZyF:(á 1 12 λg=>runs 60 (F1 (ã 1) (ã g)) (⟨ã 1,ã g⟩,0)&&runs 60 (F0 ⟨ã 1,ã g⟩) ⟨ã (-1),ã g⟩)=true:=by decide +kernel
theorem ZwS:(á 1 12 λg=>á (-12) 12 λn=>n == 0 || n % g != 0 || (runs 60 (Z7 ⟨ã 1,ã g⟩ (û n)) (û (1*(n / g)))&&runs 60 (Z7 ⟨ã (-1),ã g⟩ (û n)) (û (-1*(n / g)))))=true:=by decide +kernel
theorem Zxm:(á 1 12 λg=>á (-12) 12 λn=>n == 0 || n % g != 0 || (runs 60 (qZ ⟨ã 1,ã g⟩ (û n)) (û (1*(n / g)))&&runs 60 (qZ ⟨ã (-1),ã g⟩ (û n)) (û (-1*(n / g)))))=true:=by decide +kernel
theorem FQ:(w9 (ã 1) ⟨false,[1]⟩).Α (ã 1)/\(Ao ⟨false,[1]⟩ (ã 1)).Α (ã 1,ã 0,0)/\(EA (ã 1) (ã 1)).Α (ã 1)/\(yA (ã 1)).Α (ã (-1)):=⟨Cq.Α.me 60 (by decide +kernel),Cq.Α.me 60 (by decide +kernel),Cq.Α.me 60 (by decide +kernel),Cq.Α.me 60 (by decide +kernel)⟩
theorem FV:(xu (ã 1) ⟨false,[1]⟩).Α (ã 1)/\(yE ⟨false,[1]⟩ (ã 1)).Α (ã 1,ã 0,0)/\(qY (ã 1) (ã 1)).Α (ã 1)/\(yE (ã 1) ⟨false,[1]⟩).Α (ã 1,ã 0,0):=⟨Cq.Α.me 60 (by decide +kernel),Cq.Α.me 60 (by decide +kernel),Cq.Α.me 60 (by decide +kernel),Cq.Α.me 60 (by decide +kernel)⟩
theorem Zxl:(á (-12) 12 λn=>runs 60 (qY (ã n) (ã 1)) (ã n))=true:=by decide +kernel
theorem T6:(á 1 12 λg=>runs 60 (ZH ⟨ã 1,ã g⟩) 1&&runs 60 (ZH ⟨ã (-1),ã g⟩) (-1)&&runs 60 (oy ⟨ã 1,ã g⟩) 1&&runs 60 (oy ⟨ã (-1),ã g⟩) (-1))=true:=by decide +kernel
theorem ω.num{p:Ŀ Za}(h:ω p){t:Za}(d:t∈p):t.c=û (Î t.c)/\Î t.c≠0/\-12<=Î t.c/\Î t.c<=12:=by
 obtain⟨⟨n,e,a,c,h2⟩,_⟩:=h.th t d;have:Î t.c=n:=by rw[e,pq]
 rw[this];exact⟨e,a,c,h2⟩
theorem ω.parts{p:Ŀ Za}(h:ω p){t:Za}(a:t∈p):t.c.num=ã (Î t.c)/\t.c.den=⟨false,[1]⟩:=by
 obtain⟨⟨n,e,_⟩,_⟩:=h.th t a;have:Î t.c=n:=by rw[e,pq]
 rw[this,e,Zyy];exact⟨rfl,rfl⟩
theorem ω.gq{p:Ŀ Za}(h:ω p):Ñ p=true:=by have f:=h.len;unfold Ñ;rw[ĉ];refine⟨ă ŉ,Ć.2 λt d=>?_⟩;obtain⟨e,a,c,h2⟩:=h.num d;rw[e];exact Zvi a c h2
theorem Fg:∀{p:Ŀ Za}{t:Za},t∈p->ó p ∣ (Î t.c).natAbs
 |x::p,t,h=>by
  rcases Ď.1 h with rfl|h
  .exact Nat.gcd_dvd_left _ _
  exact Nat.dvd_trans (Nat.gcd_dvd_right _ _) (Fg h)
theorem xr{p:Ŀ Za}(h:ω p)(a:p≠[]):1<=ó p/\ó p<=12:=by
 match p,a with
 |t::p,_=>
  have c:=Fg (p:=t::p) (t:=t) ß;obtain⟨e,d,f,h2⟩:=h.num (t:=t) ß;have:=Nat.le_of_dvd ŉ c;have:=Nat.pos_of_dvd_of_pos c ŉ;omega
theorem xC{p:Ŀ Za}{t:Za}(a:t∈p):Î t.c % (ó p:Int)=0:=Int.emod_eq_zero_of_dvd (Int.ofNat_dvd_left.2 (Fg a))
theorem Mj(p:Ŀ Za):jC p=1\/jC p = -1:=by
 unfold jC;split
 .exact .inl rfl
 split
 .exact .inr rfl
 exact .inl rfl
theorem Tj(p:Ŀ Za)(k:Nat)(h:k<p.length):ó (p.take (k+1))=Nat.gcd (ó (p.take k)) (Î p[k].c).natAbs:=by
 rw[ċ h];generalize p.take k=l;generalize p[k]=t;induction l with
 |nil=>simp[ó]
 |cons x l a=>simp only[ĸ,ó,a];rw[Nat.gcd_assoc]
theorem Ti{p:Ŀ Za}(h:ω p)(k:Nat):ó (p.take k)<=12:=by
 by_cases a:p.take k=[]
 .rw[a];exact Ĝ _
 have e:∃t,t∈p.take k:=abd _ a;obtain⟨t,c⟩:=e;have d:=Fg c;obtain⟨_,f,g,h2⟩:=h.num (ś c);have:=Nat.le_of_dvd ŉ d;omega
theorem UY{m:M}(h:Ok m):Ok (mulM (λ_=>0) m):=by rw[mul_zero];exact h
theorem Od:Ok λ_=>0:=λ_=>⟨Ŝ 0,(by decide:(0:Int)<=65535)⟩
theorem RO{c:Zf}{f:Zf->Zf}{p:Ŀ Za}(j:p.length<=100)(e:∀t∈p,Ok t.m){s:Int}(d:(ZH c).Α s)(g:s≠0)(i:∀t∈p,(Z7 c t.c).Α (f t.c)):
  (Jq c (λ_=>0) p).Α (p.map λt=>⟨f t.c,t.m⟩,0):=by
 refine⟨s,d,Cq.wp.no g ⟨⟨ŉ,ŉ⟩,?_⟩⟩
 refine Cq.Zn p.length (λk s=>s=((p.take k).map λt=>⟨f t.c,t.m⟩,(k:Int))) (λk s a d=>?_) (λs d=>?_) rfl
 .subst d
  refine Cq.wp.yes ŉ ⟨p[k],Μ a,_,ZxN Od (e _ (Ă a)) (UY (e _ (Ă a))),Cq.wp.no (λh=>h rfl) ⟨_,i _ (Ă a),?_,?_⟩⟩
  .simp only[Ā,ć,č,ė,small];omega
  show _=_
  rw[ψ ŉ,mul_zero,ċ a,Ī]
  rfl
 subst d
 refine Cq.wp.no ŉ ?_
 show _=_
 rw[ě (Ĉ _)]
theorem RC{c:Zf}{f:Zf->Zf}{p:Ŀ Za}(j:p.length<=100)(e:∀t∈p,Ok t.m){s:Int}(d:(oy c).Α s)(g:s≠0)(i:∀t∈p,(qZ c t.c).Α (f t.c)):
  (Ft c (λ_=>0) p).Α (p.map λt=>⟨f t.c,t.m⟩,0):=by
 refine⟨s,d,Cq.wp.no g ?_⟩
 refine Cq.Zn p.length (λk s=>s=((p.take k).map λt=>⟨f t.c,t.m⟩,(k:Int))) (λk s a d=>?_) (λs d=>?_) rfl
 .subst d
  refine Cq.wp.yes ŉ ⟨p[k],Μ a,_,Qx Od (e _ (Ă a)) (UY (e _ (Ă a))),Cq.wp.no (λh=>h rfl) ⟨p[k],Μ a,_,i _ (Ă a),?_,?_⟩⟩
  .simp only[Ā,ć,č,ė,small];omega
  show _=_
  rw[ψ ŉ,mul_zero,ċ a,Ī]
  rfl
 subst d
 refine Cq.wp.no ŉ ?_
 show _=_
 rw[ě (Ĉ _)]
theorem ω.mono{p:Ŀ Za}(h:ω p):∀t∈p,Ok t.m:=λt a=>(h.th t a).m
theorem Tm{p:Ŀ Za}(a:0<p.length):(p[0]'a)∈p:=Ă a
theorem Sj{p:Ŀ Za}(a:0<p.length):jC p=if Î (p[0]'a).c<0 then -1 else 1:=by
 match p,a with
 |t::p,_=>rfl
theorem Kn{p:Ŀ Za}(h:ω p)(f:p≠[]):(As p).Α (Χ p):=by
 have u:=h.len;have m:0<p.length:=ş.2 f;obtain⟨A,B⟩:=xr h f;refine Cq.wp.no ŉ ⟨ã 0,Cq.Α.me 20 (by decide +kernel),ã 1,Cq.Α.me 20 (by decide +kernel),?_⟩;show(PG p (0,ã 0,ã 1)).wp _;refine Cq.Zn p.length (λk s=>s=((k:Int),ã (ó (p.take k):Int),ã 1)) (λk s l c=>?_) (λs c=>?_) rfl
 .subst c;obtain⟨e,g,i,j⟩:=h.num (Ă l);obtain⟨y,r⟩:=h.parts (Ă l);have C:=Ti h k;have hr:=Zq (Zq Zyc (x:=(ó (p.take k):Int)) ŉ ŉ) i j;refine Cq.wp.yes ŉ ⟨p[k],Μ l,ã (Nat.gcd (ó (p.take k):Int).natAbs (Î p[k].c).natAbs:Nat),(by rw[y];exact Zr hr),ã 1,(by rw[r];exact FQ.1),(ã 1,ã 0,0),(by rw[r];exact FQ.2.1),ã 1,FQ.2.2.1,?_⟩;show _=_;rw[ψ ŉ,Tj p k l];simp only[aa9]
 subst c;refine Cq.wp.no ŉ ?_;rw[ě (Ĉ _)];show(JI p (ã (ó p:Int)) (ã 1)).Α _;unfold JI;obtain⟨e,g,i,j⟩:=h.num (Tm m);have c:=Zq Si i j;rw[show(Î p[0].c == 0)=false by simpa using g,Ľ]at c;have n:=Zq Zyd (x:=(ó p:Int)) ŉ ŉ;have q:=Zq T6 (x:=(ó p:Int)) ŉ ŉ;simp only[ĉ]at n q;have v:∀t∈p,(Z7 ⟨ã 1,ã (ó p:Int)⟩ t.c).Α (fJ 1 (ó p) t.c)/\(Z7 ⟨ã (-1),ã (ó p:Int)⟩ t.c).Α (fJ (-1) (ó p) t.c):=λt d=>by obtain⟨e,g,i,j⟩:=h.num d;have:=Zq (Zq ZwS (x:=(ó p:Int)) ŉ ŉ) i j;rw[show(Î t.c == 0)=false by simpa using g,show(Î t.c % (ó p:Int) != 0)=false by simpa using xC d,Ľ,Ľ,ĉ]at this;unfold fJ;rw[e,pq];exact⟨Zr this.1,Zr this.2⟩
 refine⟨p[0],⟨ŉ,by simp[m]⟩,_,(by rw[e];exact Zr c),?_⟩;unfold Χ;rw[Sj m];by_cases a:Î p[0].c<0
 .rw[ą a,ą a];refine Cq.wp.yes ĳ ⟨_,FQ.2.2.2,?_⟩;exact⟨_,Zr n.2,_,RO u h.mono (Zr q.1.1.2) ĳ (λt d=>(v t d).2),rfl⟩
 rw[ā a,ā a,ā g];refine Cq.wp.no ĳ ?_;exact⟨_,Zr n.1,_,RO u h.mono (Zr q.1.1.1) ĳ (λt d=>(v t d).1),rfl⟩
theorem PD{p:Ŀ Za}(h:ω p):(EY p).Α (Χ p):=by
 have v:=h.len;by_cases f:p=[]
 .subst f;exact Cq.wp.yes rfl rfl
 have n:0<p.length:=ş.2 f;obtain⟨A,B⟩:=xr h f;refine Cq.wp.no ŉ ⟨ã 1,Cq.Α.me 20 (by decide +kernel),ã 0,Cq.Α.me 20 (by decide +kernel),?_⟩;refine Cq.Zn p.length (λk s=>s=((k:Int),ã 1)) (λk s c d=>?_) (λs d=>?_) rfl
 .subst d;obtain⟨e,l,i,j⟩:=h.num (Ă c);obtain⟨u,m⟩:=h.parts (Ă c);refine Cq.wp.yes ŉ ⟨p[k],Μ c,p[k],Μ c,ã 1,(by rw[m];exact FV.1),(ã 1,ã 0,0),(by rw[m];exact FV.2.1),ã 1,FV.2.2.1,?_⟩;show _=_;rw[ψ ŉ]
 subst d;refine Cq.wp.no ŉ ?_;show(PX p (ã 0) (ã 1)).Α _;refine Cq.Zn p.length (λk s=>s=((k:Int),ã (ó (p.take k):Int))) (λk s c d=>?_) (λs d=>?_) rfl
 .subst d;obtain⟨e,l,i,j⟩:=h.num (Ă c);have C:=Ti h k;have hr:=Zq (Zq ZyE (x:=(ó (p.take k):Int)) ŉ ŉ) i j;obtain⟨u,m⟩:=h.parts (Ă c);refine Cq.wp.yes ŉ ⟨p[k],Μ c,(ã 1,ã 0,0),(by rw[m];exact FV.2.2.2),p[k],Μ c,ã (Î p[k].c),(by rw[u];exact Zr (Zq Zxl i j)),ã (Nat.gcd (ó (p.take k):Int).natAbs (Î p[k].c).natAbs:Nat),Zr hr,?_⟩;show _=_;rw[ψ ŉ,Tj p k c];simp only[aa9]
 subst d;refine Cq.wp.no ŉ ?_;rw[ě (Ĉ _)];show(Ju p (ã 1) (ã (ó p:Int))).Α _;unfold Ju;obtain⟨e,l,i,j⟩:=h.num (Tm n);have d:=Zq FX (x:=Î p[0].c) ŉ ŉ;have q:=Zq ZyF (x:=(ó p:Int)) ŉ ŉ;have r:=Zq T6 (x:=(ó p:Int)) ŉ ŉ;simp only[ĉ]at q r;have y:∀t∈p,(qZ ⟨ã 1,ã (ó p:Int)⟩ t.c).Α (fJ 1 (ó p) t.c)/\(qZ ⟨ã (-1),ã (ó p:Int)⟩ t.c).Α (fJ (-1) (ó p) t.c):=λt g=>by obtain⟨e,l,i,j⟩:=h.num g;have:=Zq (Zq Zxm (x:=(ó p:Int)) ŉ ŉ) i j;rw[show(Î t.c == 0)=false by simpa using l,show(Î t.c % (ó p:Int) != 0)=false by simpa using xC g,Ľ,Ľ,ĉ]at this;unfold fJ;rw[e,pq];exact⟨Zr this.1,Zr this.2⟩
 refine⟨_,Zr q.1,p[0],⟨ŉ,by simp[n]⟩,_,(by rw[e];exact Zr d),?_⟩;unfold Χ;rw[Sj n];by_cases a:Î p[0].c<0
 .rw[ą a,ą a];refine Cq.wp.yes ĳ ⟨_,Zr q.2,?_⟩;exact⟨_,RC v h.mono (Zr r.2) ĳ (λt g=>(y t g).2),rfl⟩
 rw[ā a,ā a,ā l];refine Cq.wp.no ĳ ?_;exact⟨_,RC v h.mono (Zr r.1.2) ĳ (λt g=>(y t g).1),rfl⟩
end Go.EL

namespace Go.EL
open Go.IntKind (i8 i16 i32 i64 u8 u16 u32 u64)
open Go Go.RowKit
theorem LO(s:Int)(g:Nat)(c:Zf):Î (fJ s g c)=s*(Î c / (g:Int)):=pq _
theorem Mr{n:Int}{g:Nat}(d:1<=g)(c:n % (g:Int)=0)(a:n≠0):n / (g:Int)≠0:=λh=>by have:=ec n g;rw[h,c]at this;simp at this;exact a this.symm
theorem YF{n:Int}{g:Nat}(c:1<=g)(a:-12<=n)(h2:n<=12):-12<=n / (g:Int)/\n / (g:Int)<=12:=by refine⟨(Int.le_ediv_iff_mul_le ŉ).2 ?_,aaa (Int.ediv_le_ediv ŉ h2) (Int.ediv_le_self _ ĳ)⟩;have:(g:Int)*12 ≥ 12:=ŉ;omega
theorem LS(p:Ŀ Za):(Χ p).length=p.length:=ć _
theorem Bc{p:Ŀ Za}:Χ p=[]↔p=[]:=by unfold Χ;simp
theorem Zyu{p:Ŀ Za}{t:Za}(h:t∈Χ p):∃x∈p,t=⟨fJ (jC p) (ó p) x.c,x.m⟩:=by obtain⟨x,a,h2⟩:=Ğ.1 h;exact⟨x,a,h2.symm⟩
theorem vB{p:Ŀ Za}(h:ω p):ω (Χ p) where
 ord:=by unfold Χ;rw[Ź];exact h.ord
 th:=λt f=>by
  obtain⟨x,a,rfl⟩:=Zyu f;have c:p≠[]:=λe=>by rw[e]at a;cases a
  obtain⟨d,l⟩:=xr h c;obtain⟨e,i,j,k⟩:=h.num a;have m:=Mr d (xC a) i;obtain⟨n,q⟩:=YF (g:=ó p) d j k;refine⟨⟨_,rfl,?_,?_,?_⟩,h.mono x a⟩;all_goals rcases Mj p with s|s<;>rw[s]<;>omega
 len:=by rw[LS];exact h.len
theorem R0(p:Ŀ Za):∀k,fH (Χ p) k=fH p k
 |0=>rfl
 |k+1=>by unfold fH;rw[R0 p k];unfold Χ;rw[et];cases p[k]?<;>rfl
theorem xw(p:Ŀ Za):gi (Χ p)=gi p:=by unfold gi;rw[LS,R0]
theorem Rn(p:Ŀ Za):∀k,hV (Χ p) k=hV p k
 |0=>rfl
 |k+1=>by unfold hV;rw[Rn p k];unfold Χ;rw[et];cases p[k]?<;>rfl
theorem Zxe(p:Ŀ Za):ï (Χ p)=ï p:=by unfold ï;rw[LS,Rn]
theorem TY(p:Ŀ Za)(n:Int):Ð (Χ p) n=Ð p n:=by unfold Ð;rw[Zxe,xw]
theorem K1{s:Int}(c:s=1\/s = -1){g:Nat}(e:1<=g):∀{p:Ŀ Za},(∀t∈p,Î t.c % (g:Int)=0)->ó (p.map λt=>⟨fJ s g t.c,t.m⟩)*g=ó p
 |[],_=>dA _
 |t::p,h=>by
  have j:=K1 c e (p:=p) (λx i=>h x (by simp[i]));have f:=h t ß;simp only[Ġ,ó];rw[<-j,<-Nat.gcd_mul_right,LO];congr 1;have d:(s*(Î t.c / (g:Int))).natAbs=(Î t.c / (g:Int)).natAbs:=by rcases c with rfl|rfl<;>simp
  rw[d];have a:=ec (Î t.c) g;rw[f,aaB]at a;rw[<-a,Int.natAbs_mul,a,aa9,aby]
theorem Zyt{p:Ŀ Za}(h:ω p)(a:p≠[]):ó (Χ p)=1:=by obtain⟨c,e⟩:=xr h a;have:=K1 (Mj p) c (p:=p) (λt d=>xC d);exact Nat.eq_of_mul_eq_mul_right c (by rw[Nat.one_mul];exact this)
theorem Zyv{p:Ŀ Za}(h:ω p):jC (Χ p)=1:=by
 match p,h with
 |[],_=>rfl
 |t::q,h=>
  obtain⟨e,j,l,m⟩:=h.num (t:=t) ß;obtain⟨i,k⟩:=xr h ß;have c:=xC (p:=t::q) (t:=t) ß;show(if Î (fJ _ _ t.c)<0 then(-1:Int)else 1)=1;rw[LO,ā];have n:=Mr i c j;have f:=ec (Î t.c) (ó (t::q));rw[c,aaB]at f;unfold jC;dsimp only;generalize ó (t::q)=g at *;generalize Î t.c / (g:Int)=z at *;by_cases d:Î t.c<0
  .rw[ą d];have:¬0<z:=λa=>by
    have:=Int.mul_pos (show(0:Int)<(g:Int) by omega) a;omega
   omega
  rw[ā d];have:¬z<0:=λa=>by have:=abe (show(0:Int)<(g:Int) by omega) a;omega
  omega
theorem Zz5{p:Ŀ Za}(h:ω p){t:Za}(a:t∈p):fJ 1 1 t.c=t.c:=by obtain⟨e,_⟩:=h.num a;unfold fJ;rw[aau,Int.natCast_one,Int.ediv_one];exact e.symm
theorem Se{p:Ŀ Za}(h:ω p):Χ (Χ p)=Χ p:=by
 by_cases a:p=[]
 .subst a;rfl
 have c:=vB h;show(Χ p).map (λt=>(⟨fJ (jC (Χ p)) (ó (Χ p)) t.c,t.m⟩:Za))=Χ p;rw[Zyt h a,Zyv h];refine(ŭ λt d=>?_).trans (List.map_id _);rw[Zz5 c d];rfl
def hK(l:Ŀ (Ŀ Za)):Prop:=l.Pairwise λa b=>ë a b<0
theorem QR:∀{l m:Ŀ (Ŀ Za)},hK l->hK m->(∀x,x∈l↔x∈m)->l=m
 |[],[],_,_,_=>rfl
 |[],y::m,_,_,h=>by have:=(h y).2 ß;cases this
 |x::l,[],_,_,h=>by have:=(h x).1 ß;cases this
 |x::l,y::m,i,h2,h=>by
  obtain⟨a1,a2⟩:=Į.1 i;obtain⟨d,g⟩:=Į.1 h2;have e:x=y:=by
   rcases Ď.1 ((h x).1 ß)with e|n
   .exact e
   rcases Ď.1 ((h y).2 ß)with e|p
   .exact e.symm
   have q:=d x n;have r:=a1 y p;have:=qz x y;omega
  subst e;have f:∀{z:Ŀ Za}{k:Ŀ (Ŀ Za)},(∀a∈k,ë z a<0)->z ∉ k:=λj c=>by have:=j _ c;rw[xn]at this;omega
  rw[QR a2 g λz=>⟨λc=>?_,λc=>?_⟩]
  .rcases Ď.1 ((h z).1 (by simp[c]))with e|tK
   .subst e;exact absurd c (f a1)
   exact tK
  rcases Ď.1 ((h z).2 (by simp[c]))with e|tK
  .subst e;exact absurd c (f d)
  exact tK
theorem TK:∀{l:Ŀ (Ŀ Za)}{x:Ŀ Za},(x::l).Pairwise (λa b=>ë a b<=0)->(∀p∈x::l,Ñ p=true)->hK (x::jO x l)/\∀z,z∈x::jO x l↔z∈x::l
 |[],x,_,_=>⟨ū _ _,λ_=>Iff.rfl⟩
 |y::l,x,h,d=>by
  obtain⟨a1,a2⟩:=Į.1 h;obtain⟨f,g⟩:=TK a2 (λp hp=>d p (by simp at hp⊢;exact .inr hp));unfold jO;by_cases e:ë y x=0
  .rw[ą e];have:y=x:=AS (d y ß) (d x ß) e;subst this;refine⟨f,λz=>?_⟩;rw[g z];simp
  rw[ā e];have c:ë x y<0:=by have:=a1 y ß;have:=qz x y;omega
  refine⟨Į.2 ⟨λz i=>?_,f⟩,λz=>?_⟩
  .rcases Ď.1 i with rfl|tK
   .exact c
   exact(yH x y z ŉ (by have:=(Į.1 f).1 z tK;omega)).2 (.inl c)
  have:=g z;simp only[Ď]at this⊢;rw[this]
def ep(l:Ŀ (Ŀ Za)):Ŀ (Ŀ Za):=gh (jy l)
theorem FY{l:Ŀ (Ŀ Za)}(d:∀p∈l,Ñ p=true):hK (ep l)/\∀z,z∈ep l↔z∈l:=by
 have a:∀z,z∈jy l↔z∈l:=λz=>(vo l).mem_iff;have c:=Kv l;unfold ep;generalize jy l=m at *;match m,a,c with
 |[],a,_=>exact⟨List.Pairwise.nil,a⟩
 |x::m,a,c=>
  obtain⟨e,f⟩:=TK c (λp hp=>d p ((a p).1 hp));exact⟨e,λz=>(f z).trans (a z)⟩
theorem VJ{l m:Ŀ (Ŀ Za)}(a:∀p∈l,Ñ p=true)(c:hK m)(h:∀z,z∈m↔z∈l):m=ep l:=by obtain⟨d,e⟩:=FY a;exact QR c d λz=>(h z).trans (e z).symm
theorem Gd(l:Ŀ (Ŀ Za)):(ep l).length<=l.length:=Ň TJ (aaV (vo l).length_eq)
end Go.EL

namespace Go.EL
open Go.IntKind (i8 i16 i32 i64 u8 u16 u32 u64)
open Go Go.RowKit
theorem Zxi:(á (-12) 12 λa=>a == 0 || á (-12) 12 λb=>b == 0 || runs 40 (vz (û a) (û b)) (if a<b then -1 else if a=b then 0 else 1))=true:=by decide +kernel
theorem ZvG:(á (-12) 12 λa=>a == 0 || á (-12) 12 λb=>b == 0 || runs 40 (A4 (û a) (û b)) (decide (a=b)))=true:=by decide +kernel
theorem SS{a b:Zf}(c:fo a=true)(d:fo b=true):(vz a b).Α (gZ a b):=by obtain⟨m,rfl,e,f,g⟩:=tX c;obtain⟨n,rfl,i,j,k⟩:=tX d;have h:=Zq Zxi f g;rw[show(m == 0)=false by simpa using e,Ľ]at h;have h':=Zq h j k;rw[show(n == 0)=false by simpa using i,Ľ]at h';unfold gZ;rw[pq,pq];exact Zr h'
theorem Zu3{a b:Zf}(c:fo a=true)(d:fo b=true):(A4 a b).Α (decide (gZ a b=0)):=by
 obtain⟨m,rfl,f,g,i⟩:=tX c;obtain⟨n,rfl,j,k,l⟩:=tX d;have h:=Zq ZvG g i;rw[show(m == 0)=false by simpa using f,Ľ]at h;have h':=Zq h k l;rw[show(n == 0)=false by simpa using j,Ľ]at h';have e:decide (gZ (û m) (û n)=0)=decide (m=n):=by
  unfold gZ;rw[pq,pq];by_cases e:m=n
  .subst e;simp
  rw[Ċ e,Ċ];split
  .decide
  decide
 rw[e];exact Zr h'
theorem SV{p q:Ŀ Za}(hp:Ñ p=true)(l:Ñ q=true):(F3 p q).Α (ë p q):=by
 have t:=vn hp;have u:=vn l;refine(Rw p q 0).mono (p:=λo=>match o with|.inl v=>v=ë p q|.inr ()=>∃k,(k=p.length\/k=q.length)/\k<=p.length/\k<=q.length/\ë p q=ë (p.drop k) (q.drop k)) (λo h=>?_) (Cq.Zn p.length (λk s=>s=(k:Int)/\k<=p.length/\k<=q.length/\ë p q=ë (p.drop k) (q.drop k)) ?_ ?_ ⟨rfl,Ĝ _,Ĝ _,rfl⟩)
 .match o,h with
  |.inl v,h=>exact h
  |.inr (),⟨k,r,i,h2,h3⟩=>
   show(Kr p q).Α _;unfold Kr;rw[h3];by_cases m:p.length<q.length
   .refine Cq.wp.yes ŉ ?_;have:k=p.length:=ŉ;subst this;show(-1:Int)=_;rw[Ķ (Ĉ _),ĭ m];rfl
   refine Cq.wp.no ŉ ?_;have:k=q.length:=ŉ;subst this;by_cases n:q.length<p.length
   .refine Cq.wp.yes ŉ ?_;show(1:Int)=_;rw[Ķ (Ĉ q.length),ĭ n];rfl
   refine Cq.wp.no ŉ ?_;show(0:Int)=_;rw[Ķ (Ĉ q.length),Ķ ŉ];rfl
 .rintro k s d ⟨rfl,i,h2,h3⟩;refine Cq.wp.yes ŉ ?_;by_cases a:k<q.length
  .refine Cq.wp.yes ŉ ?_;have c:=Fb p q d a;show(Rx p q (k:Int)).wp _;refine⟨_,Μ d,_,Μ a,_,Ap _ _,?_⟩;by_cases g:p[k].m=q[k].m
   .refine Cq.wp.no (by rw[g,AR];simp) ⟨_,Μ d,_,Μ a,_,SS (tx hp d) (tx l a),?_⟩;have j:fB p[k] q[k]=gZ p[k].c q[k].c:=ą g;rw[j]at c;by_cases e:gZ p[k].c q[k].c=0
    .rw[ą e]at c;refine Cq.wp.no ŉ ?_;exact⟨ψ ŉ,ŉ,ŉ,h3.trans c⟩
    rw[ā e]at c;refine Cq.wp.yes e ⟨_,Μ d,_,Μ a,_,SS (tx hp d) (tx l a),?_⟩;exact(h3.trans c).symm
   have f:¬Û p[k].m q[k].m=0:=λe=>g (ud e);have j:fB p[k] q[k]=Û p[k].m q[k].m:=ā g;rw[j,ā f]at c;refine Cq.wp.yes f ⟨_,Μ d,_,Μ a,_,Ap _ _,?_⟩;exact(h3.trans c).symm
  refine Cq.wp.no ŉ ?_;exact⟨k,.inr ŉ,i,h2,h3⟩
 rintro s ⟨rfl,i,h2,h3⟩;refine Cq.wp.no ŉ ?_;exact⟨p.length,.inl rfl,i,h2,h3⟩
theorem Zu2{s t:Za}(a:fo s.c=true)(c:fo t.c=true):(Eo s t).Α (decide (fB s t=0)):=by
 unfold Eo fB;by_cases h:s.m=t.m
 .refine Cq.wp.yes h ?_;simp only[ą h];exact⟨_,Zu3 a c,rfl⟩
 refine Cq.wp.no h ?_;simp only[ā h];show false=_;have:¬Û s.m t.m=0:=λe=>h (ud e);simp[this]
theorem Ku{p q:Ŀ Za}(hp:Ñ p=true)(f:Ñ q=true):(tT p q).Α (decide (ë p q=0)):=by
 have j:=vn hp;have l:=vn f;by_cases i:p.length=q.length
 .refine Cq.wp.no ŉ ?_;refine(QX p q 0).mono (p:=λo=>match o with|.inl v=>v=decide (ë p q=0)|.inr ()=>ë p q=0) (λo h=>?_) (Cq.Zn p.length (λk s=>s=(k:Int)/\k<=p.length/\ë p q=ë (p.drop k) (q.drop k)) ?_ ?_ ⟨rfl,Ĝ _,rfl⟩)
  .match o,h with
   |.inl v,h=>exact h
   |.inr (),h=>show true=_;rw[ă h]
  .rintro k s d ⟨rfl,g,h3⟩;have a:k<q.length:=ŉ;refine Cq.wp.yes ŉ ⟨_,Μ d,_,Μ a,_,Zu2 (tx hp d) (tx f a),?_⟩;have c:=Fb p q d a;by_cases e:fB p[k] q[k]=0
   .rw[ą e]at c;rw[ă e];refine Cq.wp.no ĳ ?_;exact⟨ψ ŉ,ŉ,h3.trans c⟩
   rw[ā e]at c;rw[Ċ e];refine Cq.wp.yes ĳ ?_;show false=_;rw[h3,c,Ċ e]
  rintro s ⟨rfl,g,h3⟩;refine Cq.wp.no ŉ ?_;show ë p q=0;rw[h3,Ķ (Ĉ _),Ķ ŉ];rfl
 refine Cq.wp.yes ŉ ?_;show false=_;rw[Ċ (λh=>i (LH h))]
def gW(plain:Bool)(q:Ŀ Za):Bool:=!q.isEmpty&&!(plain&&decide (gi q=0))
theorem Zyr{v:Ŀ (Ŀ Za)}{y:Ŀ Za}(g:∀p∈v,Ñ p=true)(j:Ñ y=true)(l:v.length<=1000):
  (Jx v y 0).wp (λo=>∃k:Nat,o=(k:Int)/\k<=v.length/\(∀i (h:i<v.length),i<k->ë v[i] y<0)/\(∀h:k<v.length,¬ë v[k] y<0)):=by
 refine Cq.Zn v.length (λk s=>s=(k:Int)/\k<=v.length/\∀i (h:i<v.length),i<k->ë v[i] y<0) ?_ ?_ ⟨rfl,Ĝ _,λi _ h=>absurd h (ı _)⟩
 .rintro k s d ⟨rfl,c,h2⟩
  refine Cq.wp.yes ŉ ⟨_,Μ d,_,SV (g _ (Ă d)) j,?_⟩
  by_cases a:ë v[k] y<0
  .refine Cq.wp.yes a ⟨ψ ŉ,ŉ,λi hi f=>?_⟩
   by_cases e:i=k
   .subst e;exact a
   exact h2 i hi ŉ
  exact Cq.wp.no a ⟨k,rfl,c,h2,λ_=>a⟩
 rintro s ⟨rfl,c,h2⟩
 exact Cq.wp.no ŉ ⟨v.length,rfl,c,h2,λh=>absurd h (Nat.lt_irrefl _)⟩
theorem ZvO{v:Ŀ (Ŀ Za)}{y:Ŀ Za}(l:hK v){k:Nat}(t:k<=v.length)(m:∀i (h:i<v.length),i<k->ë v[i] y<0)(h2:∀h:k<v.length,0<ë v[k] y):
  hK (v.take k++([y]++v.drop k))/\∀z,z∈v.take k++([y]++v.drop k)↔z∈v\/z=y:=by
 have n:∀z∈v.drop k,0<ë z y:=λz f=>by
  obtain⟨j,d,rfl⟩:=du f;rw[ľ]at d;have il:k<v.length:=ŉ;rw[List.getElem_drop];have q:=h2 il;by_cases e:j=0
  .subst e;exact q
  have:=Ħ.1 l k (k+j) il ŉ ŉ;have u:=qz v[k] y;have x:=qz v[k+j] y;have:=(yH y v[k] v[k+j] ŉ ŉ).2 (.inl ŉ);omega
 refine⟨?_,λz=>?_⟩
 .unfold hK
  rw[eu]
  have ot:((v.take k)++v.drop k).Pairwise λa b=>ë a b<0:=by rw[Ń];exact l
  obtain⟨p,r,s⟩:=eu.1 ot
  refine⟨p,?_,λa g b c=>?_⟩
  .refine Į.2 ⟨λz f=>?_,r⟩
   have:=n z f
   have:=qz z y
   omega
  rcases Ď.1 c with rfl|c
  .obtain⟨j,d,rfl⟩:=du g
   rw[č]at d
   rw[aae]
   exact m j ŉ ŉ
  exact s a g b c
 have:z∈v↔z∈v.take k\/z∈v.drop k:=by rw[<-Ĩ,Ń]
 rw[this]
 simp only[Ĩ,Ď,ĝ,ţ,List.singleton_append]
 constructor
 .rintro (h|h|h)
  .exact .inl (.inl h)
  .exact .inr h
  exact .inl (.inr h)
 rintro ((h|h)|h)
 .exact .inl h
 .exact .inr (.inr h)
 exact .inr (.inl h)
def kept(l:Ŀ (Ŀ Za))(plain:Bool):Ŀ (Ŀ Za):=(l.map Χ).filter (gW plain)
theorem Fh{l:Ŀ (Ŀ Za)}(h:∀p∈l,ω p){plain:Bool}:∀q∈kept l plain,ω q:=λq a=>by obtain⟨p,hp,rfl⟩:=Ğ.1 (ŋ.1 a).1;exact vB (h p hp)
theorem AW(l:Ŀ (Ŀ Za))(plain:Bool){k:Nat}(a:k<l.length):kept (l.take (k+1)) plain=kept (l.take k) plain++(if gW plain (Χ l[k])=true then[Χ l[k]]else[]):=by unfold kept;rw[ċ a,Ī,aba];congr 1;simp only[Ġ,ő,Ŏ,List.filter_nil]
structure kF (l:Ŀ (Ŀ Za)) (plain:Bool) (k:Nat) (v:Ŀ (Ŀ Za)):Prop where
 st:hK v
 mem:∀z,z∈v↔z∈kept (l.take k) plain
 len:v.length<=k
theorem kF.skip{l:Ŀ (Ŀ Za)}{plain:Bool}{k:Nat}{v:Ŀ (Ŀ Za)}(h:kF l plain k v)(a:k<l.length)(c:gW plain (Χ l[k])=false):kF l plain (k+1) v:=
 ⟨h.st,λz=>by rw[h.mem z,AW l plain a,c];simp,aax h.len⟩
theorem kF.same{l:Ŀ (Ŀ Za)}{plain:Bool}{k:Nat}{v:Ŀ (Ŀ Za)}(h:kF l plain k v)(c:k<l.length)(d:Χ l[k]∈v):kF l plain (k+1) v:=
 ⟨h.st,(λz=>by
  rw[h.mem z,AW l plain c,Ĩ];refine⟨.inl,λa=>?_⟩;rcases a with a|a
  .exact a
  split at a
  .rw[Ĕ]at a;subst a;exact(h.mem _).1 d
  cases a),aax h.len⟩
theorem kF.put{l:Ŀ (Ŀ Za)}{plain:Bool}{k:Nat}{v:Ŀ (Ŀ Za)}(h:kF l plain k v)(d:k<l.length)(e:gW plain (Χ l[k])=true){j:Nat}(c:j<=v.length)(a:∀i (h:i<v.length),i<j->ë v[i] (Χ l[k])<0)(h2:∀h:j<v.length,0<ë v[j] (Χ l[k])):
  kF l plain (k+1) (v.take j++([Χ l[k]]++v.drop j)):=by
 obtain⟨f,g⟩:=ZvO h.st c a h2
 refine⟨f,λz=>?_,?_⟩
 .rw[g z,h.mem z,AW l plain d,e,ą rfl,Ĩ,Ĕ]
 have:=h.len
 simp only[Ā,č,ľ,ė]
 omega
theorem RY{l:Ŀ (Ŀ Za)}{plain:Bool}{k:Nat}{v:Ŀ (Ŀ Za)}(h:kF l plain k v)(C:l.length<=100)(g:k<l.length)(A:gW plain (Χ l[k])=true)(hp:∀p∈l,ω p){j:Nat}(y:j<=v.length)(x:∀i (h:i<v.length),i<j->ë v[i] (Χ l[k])<0)(h2:∀h:j<v.length,¬ë v[j] (Χ l[k])<0)(q:∀p∈v,Ñ p=true):
  (if(j:Int)<(v.length:Int)then(Cq.Θ v (j:Int) λB=>Cq.bind (tT B (Χ l[k])) λm=>if m=true then(Cq.ret (.inl (v,i64.wrap ((k:Int)+1))))else(tQ v (k:Int) (Χ l[k]) (j:Int)))else(tQ v (k:Int) (Χ l[k]) (j:Int))).wp (Out (λs=>∃f,s=(f,((k+1:Nat):Int))/\kF l plain (k+1) f) λr=>r=ep (kept l plain)):=by
 have n:=h.len
 have c:Ñ (Χ l[k])=true:=(vB (hp _ (Ă g))).gq
 have d:(∀h:j<v.length,0<ë v[j] (Χ l[k]))->(tQ v (k:Int) (Χ l[k]) (j:Int)).wp (Out (λs=>∃f,s=(f,((k+1:Nat):Int))/\kF l plain (k+1) f) λr=>r=ep (kept l plain)):=λh2=>by
  unfold tQ;have t:(v.take (v.length:Int).toNat).drop (j:Int).toNat=v.drop j:=by rw[Ē,Ē,ě (Ĉ _)]
  have u:((v.take (j:Int).toNat).drop (0:Int).toNat)=v.take j:=by rw[Ē];rfl
  rw[t,u];refine⟨⟨ŉ,ŉ,ŉ⟩,?_,⟨ŉ,ŉ,ŉ⟩,?_,_,?_,h.put g A y x h2⟩
  .simp only[Ā,ľ,ė,small];omega
  .simp only[Ā,č,ľ,ė,small];omega
  rw[ψ ŉ]
 by_cases a:j<v.length
 .refine Cq.wp.yes ŉ ⟨_,Μ a,_,Ku (q _ (Ă a)) c,?_⟩
  by_cases e:ë v[j] (Χ l[k])=0
  .refine Cq.wp.yes (ă e) ⟨_,by rw[ψ ŉ],h.same g (by rw[<-AS (q _ (Ă a)) c e];exact Ă a)⟩
  refine Cq.wp.no (by simpa using e) (d λ_=>?_)
  have:=h2 a
  omega
 exact Cq.wp.no ŉ (d λh=>absurd h a)
theorem PE{l:Ŀ (Ŀ Za)}(t:l.length<=100)(h:∀p∈l,ω p)(plain:Bool):(E1 l plain).Α (ep (kept l plain)):=by
 refine Cq.Zn l.length (λk s=>∃v,s=(v,(k:Int))/\kF l plain k v) ?_ ?_ ⟨[],rfl,List.Pairwise.nil,λz=>by simp[kept],Ĝ _⟩
 .rintro k s c ⟨v,rfl,hi⟩;have u:=hi.len;have y:=vB (h _ (Ă c));have a:=y.gq;have m:∀p∈v,Ñ p=true:=λp hp=>(Fh (λq B=>h q (ś B)) p ((hi.mem p).1 hp)).gq;refine Cq.wp.yes ŉ ⟨_,Μ c,_,PD (h _ (Ă c)),?_⟩;refine(Jx v (Χ l[k]) 0).mono (λo ⟨j,i,r,n,h2⟩=>?_) (Zyr m a ŉ);subst i;show(Jy plain v (k:Int) (Χ l[k]) (j:Int)).wp _;unfold Jy;by_cases g:Χ l[k]=[]
  .refine Cq.wp.yes (by rw[g];rfl) ⟨v,by rw[ψ ŉ],hi.skip c (by rw[g];rfl)⟩
  have d:(Χ l[k]).isEmpty=false:=by simpa using g
  have A:(Χ l[k]).length≠0:=λe=>g (abt.1 e);refine Cq.wp.no ŉ ?_;cases plain with
  |true=>
   refine Cq.wp.yes rfl ⟨_,wU y,?_⟩;by_cases f:gi (Χ l[k])=0
   .refine Cq.wp.yes f ⟨v,by rw[ψ ŉ],hi.skip c (by unfold gW;rw[decide_eq_true f];simp)⟩
   refine Cq.wp.no f ?_;exact RY hi t c (by unfold gW;rw[d,decide_eq_false f];rfl) h r n h2 m
  |false=>
   refine Cq.wp.no ĳ ?_;exact RY hi t c (by unfold gW;rw[d];rfl) h r n h2 m
 rintro s ⟨v,rfl,hi⟩;refine Cq.wp.no ŉ ?_;have x:=hi.mem;rw[ě (Ĉ _)]at x;exact VJ (λp hp=>(Fh h p hp).gq) hi.st x
end Go.EL

namespace Go.EL
open Go.IntKind (i8 i16 i32 i64 u8 u16 u32 u64)
open Go Go.RowKit
def ku(b:Int):Bool:=decide (65<=b/\b<=90) || decide (97<=b/\b<=122)
def qg(b:Int):Bool:=decide (48<=b/\b<=57) || decide (b=95)
def ja(i:Nat)(b:Int):Bool:=ku b || (decide (0<i)&&qg b)
def je(s:Ĳ):Bool:=decide (1<=s.size/\s.size<=12)&&(List.range s.size).all λi=>ja i (eQ s (i:Int))
theorem UZ{s:Ĳ}{i:Nat}(hi:i<s.size)(h:ja i (eQ s (i:Int))=false):je s=false:=by unfold je;rw[aaD];right;rw[List.all_eq_false];exact⟨i,ĺ.2 hi,by rw[h];decide⟩
theorem Zyf{s:Ĳ}(a:1<=s.size/\s.size<=12)(h:∀i,i<s.size->ja i (eQ s (i:Int))=true):je s=true:=by unfold je;rw[ă a,Ť,Ć];exact λi hi=>h i (ĺ.1 hi)
theorem Rt(b:Int):(AD b).Α (ku b):=by
 unfold AD ku;by_cases a:65<=b<;>by_cases h2:b<=90<;>by_cases h3:97<=b<;>simp[a,h2,h3]<;>first|rfl|omega
theorem ZxO(s:Ĳ):(FM s).Α (je s):=by
 unfold FM;by_cases n:(s.size:Int)<1
 .rw[ą n];show false=je s;unfold je;rw[Ċ ŉ,Ŷ]
 rw[ā n];by_cases h2:12<(s.size:Int)
 .rw[ą h2];show false=je s;unfold je;rw[Ċ ŉ,Ŷ]
 rw[ā h2];refine⟨ŉ,_,Rt _,?_⟩;rw[Cq.Zm];cases h3:ku (eQ s 0)with
 |false=>
  rw[ą ĳ];exact(UZ (i:=0) ŉ (by unfold ja;rw[show((0:Nat):Int)=0 from rfl,h3];simp)).symm
 |true=>
  rw[ā ĳ];show(Cq.next _ _).wp _;refine Cq.Zn (s.size-1) (λk st=>st=((k+1:Nat):Int)/\∀i,i<k+1->ja i (eQ s (i:Int))=true) (λk st r m=>?_) (λst m=>?_) ⟨rfl,λi hi=>?_⟩
  .obtain⟨rfl,hi⟩:=m;have f:∀{b:Int},b=eQ s ((k+1:Nat):Int)->ja (k+1) b=true->∀i,i<k+1+1->ja i (eQ s (i:Int))=true:=by
    intro b p q i l;by_cases e:i=k+1
    .subst e;rw[<-p];exact q
    exact hi i ŉ
   rw[Cq.Zm,ą ŉ];refine⟨ŉ,_,Rt _,?_⟩;cases j:ku (eQ s ((k+1:Nat):Int))with
   |true=>exact⟨ψ ŉ,f rfl (by unfold ja;rw[j];rfl)⟩
   |false=>
    have g:qg (eQ s ((k+1:Nat):Int))=false->false=je s:=λh=>(UZ (i:=k+1) ŉ (by unfold ja;rw[j,h];simp)).symm;have d:qg (eQ s ((k+1:Nat):Int))=true->∀i,i<k+1+1->ja i (eQ s (i:Int))=true:=λh=>f rfl (by unfold ja;rw[j,h];simp);refine⟨ŉ,?_⟩;rw[Cq.Zm];unfold qg at g d;split
    .refine⟨ŉ,?_⟩;rw[Cq.Zm];split
     .rename_i a b;exact⟨ψ ŉ,d (by rw[ă ⟨a,b⟩];rfl)⟩
     rename_i a b;refine⟨ŉ,?_⟩;rw[Cq.Zm];split
     .rename_i c;exact g (by rw[Ċ (λh=>b h.2),Ċ c];rfl)
     rename_i c;exact⟨ψ ŉ,d (by rw[ă (abj.1 c)];simp)⟩
    rename_i a;refine⟨ŉ,?_⟩;rw[Cq.Zm];split
    .rename_i c;exact g (by rw[Ċ (λh=>a h.1),Ċ c];rfl)
    rename_i c;exact⟨ψ ŉ,d (by rw[ă (abj.1 c)];simp)⟩
  .obtain⟨rfl,hi⟩:=m;rw[Cq.Zm,ā ŉ];exact(Zyf ŉ λi l=>hi i ŉ).symm
  obtain rfl:i=0:=ŉ;unfold ja;rw[show((0:Nat):Int)=0 from rfl,h3];rfl
end Go.EL

namespace Go.EL
open Go.IntKind (i8 i16 i32 i64 u8 u16 u32 u64)
open Go Go.RowKit
structure ig (n:Nat) (next:Int) (l:Ŀ Zo):Prop where
 len:l.length<=12
 ids:∀q∈l,1<=q.id/\q.id<next
 inc:l.Pairwise λa b=>a.id<b.id
 hZ:∀q∈l,ω q.p/\Ð q.p (n:Int)=true
structure Good (s:Zx):Prop where
 vars:s.vars.length<=4
 name:∀v∈s.vars,je v=true
 diff:s.vars.Pairwise λa b=>a≠b
 next:1<=s.next/\s.next<=1000000
 eqs:ig s.vars.length s.next s.eqs
 δ:ig s.vars.length s.next s.δ
 apart:∀a∈s.eqs,∀b∈s.δ,a.id≠b.id
theorem KD{p:Ŀ Za}(h:ω p){n:Nat}(c:n<=4)(g:Ð p (n:Int)=true):(yF p (n:Int)).Α true:=by
 obtain⟨f,h2⟩:=(pr (p:=p) (n:=n) ŉ).1 g;have e:u64.wrap (n:Int)=(n:Int):=by
  match n,c with
  |0,_=>rfl
  |1,_=>rfl
  |2,_=>rfl
  |3,_=>rfl
  |4,_=>rfl
 refine⟨true,Ah h,_,wU h,?_⟩;rw[Cq.Zm,ą ((tw ŉ).2 h2)];refine⟨_,Af h.len,by rw[e];omega,?_⟩;have i:=ua p;have d:=yD.2 f;rw[ů]at d;have a:(ï p).toNat<2 ^ n:=by
  rcases eH.1 d with h|h
  .have:=aac n;omega
  exact h
 show _=_;rw[e,wrap64 ŉ];refine ă ?_;match n,c with
 |0,_=>exact Œ (show ï p<1 by simp at a;omega) ĳ
 |1,_=>exact Œ (show ï p<2 by simp at a;omega) ĳ
 |2,_=>exact Œ (show ï p<4 by simp at a;omega) ĳ
 |3,_=>exact Œ (show ï p<8 by simp at a;omega) ĳ
 |4,_=>exact Œ (show ï p<16 by simp at a;omega) ĳ
theorem Tt{n:Nat}(e:n<=4){next:Int}{l:Ŀ Zo}(h:ig n next l):(A7 l (n:Int) next).Α true:=by
 have m:=h.len;unfold A7;rw[ā ŉ];show(Cq.next _ _).wp _;refine Cq.Zn l.length (λk s=>s=(k:Int)) (λk s a c=>?_) (λs c=>?_) rfl
 .subst c;have f:=h.ids _ (Ă a);obtain⟨hp,d⟩:=h.hZ _ (Ă a);rw[Cq.Zm,ą ŉ];refine⟨l[k],Μ a,?_⟩;rw[Cq.Zm,ā ŉ];refine⟨l[k],Μ a,?_⟩;rw[Cq.Zm,ā ŉ,Cq.Zm];split
  .rename_i i;obtain⟨j,rfl⟩:∃j,k=j+1:=⟨k-1,ŉ⟩;have g:i64.wrap (((j+1:Nat):Int)-1)=(j:Int):=by rw[wrap64 ŉ];omega
   rw[g];have:=Ħ.1 h.inc j (j+1) ŉ a ŉ;refine⟨l[j],Μ ŉ,l[j+1],Μ a,?_⟩;rw[Cq.Zm,ā ŉ];refine⟨l[j+1],Μ a,true,KD hp e d,?_⟩;rw[Cq.Zm,ā ĳ];exact ψ ŉ
  refine⟨l[k],Μ a,true,KD hp e d,?_⟩;rw[Cq.Zm,ā ĳ];exact ψ ŉ
 subst c;rw[Cq.Zm,ā ŉ];rfl
theorem Zpy{s:Zx}(h:Good s):(E9 s).Α true:=by
 have f:=h.vars;have l:=h.next;have i:=h.eqs.len;have g:=h.δ.len;unfold E9;rw[ā ŉ,ā ŉ,ā ŉ];refine⟨true,Tt f h.eqs,true,Tt f h.δ,?_⟩;rw[Cq.Zm,ā ĳ];show(Cq.next _ _).wp _;refine Cq.Zn s.vars.length (λk st=>st=(k:Int)) (λk st c a=>?_) (λst a=>?_) rfl
 .subst a;rw[Cq.Zm,ą ŉ];show(Cq.next _ _).wp _;refine Cq.Zn k (λj st=>st=(j:Int)) (λj st d a=>?_) (λst a=>?_) rfl
  .subst a;have:=Ħ.1 h.diff j k ŉ c d;rw[Cq.Zm,ą ŉ];refine⟨s.vars[k],Μ c,s.vars[j],Μ ŉ,?_⟩;rw[Cq.Zm,ā (λe=>this e.symm)];exact ψ ŉ
  subst a;rw[Cq.Zm,ā ŉ];show(Qq s (k:Int)).wp _;refine⟨s.vars[k],Μ c,_,ZxO _,?_⟩;rw[h.name _ (Ă c),Cq.Zm,ā ĳ];exact ψ ŉ
 subst a;rw[Cq.Zm,ā ŉ];show(Qp s).wp _;show(Cq.next _ _).wp _;refine Cq.Zn s.eqs.length (λk st=>st=(k:Int)) (λk st c a=>?_) (λst a=>?_) rfl
 .subst a;rw[Cq.Zm,ą ŉ];show(Cq.next _ _).wp _;refine Cq.Zn s.δ.length (λj st=>st=(j:Int)) (λj st d a=>?_) (λst a=>?_) rfl
  .subst a;rw[Cq.Zm,ą ŉ];refine⟨s.eqs[k],Μ c,s.δ[j],Μ d,?_⟩;rw[Cq.Zm,ā (h.apart _ (Ă c) _ (Ă d))];exact ψ ŉ
  subst a;rw[Cq.Zm,ā ŉ];exact ψ ŉ
 subst a;rw[Cq.Zm,ā ŉ];rfl
end Go.EL

namespace Go.EL
open Go.IntKind (i8 i16 i32 i64 u8 u16 u32 u64)
open Go Go.RowKit
abbrev Ù:=Ŀ Za
instance BJ:DecidableEq Za:=λ⟨a1,a2⟩ ⟨a,c⟩=>decidable_of_iff (a1=a/\a2=c) ß
def iV:Ù:=[⟨û 1,λ_=>0⟩]
def iI:Zb:=⟨0,[],[]⟩
def gI(l:Ŀ Ù):Ŀ Ù:=(l.filter λp=>p.isEmpty).map λ_=>iV
def hN(eqs δ:Ŀ Ù):Ŀ Ù:=kept eqs false++gI δ
def im(n:Int)(eqs δ:Ŀ Ù):Zb×Int:=
 if 1<=n/\n<=4 then
  if(eqs++δ).all (λp=>Ð p n)=true then
   if 12<(ep (hN eqs δ)).length then(iI,2)
   else if 12<(ep (kept δ true)).length then(iI,2)
   else(⟨n,ep (hN eqs δ),ep (kept δ true)⟩,0)
  else(iI,1)
 else(iI,1)
theorem Bj:ω iV where
 ord:=ū _ _
 th:=λt a=>by rw[iV,Ĕ]at a;subst a;exact⟨⟨1,rfl,ĳ,ĳ,ĳ⟩,Od⟩
 len:=ĳ
theorem LQ:Χ iV=iV:=by decide +kernel
theorem SJ:∀l:Ŀ Ù,kept (gI l) false=gI l
 |[]=>rfl
 |p::l=>by
  have a:=SJ l;unfold gI at a⊢;rw[Ŏ];split
  .rw[Ġ];show(Χ iV::List.map Χ _).filter _=_;rw[Ŏ,ą (by rw[LQ];rfl),LQ];exact đ _ a
  exact a
theorem Zty(a b:Ŀ Ù)(plain:Bool):kept (a++b) plain=kept a plain++kept b plain:=by unfold kept;rw[List.map_append,List.filter_append]
theorem LR{l:Ŀ Ù}:∀p∈gI l,p=iV:=λp hp=>by obtain⟨_,_,h⟩:=Ğ.1 hp;exact h.symm
theorem FU(l:Ŀ Ù):(gI l).length<=l.length:=by unfold gI;rw[List.length_map];exact List.length_filter_le _ _
theorem vu(l:Ŀ Ù)(plain:Bool):(kept l plain).length<=l.length:=by unfold kept;exact Nat.le_trans (List.length_filter_le _ _) (Nat.le_of_eq (List.length_map _))
theorem TN(a b:Ŀ Ù):(hN a b).length<=a.length+b.length:=by have:=vu a false;have:=FU b;unfold hN;rw[Ā];omega
theorem Zzq{a b:Ŀ Ù}(c:∀p∈a,ω p):∀p∈hN a b,ω p:=λp hp=>by
 rcases Ĩ.1 hp with h|h
 .exact Fh c p h
 rw[LR p h];exact Bj
theorem Km{p:Ù}(h:ω p)(a:p≠[]):0<=gi p:=by
 obtain⟨t,c⟩:=abd _ a;by_cases d:gi p<=-1
 .have:=(tw ĳ).1 d t c;have e:=(FD (h.th t c).m 8).1;unfold fG at this;omega
 omega
theorem ZtI{p:Ù}(h:ω p){n:Nat}(i:n<=4):(yF p (n:Int)).Α (Ð p (n:Int)):=by
 cases g:Ð p (n:Int)with
 |true=>exact KD h i g
 |false=>
  have j:¬(lB n p/\∀t∈p,fG t.m<=12):=λc=>by rw[(pr ŉ).2 c]at g;cases g
  refine⟨true,Ah h,_,wU h,?_⟩;by_cases f:gi p<=12
  .have c:¬lB n p:=λc=>j ⟨c,(tw ĳ).1 f⟩;have m:=ua p;have k:¬(ï p).toNat >>> n=0:=λe=>c (yD.1 e);rw[ů]at k;have a:2 ^ n<=(ï p).toNat:=by
    by_cases l:(ï p).toNat<2 ^ n
    .exact absurd (aaJ l) k
    omega
   have d:u64.wrap (n:Int)=(n:Int):=by
    match n,i with
    |0,_=>rfl
    |1,_=>rfl
    |2,_=>rfl
    |3,_=>rfl
    |4,_=>rfl
   refine Cq.wp.yes f ⟨_,Af h.len,by rw[d];omega,?_⟩;show _=_;rw[d,wrap64 ŉ];refine Ċ ?_;match n,i with
   |0,_=>exact aaI.2 (aaa ĳ (show(1:Int)<=ï p by simp at a;omega))
   |1,_=>exact aaI.2 (aaa ĳ (show(2:Int)<=ï p by simp at a;omega))
   |2,_=>exact aaI.2 (aaa ĳ (show(4:Int)<=ï p by simp at a;omega))
   |3,_=>exact aaI.2 (aaa ĳ (show(8:Int)<=ï p by simp at a;omega))
   |4,_=>exact aaI.2 (aaa ĳ (show(16:Int)<=ï p by simp at a;omega))
  exact Cq.wp.no f rfl
theorem Uq{l:Ŀ Ù}(m:l.length<=100)(h:∀p∈l,ω p){n:Nat}(j:n<=4):(F7 l (n:Int)).Α (l.all λp=>Ð p (n:Int)):=by
 refine(RA l (n:Int) 0).mono (p:=λo=>match o with|.inl v=>v=l.all λp=>Ð p (n:Int)|.inr ()=>(l.all λp=>Ð p (n:Int))=true) (λo h=>?_) (Cq.Zn l.length (λk s=>s=(k:Int)/\∀i (h:i<l.length),i<k->Ð l[i] (n:Int)=true) ?_ ?_ ⟨rfl,λi _ h=>absurd h (ı _)⟩)
 .match o,h with
  |.inl v,h=>exact h
  |.inr (),h=>exact h.symm
 .rintro k s d ⟨rfl,c⟩;refine Cq.wp.yes ŉ ⟨_,Μ d,_,ZtI (h _ (Ă d)) j,?_⟩;by_cases a:Ð l[k] (n:Int)=true
  .rw[a];refine Cq.wp.no ĳ ⟨ψ ŉ,λi hi g=>?_⟩;by_cases e:i=k
   .subst e;exact a
   exact c i hi ŉ
  rw[ź.2 a];refine Cq.wp.yes ĳ ?_;show false=_;refine(ź.2 λf=>?_).symm;exact a (Ć.1 f _ (Ă d))
 rintro s ⟨rfl,c⟩;refine Cq.wp.no ŉ ?_;refine Ć.2 λp hp=>?_;obtain⟨i,hi,rfl⟩:=du hp;exact c i hi hi
theorem Zvc{a b:Ŀ Ù}(f:a.length<=100)(g:b.length<=100):(I3 [a,b]).Α (a++b):=by
 refine Cq.Zn 2 (λk s=>s=(if k=0 then 0 else if k=1 then(a.length:Int)else(a.length:Int)+(b.length:Int),(k:Int))) (λk s d c=>?_) (λs c=>?_) rfl
 .subst c;have e:k=0\/k=1:=ŉ;rcases e with rfl|rfl
  .refine Cq.wp.yes (by show(0:Int)<2;decide) ⟨a,⟨ĳ,rfl⟩,?_⟩;have:i64.wrap (0+(a.length:Int))=(a.length:Int):=by rw[wrap64 ŉ];omega
   refine Cq.wp.no (by rw[ą rfl,this];omega) ?_;show _=_;rw[ą rfl,this];rfl
  refine Cq.wp.yes (by show(1:Int)<2;decide) ⟨b,⟨ĳ,rfl⟩,?_⟩;have:i64.wrap ((a.length:Int)+(b.length:Int))=(a.length:Int)+(b.length:Int):=by rw[wrap64 ŉ]
  refine Cq.wp.no (by rw[ā ĳ,ą rfl,this];omega) ?_;show _=_;rw[ā ĳ,ą rfl,this];rfl
 subst c;refine Cq.wp.no (by show ¬(2:Int)<2;decide) ?_;refine⟨[],⟨⟨?_,?_⟩,rfl⟩,?_⟩
 .rw[ā ĳ,ā ĳ];omega
 .rw[ā ĳ,ā ĳ];omega
 refine Cq.Zn 2 (λk s=>s=(if k=0 then[]else if k=1 then a else a++b,(k:Int))) (λk s d c=>?_) (λs c=>?_) rfl
 .subst c;have e:k=0\/k=1:=ŉ;rcases e with rfl|rfl
  .refine Cq.wp.yes (by show(0:Int)<2;decide) ⟨a,⟨ĳ,rfl⟩,?_,?_⟩
   .rw[ą rfl,ļ];simp only[small];omega
   show _=_;rw[ą rfl,ļ];rfl
  refine Cq.wp.yes (by show(1:Int)<2;decide) ⟨b,⟨ĳ,rfl⟩,?_,?_⟩
  .rw[ā ĳ,ą rfl,Ā];simp only[small];omega
  show _=_;rw[ā ĳ,ą rfl];rfl
 subst c;refine Cq.wp.no (by show ¬(2:Int)<2;decide) ?_;show _=_;rw[ā ĳ,ā ĳ]
theorem vC{n:Int}(h:1<=n/\n<=4):∃m:Nat,n=(m:Int)/\1<=m/\m<=4:=⟨n.toNat,ŉ,ŉ,ŉ⟩
theorem uP:(wN 1).Α (û 1):=Cq.Α.me 20 (by decide +kernel)
theorem pX:(DR (û 1)).Α iV:=Cq.Α.me 20 (by decide +kernel)
theorem uR:(ZX 1).Α (û 1):=Cq.Α.me 20 (by decide +kernel)
theorem pZ:(Em (û 1)).Α iV:=Cq.Α.me 20 (by decide +kernel)
theorem QP{l:Ŀ Ù}(a:l.length<=100)(h:∀p∈l,ω p):(Ed l).Α (ep l):=⟨⟨a,Ć.2 λp hp=>(h p hp).gq⟩,rfl⟩
theorem RR(l:Ŀ Ù){k:Nat}(a:k<l.length):gI (l.take (k+1))=gI (l.take k)++(if l[k]=[]then[iV]else[]):=by
 unfold gI;rw[ċ a,aba,Ī];congr 1;rw[Ŏ];by_cases h:l[k]=[]
 .rw[ą (by simpa using h),ą h];rfl
 rw[ā (by simpa using h),ā h];rfl
theorem Ztq{n:Int}{eqs δ:Ŀ Ù}(le:eqs.length<=40)(ln:δ.length<=40)(t:∀p∈eqs,ω p)(u:∀p∈δ,ω p):(Ec n eqs δ).Α (im n eqs δ):=by
 unfold im;by_cases g:n<1
 .rw[ā (show ¬(1<=n/\n<=4) by omega)];exact Cq.wp.yes g rfl
 refine Cq.wp.no g ?_;by_cases A:4<n
 .rw[ā (show ¬(1<=n/\n<=4) by omega)];exact Cq.wp.yes A rfl
 refine Cq.wp.no A ?_;rw[ą ⟨ŉ,ŉ⟩];obtain⟨m,rfl,N,O⟩:=vC ⟨show 1<=n by omega,ŉ⟩;have q:∀p∈eqs++δ,ω p:=λp hp=>(Ĩ.1 hp).elim (t p) (u p);refine⟨eqs++δ,Zvc ŉ ŉ,?_⟩;have C:(eqs++δ).length<=100:=by rw[Ā];omega
 generalize L:eqs++δ=l at *;refine(Pm (m:Int) l (0,iI)).mono (p:=λo=>match o with|.inl v=>v=(iI,1)/\(l.all λp=>Ð p (m:Int))=false|.inr _=>(l.all λp=>Ð p (m:Int))=true) (λo h=>?_) (Cq.Zn l.length (λk s=>s=((k:Int),iI)/\∀i (h:i<l.length),i<k->Ð l[i] (m:Int)=true) ?_ ?_ ⟨rfl,λi _ h=>absurd h (ı _)⟩);rotate_left
 .rintro k s a ⟨rfl,g⟩;refine Cq.wp.yes ŉ ⟨_,Μ a,_,Znv (q _ (Ă a)) ŉ,?_⟩;by_cases j:Ð l[k] (m:Int)=true
  .rw[j];refine Cq.wp.no ĳ ⟨by rw[ψ ŉ],λi hi G=>?_⟩;by_cases e:i=k
   .subst e;exact j
   exact g i hi ŉ
  rw[ź.2 j];refine Cq.wp.yes ĳ ⟨rfl,ź.2 λr=>?_⟩;exact j (Ć.1 r _ (Ă a))
 .rintro s ⟨rfl,g⟩;refine Cq.wp.no ŉ ?_;refine Ć.2 λp hp=>?_;obtain⟨i,hi,rfl⟩:=du hp;exact g i hi hi
 match o,h with
 |.inl v,⟨I,j⟩=>rw[j,ā ĳ];exact I
 |.inr _,r=>
  rw[ą r];show(Pp (m:Int) eqs δ).Α _;refine Cq.Zn eqs.length (λk s=>s=(kept (eqs.take k) false,(k:Int))) (λk s a d=>?_) (λs d=>?_) rfl
  .subst d;refine Cq.wp.yes ŉ ⟨_,Μ a,?_⟩;have d:=AW eqs false a;have:=vu (eqs.take k) false;rw[č]at this;by_cases c:eqs[k]=[]
   .refine Cq.wp.no (by rw[c];decide) ?_;show _=_;rw[d,c,ā ĳ,ę,ψ ŉ]
   have hp:0<eqs[k].length:=ş.2 c;refine Cq.wp.yes ŉ ⟨_,Kn (t _ (Ă a)) c,?_,?_⟩
   .rw[Ā,ė];simp only[small];omega
   show _=_;have a:gW false (Χ eqs[k])=true:=by
    have:(Χ eqs[k]).isEmpty=false:=by simpa using λe=>c (Bc.1 e)
    unfold gW;rw[this];rfl
   rw[d,a,ą rfl,ψ ŉ]
  subst d;refine Cq.wp.no ŉ ?_;rw[ě (Ĉ _)];show(Po (m:Int) δ (kept eqs false)).Α _;refine Cq.Zn δ.length (λk s=>s=(kept eqs false++gI (δ.take k),kept (δ.take k) true,(k:Int))) (λk s a d=>?_) (λs d=>?_) (by show _=_;rw[ř];show _=(kept eqs false++[],_,_);rw[ę];rfl)
  .subst d;have d:=AW δ true a;have y:=RR δ a;have D:=vu (δ.take k) true;have J:=vu eqs false;have K:=FU (δ.take k);rw[č]at D K;refine Cq.wp.yes ŉ ⟨_,Μ a,?_⟩;by_cases c:δ[k]=[]
   .refine Cq.wp.yes (by rw[c];rfl) ⟨_,uP,_,pX,?_,?_⟩
    .rw[Ā,Ā,ė];simp only[small];omega
    show _=_;rw[d,y,c,ą rfl,ā ĳ,ę,ψ ŉ,Đ]
   have hp:0<δ[k].length:=ş.2 c;have f:=u _ (Ă a);have x:(Χ δ[k]).isEmpty=false:=by simpa using λe=>c (Bc.1 e)
   have H:=Km f c;refine Cq.wp.no ŉ ⟨_,yz f,?_⟩;by_cases B:0<gi δ[k]
   .refine Cq.wp.yes B ⟨_,Kn f c,?_,?_⟩
    .rw[Ā,ė];simp only[small];omega
    show _=_;have a:gW true (Χ δ[k])=true:=by unfold gW;rw[x,xw,decide_eq_false ŉ];rfl
    rw[d,y,ā c,a,ą rfl,ψ ŉ,ę]
   refine Cq.wp.no B ?_;show _=_;have a:gW true (Χ δ[k])=false:=by unfold gW;rw[xw,decide_eq_true ŉ];simp
   rw[d,y,ā c,a,ā ĳ,ψ ŉ,ę,ę]
  subst d;refine Cq.wp.no ŉ ?_;rw[ě (Ĉ _)];show(Pn (m:Int) (hN eqs δ) (kept δ true)).Α _;have D:=TN eqs δ;have J:=vu δ true;refine⟨_,QP ŉ (Zzq t),_,QP ŉ (Fh u),?_⟩;by_cases E:12<(ep (hN eqs δ)).length
  .rw[ą E];exact Cq.wp.yes ŉ rfl
  rw[ā E];refine Cq.wp.no ŉ ?_;by_cases F:12<(ep (kept δ true)).length
  .rw[ą F];exact Cq.wp.yes ŉ rfl
  rw[ā F];exact Cq.wp.no ŉ rfl
theorem Q0{n:Int}{eqs δ:Ŀ Ù}(le:eqs.length<=40)(ln:δ.length<=40)(g:∀p∈eqs,ω p)(j:∀p∈δ,ω p):(E3 n eqs δ).Α (im n eqs δ):=by
 unfold im;by_cases d:n<1
 .rw[ā (show ¬(1<=n/\n<=4) by omega)];exact Cq.wp.yes d rfl
 refine Cq.wp.no d ?_;by_cases f:4<n
 .rw[ā (show ¬(1<=n/\n<=4) by omega)];exact Cq.wp.yes f rfl
 refine Cq.wp.no f ?_;rw[ą ⟨ŉ,ŉ⟩];obtain⟨m,rfl,A,r⟩:=vC ⟨show 1<=n by omega,ŉ⟩;refine⟨_,Uq ŉ g r,?_⟩;rw[List.all_append];cases x:eqs.all λp=>Ð p (m:Int)with
 |false=>exact rfl
 |true=>
 refine⟨_,Uq ŉ j r,?_⟩;cases y:δ.all λp=>Ð p (m:Int)with
 |false=>exact Cq.wp.yes ĳ rfl
 |true=>
 refine Cq.wp.no ĳ ?_;rw[ą ĳ];refine⟨?_,?_⟩
 .rw[ļ];simp only[small];omega
 rw[ļ];refine Cq.Zn δ.length (λk s=>s=(eqs++gI (δ.take k),(k:Int))) (λk s i c=>?_) (λs c=>?_) (by show _=_;rw[ř];show _=(eqs++[],_);rw[ę];rfl)
 .subst c;have l:=RR δ i;have q:=FU (δ.take k);rw[č]at q;refine Cq.wp.yes ŉ ⟨_,Μ i,?_⟩;by_cases a:δ[k]=[]
  .refine Cq.wp.yes (by rw[a];rfl) ⟨_,uR,_,pZ,?_,?_⟩
   .rw[Ā,Ā,ė];simp only[small];omega
   show _=_;rw[l,a,ą rfl,ψ ŉ,Đ]
  have hp:0<δ[k].length:=ş.2 a;refine Cq.wp.no ŉ ?_;show _=_;rw[l,ā a,ψ ŉ,ę]
 subst c;refine Cq.wp.no ŉ ?_;rw[ě (Ĉ _)];show(PZ (m:Int) δ (eqs++gI δ)).Α _;have q:=FU δ;have v:∀p∈eqs++gI δ,ω p:=λp hp=>(Ĩ.1 hp).elim (g p) (λh=>by rw[LR p h];exact Bj);have e:kept (eqs++gI δ) false=hN eqs δ:=by rw[Zty,SJ];rfl
 refine⟨_,PE (by rw[Ā];omega) v false,_,PE ŉ j true,?_⟩;rw[e];by_cases t:12<(ep (hN eqs δ)).length
 .rw[ą t];exact Cq.wp.yes ŉ rfl
 rw[ā t];refine Cq.wp.no ŉ ?_;by_cases u:12<(ep (kept δ true)).length
 .rw[ą u];exact Cq.wp.yes ŉ rfl
 rw[ā u];exact Cq.wp.no ŉ rfl
end Go.EL

