/- The law TaskValid holds for every input: a part of its proof (fY the code does, plain models, and fY they return). No condition. -/
import Derived.Test.YtepbagkffgddlaaGreatXV9f
set_option linter.unusedVariables false
set_option linter.unusedSimpArgs false
namespace Go.Proofs.YtepbagkffgddlaaGreat
open Go.IntKind (i8 i16 i32 i64 u8 u16 u32 u64)
open Go.Proofs.Tryz
open Go Go.EL Go.RowKit Go.Proofs
set_option maxHeartbeats 4000000
set_option maxRecDepth 20000
abbrev su:=@sl Int (Rp.int .u32)
abbrev sq:=@sl (Ŀ Za) (Rp.sl c')
abbrev sv:=@sl (Fin 8->Int) (gf .i64 8)
abbrev Cr:=iC prog
abbrev Cl:=eR prog
abbrev ru:=Β (Rp.int .u8) 5
instance eR'{k r}:SpcM ((Pm k)) r (Cl 99 #[.slice none 0 0,i' k] [] (λ_=>True) (λG L v=>∃s t f,L=[(7000,f)]/\v=δ s r t/\Β (Rp.sl c') 50 G (δ s r t) r f)):=.mk λhr=>by
 obtain⟨⟨C,D⟩,hr⟩:=hr;replace hr:[]=r:=hr;subst hr;obtain⟨m,rfl⟩:∃m:Nat,k=m:=⟨k.toNat,ŉ⟩;refine ry (args:=[_,_]) (N:=27) func99 z z z λn e u _=>sr<|Ο z<|o'<|sr<|ν z<|kD z<|nx<|tM (by rw[show decide ((m:Int)<0)=false from Ĉ ŉ];rfl)<|q'<|b'<|o'<|sr<|ν z<|ν z<|Ε (Y0.BQ jT z)<|ν z<|Ε (Y0.mE jT z)<|Ε (Y0.sub z z)<|Ε (Y0.sub z z) ?_
 have y:i64.wrap ((m:Int)-i64.wrap (((0:Nat):Int)-((0:Nat):Int)))=m:=by simp only[ī];omega
 rw[y];refine Ο z<|sr<|ν z<|Ε (vJ z z)<|nx<|WC.Ê (p:=(0:Int)<(m:Int)) z (λA=>?_) (λA=>?_)
 .refine Ν ?_;refine Ε (Y0.OA jT kV z z)<|ν z<|WL.r6 (sz:=1) (bytes:=24) (m:=m) 7001 z z jT BE jB z ĳ ĳ z z ŉ (by simp only[small];omega) λq c g x B=>?_
  refine Ν ?_;refine Ε (Y0.H0 (l:=0) (h:=0) (m:=c) (b:=q) (o:=0) jT kV z z ⟨_,z⟩ z (Ċ _) (Ĝ _) (Ċ _)) ?_;simp only[du,dV,ite_self,aaB];refine dQ z<|t'<|b'<|sr<|ν z<|Ο z<|m'<|mV (S':=St n e e [(7000,ú q g 50)]) (λw d=>?_) (j' z z ⟨_,_,_,z,z,⟨c,[],g,z,z,z,z,B,x,Ĝ _⟩⟩)
  have d:=d.Ý (i:=7001) (j:=7000) z (by rw[u];rfl);exact d.weaken (lc z ln)
 refine Ν ?_;refine mV (S':=St n e e [(7000,none)]) (λw d=>d.weaken (lw ln)) (j' z z ⟨_,_,_,z,z,Β.nil⟩)
instance fz'{l i r}:SpcM ((yN l i)) r (Cr 130 #[.agg (Ø l).toArray,.agg (Ø i).toArray] (λG=>True) (λG v=>v=i' r)):=.mk λhr=>by refine Ν ?_;intro u g _ k j _ hr _;refine WC.mA hr [2,3] [2,3] [2,3] [2,3] (λ(f:Int)=>⟨f,[(5,i' f)],tr,[]⟩) (λ(s:Int)=>⟨s,[(5,i' s)],tr,[]⟩) 0
instance gw'{l k r}:SpcM ((Ps l k)) r (∀{j h g f i d c e},Cr 129 #[.agg (((Τ l.c j h g f):Ŀ Value)++(Ø l.m)).toArray,.agg (((Τ k.c i d c e):Ŀ Value)++(Ø k.m)).toArray] (λG=>su G j h l.c.num.υ/\su G g f l.c.den.υ/\su G i d k.c.num.υ/\su G c e k.c.den.υ) (λG v=>v=i' r)):=.mk λhr {j h g f i d c e}=>Η
theorem js':Go.Sort.SWO (Go.Proofs.ltOf (λa b:Za=>Ü b.m a.m)):=⟨λx=>yA.irrefl x.m,λx y z=>yA.trans x.m y.m z.m,λx y z=>yA.ntrans x.m y.m z.m⟩
instance dJ'{l a b i r}:SpcM ((Z1 l a b i)) r (∀{p c n C},Cl 212 #[.slice p n c,i' a,i' b,i' i,.func (.func 129) #[] #[]] [(5000,C)] (λG=>Β c' 147 G (.slice p n c) l C) (λG L v=>∃s,L=[(5000,s)]/\v=.tuple #[]/\Β c' 147 G (.slice p n c) r s)):=.mk λhr {p c n C}=>by
 obtain⟨⟨rfl,rfl,⟨R,U⟩,Q⟩,hr⟩:=hr;obtain⟨k,rfl⟩:∃k:Nat,i=k:=⟨i.toNat,ŉ⟩;refine(Dj (r:=c') (sz:=12) z ĳ js' Tryz.Dx z (λ_=>İ) (λ_=>İ) (λx y T S w G O K=>?_) Ih 147 p n c l C k ŉ ŉ).mono (λ_ h=>h) (λG L v ⟨E,D,H,P,I,N,J⟩=>?_)
 .obtain⟨M,F⟩:=K;obtain⟨u,B,o,j,rfl,g,d⟩:=Q4 M;obtain⟨A,m,t,q,rfl,f,e⟩:=Q4 F;exact gw'.h (show(Ps x y).ω (Ü y.m x.m)from⟨_,JC y.m x.m,z⟩) w G O ⟨g,d,f,e⟩
 have:E=r:=hr E ⟨N,J.imp (λh=>by simpa[Go.Proofs.ltOf]using h)⟩;subst this;exact⟨D,H,P,I⟩
instance dv'{f r}:SpcM ((vh f)) r (∀{d c},Cr 193 #[.agg ((ζ f d c)).toArray] (λG=>su G d c f.υ) (λG v=>v=i' r)):=.mk λhr {d c}=>Η
instance cT'{h r}:SpcM ((ZI h)) r (∀{d c f e},Cr 106 #[.agg ((Τ h d c f e)).toArray] (λG=>su G d c h.num.υ/\su G f e h.den.υ) (λG v=>v=i' r)):=.mk λhr {d c f e}=>Η
instance zH{h r}:SpcM ((ZZ h)) r (∀{f g},Cr 187 #[δ f h g] (λG=>su G f g h) (fT (Rp.int .u32) r)):=.mk λhr {f g}=>by
 refine Ν ?_;intro q j _ hr e;refine WC.mB hr [0] [] [0] [] (λ(i:Int)=>⟨i,[(3,i' i)],tr,[]⟩) (λ(o:Int)=>⟨o,[(3,i' o)],tr,[]⟩) (h.length:Int) ?_;intro k o hr l _;refine b'<|sr<|ν z<|ν z<|oA hr λp hr=>WL.qw (r:=(Rp.int .u32)) z z F' tc z (e.mono l) z z p λy v s=>Ο z<|m' ?_
 obtain rfl:_=r:=hr;exact j' z z ⟨_,_,z,s⟩
instance eF'{c r}:SpcM ((Aq c)) r (Cr 185 #[.int .u64 c] (λG=>True) (fT (Rp.int .u32) r)):=.mk λhr=>by
 refine J' (args:=[_]) (N:=10) func185 z z z λv t i o=>sr<|dQ z<|nr<|ν z<|Ε (pJ tI uq z)<|ν z<|Ε (Y0.shr z z ĳ)<|Ε (pJ tI uq z)<|nb (e:=248) (r:=(Rp.int .u32)) (vs:=#[(0,.int .u32 (u32.wrap c)),(1,.int .u32 (u32.wrap (Int.fdiv c (2 ^ (min (32:Int).toNat u64.bits)))))]) (cs:=[.int .u32 (u32.wrap c)]++([.int .u32 (u32.wrap (Int.fdiv c (2 ^ (min (32:Int).toNat u64.bits))))]++([]))) ([u32.wrap c,u32.wrap (Int.fdiv c (2 ^ (min (32:Int).toNat u64.bits)))]:Ŀ Int) z z z z z ĳ (λ_=>İ) ⟨[.int .u32 (u32.wrap c)],[.int .u32 (u32.wrap (Int.fdiv c (2 ^ (min (32:Int).toNat u64.bits))))]++([]),z,z,⟨[.int .u32 (u32.wrap (Int.fdiv c (2 ^ (min (32:Int).toNat u64.bits))))],[],z,z,z⟩⟩ (key:=999) z (by rw[i];rfl) (λu p k h=>?_)
 refine oE hr λq g hr=>gW z z (x' qF z) (zH.h g) z (h) (λl s j d=>?_);obtain⟨n,m,rfl,f⟩:=d;refine Ο z<|m' ?_
 obtain rfl:_=r:=hr;exact j' z z ⟨_,_,z,f⟩
instance cp'{c d r}:SpcM ((ZT c d)) r (∀{f e},Cr 184 #[.bool c,δ f d e] (λG=>su G f e d) (Ï r)):=.mk λhr {f e}=>Η
instance eI'{u r}:SpcM ((yV u)) r (Cr 102 #[i' u] (λG=>True) (Ï r)):=.mk λhr=>Η
instance dx'{g r}:SpcM ((w9 g)) r (∀{e d},Cr 251 #[.agg ((ζ g e d)).toArray] (λG=>su G e d g.υ) (λG v=>v=.bool r)):=.mk λhr {e d}=>by
 refine J' (args:=[_]) (N:=19) func251 z z z (λm o k h=>?_);have c:=h;refine sr<|jU 1 z z z λl=>dQ z<|nr<|Ε (Y0.Vp z)<|eb hr z (nN (n' 1 uY z z z) (Ē Value.bool (M6 _))) z (λi hr=>?_) (λi hr=>?_)
 .exact Η
 exact Η
instance Hf{c d r}:SpcM ((PA c d)) r (∀{t o s u},Cr 192 #[δ t c o,δ s d u] (λG=>su G t o c/\su G s u d) (fT (Rp.int .u32) r)):=.mk λhr {t o s u}=>by
 refine Ν ?_;intro Y L _ P _ _ J af an hr _;refine WC.mD hr [0,1,5,18] [] [5] [] (λ(⟨E,j,f⟩:(Ŀ Int)×ŀ Ow×Int)=>⟨(E,f),[(19,i' f)],λx=>Β (Rp.int .u32) 248 x (.slice J (i64.wrap ((c.length:Int)+(d.length:Int))).toNat ((i64.wrap ((c.length:Int)+(d.length:Int))).toNat)) E j,[(4016,j)]⟩) (λ(⟨K,D⟩:(Ŀ Int)×ŀ Ow)=>⟨K,[],λQ=>Β (Rp.int .u32) 248 Q (.slice J (i64.wrap ((c.length:Int)+(d.length:Int))).toNat ((i64.wrap ((c.length:Int)+(d.length:Int))).toNat)) K D,[(4016,D)]⟩) ⟨(List.replicate (i64.wrap ((c.length:Int)+(d.length:Int))).toNat 0),af,0⟩ ?_ ?_
 .rintro _ x ⟨E,j,f⟩ h O hr;refine Ν ?_;intro _ T _ hr _;refine WC.mC hr [0,1,5,6,8,18,19,28] [] [0,1,5,6,18,19] [] (λ(⟨B,q,k,l⟩:(Ŀ Int)×ŀ Ow×Int×Int)=>⟨(B,k,l),[(7,.int .u64 k),(29,i' l)],λF=>Β (Rp.int .u32) 248 F (.slice J (i64.wrap ((c.length:Int)+(d.length:Int))).toNat ((i64.wrap ((c.length:Int)+(d.length:Int))).toNat)) B q,[(4016,q)]⟩) (λ(⟨H,C,v⟩:(Ŀ Int)×ŀ Ow×Int)=>⟨(H,v),[(7,.int .u64 v)],λI=>Β (Rp.int .u32) 248 I (.slice J (i64.wrap ((c.length:Int)+(d.length:Int))).toNat ((i64.wrap ((c.length:Int)+(d.length:Int))).toNat)) H C,[(4016,C)]⟩) ⟨E,j,0,0⟩ ?_;rintro _ F ⟨B,q,k,l⟩ y m hr;refine sr<|kD z<|nx<|o'<|I' hr z (λN hr=>?_) (λN hr=>?_)
  .refine q'<|b'<|o'<|Y'<|sr<|ν z<|Ο z<|o'<|fL [ff,ff,ff,ff,ff,ff,ff,ff,ff,ff,ff,ff,ff,ff,ff,ff] eL İ λX=>fN z<|fN z<|fN z ?_
   refine æ ?_;intro V _ hr _;exact oE hr λU a hr=>cn (λ_ g=>pQ F' tc (m.mono g) z z a)<|cn (λ_ g=>Y0.loadT sT (m.mono g) (key:=4016) z z (zC (oF m a)))<|cn (λ_ g=>pJ uq tI z)<|cn (λ_ g=>Y0.add z z)<|fN z<|pL X<|iP z<|dQ z<|t'<|Γ<|b'<|sr<|ν z<|ν z<|ν z<|iP z<|ν z<|Ε (pJ tI uq z)<|oE hr λx5 n hr=>Ε (pQ F' tc m z z n)<|zM (r:=(Rp.int .u32)) (e:=248) (cs':=[.int .u32 (u32.wrap (u64.wrap ((u64.wrap ((u64.wrap ((u64.wrap T)*(u64.wrap V)))+(u64.wrap U)))+k)))]) (i:=i64.wrap (f+l)) (z':=u32.wrap (u64.wrap ((u64.wrap ((u64.wrap ((u64.wrap T)*(u64.wrap V)))+(u64.wrap U)))+k))) 4016 z tc z m z z z z z n λao ah=>nx<|w'<|ν z<|Ε (Y0.shr z z ĳ)<|Η
  exact Η
 rintro Q ⟨K,D⟩ hr ar W;refine b'<|sr<|ν z<|pX (r:=(Rp.int .u32)) (e:=248) 4016 W z (by rw[P];rfl) (λaC aB aw S au=>?_)
 refine oE hr λaD A hr=>gW z z (x' qF z) (zH.h A) (by rw[qT S]) ((rD S)) (λay aE av R=>?_);obtain⟨Z,az,rfl,p⟩:=R;refine Ο z<|m' ?_
 obtain rfl:_=r:=hr;exact j' z z ⟨_,_,z,p⟩
instance gJ'{A t r}:SpcM ((E2 A t)) r (∀{j f g e},Cr 105 #[.agg ((ζ A j f)).toArray,.agg ((ζ t g e)).toArray] (λG=>su G j f A.υ/\su G g e t.υ) (Ï r)):=.mk λhr {j f g e}=>Η
instance x0{H r}:SpcM ((vn H)) r (∀{F E},Cr 229 #[δ F H E] (λG=>sl rW G F E H) (Ï r)):=.mk λhr {F E}=>by refine Ν ?_;intro w0 W _ _ K V D _ s t y M hr _;refine WC.mA hr [2,3,7,8] [2] [2,3] [2] (λ(⟨j,m,d,c⟩:Int×Zg×ŀ Addr×Nat)=>⟨(j,m),[(9,i' j)],λk=>su k d c m.υ,[(3,ú M (ζ m d c) 118)]⟩) (λ(⟨o,g,h⟩:Zg×ŀ Addr×Nat)=>⟨o,[],λp=>su p g h o.υ,[(3,ú M (ζ o g h) 118)]⟩) ⟨0,V,s,t⟩
instance ek'{m o r}:SpcM ((Av m o)) r (∀{j n h l},Cr 252 #[δ j m n,δ h o l] (λG=>su G j n m/\su G h l o) (λG v=>v=i' r)):=.mk λhr {j n h l}=>by refine Ν ?_;intro D i _ _ _ _ hr _;refine WC.mA hr [0,1] [] [] [] (λ(p:Int)=>⟨p,[(5,i' p)],tr,[]⟩) (λ(_:Unit)=>⟨(.inr ()),[],tr,[]⟩) (i64.wrap ((m.length:Int)-1))
instance in'{o k r}:SpcM ((Q9 o k)) r (∀{h f g e},Cr 228 #[.agg ((ζ o h f)).toArray,.agg ((ζ k g e)).toArray] (λG=>su G h f o.υ/\su G g e k.υ) (λG v=>v=i' r)):=.mk λhr {h f g e}=>Η
instance fB'{q p r}:SpcM ((vi q p)) r (∀{m l j i n k c g},Cr 151 #[.agg ((Τ q m l j i)).toArray,.agg ((Τ p n k c g)).toArray] (λG=>su G m l q.num.υ/\su G j i q.den.υ/\su G n k p.num.υ/\su G c g p.den.υ) (λG v=>v=i' r)):=.mk λhr {m l j i n k c g}=>by
 refine æ ?_;intro _ _ y _ _ A _ t _ x _ _ N _ _ _ hr _;refine I' hr z (λa hr=>?_) (λa hr=>?_)
 .exact Η
 refine q'<|b'<|o'<|fL [ff,ff,ff,ff,ff,ff,ff,ff,ff,ff,ff] eL İ λN=>?_
 refine æ ?_;intro hr;refine tO (r:=rW) (e:=118) ([q.num,p.den]:Ŀ Zg) (λ_=>z) z ĳ (λu L o X=>?_) ?_
 .exact⟨#[(0,.agg ((ζ q.num m l)).toArray),(1,.agg ((ζ p.den c g)).toArray)],(ζ q.num m l)++((ζ p.den c g)++([])),z,z,λ_=>by kernel_rfl,⟨(ζ q.num m l),(ζ p.den c g)++([]),z,⟨[.bool q.num.neg],[δ m q.num.υ l],z,z,⟨_,z,(A.mono o)⟩⟩,⟨(ζ p.den c g),[],z,⟨[.bool p.den.neg],[δ c p.den.υ g],z,z,⟨_,z,(y.mono o)⟩⟩,z⟩⟩⟩
 refine oE hr λP U hr=>mm (f:=229) (φ:=Ï P) (λ_=>z) (λv S Y o h=>?_) (λu L o X=>?_) ?_
 .obtain⟨E,K,rfl,s⟩:=h;exact⟨_,_,z,s.mono o⟩
 .obtain⟨⟨C,B,O,R⟩,_⟩:=(show(λG v=>∃C B,v=.slice C 2 2/\jq rW G (.slice C 2 2) B [q.num,p.den]) L.m (u 21)/\True from X);exact⟨_,_,_,λ_=>x' oJ z,x0.h U,(by simp only[O]<;>rfl),R⟩
 refine Ν ?_;intro hr;refine tO (r:=rW) (e:=118) ([p.num,q.den]:Ŀ Zg) (λ_=>z) z ĳ (λu L o X=>?_) ?_
 .exact⟨#[(0,.agg ((ζ p.num n k)).toArray),(1,.agg ((ζ q.den j i)).toArray)],(ζ p.num n k)++((ζ q.den j i)++([])),z,z,λ_=>by kernel_rfl,⟨(ζ p.num n k),(ζ q.den j i)++([]),z,⟨[.bool p.num.neg],[δ n p.num.υ k],z,z,⟨_,z,(x.mono o)⟩⟩,⟨(ζ q.den j i),[],z,⟨[.bool q.den.neg],[δ j q.den.υ i],z,z,⟨_,z,(t.mono o)⟩⟩,z⟩⟩⟩
 refine zP (d:=27) (post:=λG v=>∃T Q,v=.slice T 2 2/\jq rW G (.slice T 2 2) Q [p.num,q.den]) (d':=22) (post':=Ï P) (d'':=21) (post'':=λG v=>∃C B,v=.slice C 2 2/\jq rW G (.slice C 2 2) B [q.num,p.den]) (λaj ai ak ao ag D I H=>?_);obtain⟨T,Q,rfl,af⟩:=D;obtain⟨E,K,rfl,s⟩:=I;obtain⟨C,B,rfl,R⟩:=H;refine oE hr λan V hr=>gW z z (x' oJ z) (x0.h V) z (af) (λah ap M J=>?_);obtain⟨Z,ab,rfl,F⟩:=J;refine oE hr λar W hr=>H' z z (x' II z) (in'.h W) z (⟨(s.mono M),F⟩)<|dQ z<|t'<|Γ<|b'<|m' (Ö hr z z)
instance gM'{l k r}:SpcM ((Eg l k)) r (∀{e i c d g j h f},Cr 201 #[.agg (((Τ l.c e i c d):Ŀ Value)++(Ø l.m)).toArray,.agg (((Τ k.c g j h f):Ŀ Value)++(Ø k.m)).toArray] (λG=>su G e i l.c.num.υ/\su G c d l.c.den.υ/\su G g j k.c.num.υ/\su G h f k.c.den.υ) (λG v=>v=i' r)):=.mk λhr {e i c d g j h f}=>Η
instance cV'{l F r}:SpcM ((ZC l F)) r (∀{m o y A},Cr 200 #[δ m l o,δ y F A,.func (.func 201) #[] #[]] (λG=>sl c' G m o l/\sl c' G y A F) (λG v=>v=i' r)):=.mk λhr {m o y A}=>by refine Ν ?_;intro U J _ _ _ hr _;refine WC.mA hr [0,1,2,11,12] [] [0,1] [] (λ(t:Int)=>⟨t,[(13,i' t)],tr,[]⟩) (λ(_:Unit)=>⟨(.inr ()),[],tr,[]⟩) 0
theorem Px(g:(Ŀ Za))(i:(Ŀ Za))(e:ŀ Addr)(d:Nat)(c:ŀ Addr)(f:Nat)(r:Int)(hr:(Eu g i).ω r):Cr 114 #[δ e g d,δ c i f] (λG=>sl c' G e d g/\sl c' G c f i) (λG v=>v=i' r):=by exact Η
instance {g:(Ŀ Za)}{i:(Ŀ Za)}{r:Int}:SpcM ((Eu g i)) r (∀{e:ŀ Addr}{d:Nat}{c:ŀ Addr}{f:Nat},Cr 114 #[δ e g d,δ c i f] (λG=>sl c' G e d g/\sl c' G c f i) (λG v=>v=i' r)):=⟨λa {e d c f}=>Px _ _ e d c f _ a⟩
theorem Za8(l:Ŀ (Ŀ Za))(a b d:Int)(p:ŀ Addr)(c n:Nat)(tk:ŀ Ow)(r:Ŀ (Ŀ Za))(hr:(Po l a b d).ω r):Cl 259 #[.slice p n c,.int .i64 a,.int .i64 b,.int .i64 d,.func (.func 114) #[] #[]] [(5000,tk)] (λG=>Β (Rp.sl Zj) 50 G (.slice p n c) l tk) (λG L v=>∃g,L=[(5000,g)]/\v=.tuple #[]/\Β (Rp.sl Zj) 50 G (.slice p n c) r g):=by
 obtain⟨⟨rfl,rfl,⟨F,i⟩,h2,h3⟩,hr⟩:=hr;replace hr:_=r:=hr;subst hr;obtain⟨k,rfl⟩:∃k:Nat,d=k:=⟨d.toNat,ŉ⟩;obtain⟨l',rfl⟩:∃l':Ŀ mM,l'.map Subtype.val=l:=⟨l.attach.map λq=>⟨q.1,Ć.1 h3 _ q.2⟩,by rw[aac];exact List.attach_map_subtype_val l⟩;have f:l'.length=(l'.map Subtype.val).length:=by rw[ć]
 have t:∀(x y:mM) (u v:Value),Cr 114 #[u,v] (λG=>((Rp.sl Zj).via (Subtype.val:mM->_)).er G [u] x/\((Rp.sl Zj).via (Subtype.val:mM->_)).er G [v] y) (λ_ v=>v=.int .i64 (ê x.1 y.1)):=λx y u v w G hi hp=>by obtain⟨⟨u',m,i⟩,⟨I,s,h2⟩⟩:=hp;cases m;cases s;obtain⟨p1,D,rfl⟩:=i.form;obtain⟨p2,E,rfl⟩:=h2.form;exact Px _ _ _ _ _ _ _ (Tv x.2 y.2) w G hi ⟨i,h2⟩
 have H:=OE (r:=(Rp.sl Zj).via (Subtype.val:mM->_)) rfl OJ Tryz.Dy rfl t Ib 50 p n c l' tk k ŉ ŉ;rw[f]at H;refine H.mono (λG h=>Β.via.2 h) (λG L v h=>?_);obtain⟨ys,j,A,B,C,q4,q5⟩:=h;refine⟨j,A,B,?_⟩;have e:jI (l'.map Subtype.val)=ys.map Subtype.val:=by refine Rk ((vt _).trans (q4.map Subtype.val).symm) (λp hp=>Ć.1 h3 _ ((vt _).mem_iff.1 hp)) (KH _) ?_;rw[ei];refine q5.imp (λ{a b} h=>?_);simp only[Go.Proofs.ltOf,aau,aaK]at h;have:=qK a.1 b.1;omega
 rw[e];exact Β.via.1 C
instance gD'{l k r}:SpcM ((Ef l k)) r (∀{e i c d g j h f},Cr 150 #[.agg (((Τ l.c e i c d):Ŀ Value)++(Ø l.m)).toArray,.agg (((Τ k.c g j h f):Ŀ Value)++(Ø k.m)).toArray] (λG=>su G e i l.c.num.υ/\su G c d l.c.den.υ/\su G g j k.c.num.υ/\su G h f k.c.den.υ) (λG v=>v=.bool r)):=.mk λhr {e i c d g j h f}=>Η
instance cW'{s H r}:SpcM ((ZD s H)) r (∀{B C D E},Cr 149 #[δ B s C,δ D H E,.func (.func 150) #[] #[]] (λG=>sl c' G B C s/\sl c' G D E H) (λG v=>v=.bool r)):=.mk λhr {B C D E}=>by refine Ν ?_;intro S I _ _ _ _ hr _;refine WC.mA hr [1,2,15,16] [] [] [] (λ(p:Int)=>⟨p,[(17,i' p)],tr,[]⟩) (λ(_:Unit)=>⟨(.inr ()),[],tr,[]⟩) 0
theorem Jl(g:(Ŀ Za))(i:(Ŀ Za))(e:ŀ Addr)(d:Nat)(c:ŀ Addr)(f:Nat)(r:Bool)(hr:(ZV g i).ω r):Cr 84 #[δ e g d,δ c i f] (λG=>sl c' G e d g/\sl c' G c f i) (λG v=>v=.bool r):=by exact Η
instance {g:(Ŀ Za)}{i:(Ŀ Za)}{r:Bool}:SpcM ((ZV g i)) r (∀{e:ŀ Addr}{d:Nat}{c:ŀ Addr}{f:Nat},Cr 84 #[δ e g d,δ c i f] (λG=>sl c' G e d g/\sl c' G c f i) (λG v=>v=.bool r)):=⟨λa {e d c f}=>Jl _ _ e d c f _ a⟩
instance hg'{n r}:SpcM ((PC n)) r (Cr 180 #[.int .u64 n] (λG=>True) (λG v=>v=i' r)):=.mk λhr=>Η
instance fo'{d r}:SpcM ((tV d)) r (Cr 97 #[.int .u64 d] (λG=>True) (λG v=>v=i' r)):=.mk λhr=>Η
theorem Z2(t:(Ŀ (Ŀ Za)))(f:ŀ Addr)(e:Nat)(j:Nat)(h:ŀ Ow)(r:(Ŀ (Ŀ Za)))(hr:(ZR t).ω r):Cl 198 #[.slice f j e,.func (.func 114) #[] #[]] [(5000,h)] (λG=>Β (Rp.sl c') 50 G (.slice f j e) t h) (λG L v=>∃k,L=[(5000,k)]/\v=.tuple #[]/\Β (Rp.sl c') 50 G (.slice f j e) r k):=by
 refine ry (args:=[_,_]) (N:=14) func198 z z z (λq A u m=>?_);have d:=m;have a:q.L.zero:=by rw[u];intro p o x B;simp only[Ď,ĝ,ţ]at o;subst o;exact B5 d B
 refine sr<|ν z<|Ε (Y0.nv jT d z)<|Ο z<|w' ?_
 refine æ ?_;intro _ hr _;refine oE hr λE l hr=>mW z z (x' IS z) (Za8 _ _ _ _ _ _ _ _ _ l) z (d) (lc z ln) a (λD s C y c=>?_);obtain⟨i,rfl,rfl,g⟩:=c;refine t'<|WE.jb ?_
 obtain rfl:_=r:=hr;refine mV (S':=St q A s [(5000,i)]) (w1 z)<|WE.iL z  ⟨_,z,z,g⟩
instance {t:(Ŀ (Ŀ Za))}{r:(Ŀ (Ŀ Za))}:SpcM ((ZR t)) r (∀{f:ŀ Addr}{e:Nat}{j:Nat}{h:ŀ Ow},Cl 198 #[.slice f j e,.func (.func 114) #[] #[]] [(5000,h)] (λG=>Β (Rp.sl c') 50 G (.slice f j e) t h) (λG L v=>∃k,L=[(5000,k)]/\v=.tuple #[]/\Β (Rp.sl c') 50 G (.slice f j e) r k)):=⟨λa {f e j h}=>Z2 _ f e j h _ a⟩
abbrev RP:Rp (Ŀ Za):=Rp.sl Zj
theorem Zw3(l:Ŀ (Ŀ Za))(p:ŀ Addr)(n c:Nat):Cr 113 #[.slice p n c] (λG=>Δ RP G (.slice p n c) l) (λG v=>∃b,v=.func (.func 199) #[] #[.pointer (some ⟨b,0,none⟩)]/\G b 0=some (.slice p n c)/\Δ RP G (.slice p n c) l):=by
 refine iC.enter (args:=[_]) (N:=4) func113 rfl rfl rfl (λw0 G0 a e=>?_);refine sr<|WL.ik 1 rfl Zh rfl rfl (λb=>?_)
 refine sg rfl rfl<|WL.nil<|WE.then ?_
 refine WC.gA 1 rfl (by rw[a];rfl) (λg d f _=>?_);refine sr<|yy (Y0.makeFunc rfl rfl) rfl<|sg rfl rfl<|nx<|WC.ret ?_
 exact WE.ja rfl rfl ⟨_,rfl,f 0 _ rfl,e.mono d⟩
def EP(l:Ŀ (Ŀ Za))(j:Nat)(u:Value)(G:Mem):Prop:=∃x,l[j]?=some x/\∃p c,u=.slice p x.length c/\Δ Zj G u x
theorem ZvK(b:Nat)(l:Ŀ (Ŀ Za))(p:ŀ Addr)(n c:Nat):rN prog 199 #[.pointer (some ⟨b,0,none⟩)] l.length (EP l) (λG=>G b 0=some (.slice p n c)/\Δ RP G (.slice p n c) l):=by
 intro σ W I K pre F v L V t Q;refine eR.enter (args:=[_,_]) (N:=16) func199 rfl rfl rfl (λw0 G0 u hp=>?_);obtain⟨⟨D,a⟩,m⟩:=hp;have B:w0.L.zero:=by rw[u];exact Q
 have E:l.length<=9223372036854775807:=by obtain⟨_,_,_,_,h,_⟩:=a;omega
 rw[a.eqv]at D;have a:=a.XT;refine sr<|yy (Y0.ia js rfl D) rfl ?_
 refine Ν ?_;refine WC.block ?_;refine WC.hJ (X:=Nat×σ×Mem) (λe=>match e with|⟨k,_,_⟩=>[(0,.func (.yield W) #[] #[]),(5,.slice p l.length c),(6,.int .i64 (l.length:Int)),(7,.int .i64 (k:Int))])
  (λe=>match e with|⟨k,s,G⟩=>k<=l.length/\Mem.le G0 G/\I k s/\pre s G)
  (λe=>match e with|⟨_,s,G⟩=>St w0 G0 G (K s)) (λe=>l.length-e.1) ⟨0,V,G0⟩ (fc rfl (fc rfl (fc rfl (fc rfl fn)))) ⟨Ĝ _,Mem.le_refl _,t,m⟩ (λw A=>A) ?_
 rintro⟨k,s,G⟩ ⟨Z,d,C,hp⟩;refine æ ?_;refine WC.Ê (p:=(k:Int)<(l.length:Int)) rfl (λO=>?_) (λO=>?_)
 .have f:k<l.length:=ŉ;have H:(0:Int)<=(k:Int)/\l[(k:Int).toNat]?=some l[k]:=⟨ŉ,by simp[f]⟩;obtain⟨q,S,T,U⟩:=AtK.sl (Δ.at a H);have P:i64.wrap ((k:Int)+1)=((k+1:Nat):Int):=by rw[ī];omega
  refine WC.skip<|WE.then<|WC.seq<|WC.block<|sr<|yy (Y0.lS underlying46 kV (a.mono d) rfl rfl H) rfl<|yy (Y0.ia mH rfl (d _ _ _ T)) rfl<|sg rfl rfl<|nx<|WC.seq<|WC.qq<|ma.y0 Zh (Y0.move rfl) (λc h=>by cases h) rfl<|ma.y0 Zh (Y0.move rfl) (λc h=>by cases h) rfl ?_
  refine ma.vS (R:=[]) Zh rfl rfl rfl (L k _ s f C) ⟨hp,l[k],by simp[f],q,S,rfl,U.mono d⟩ B (λi hi=>by cases hi) (λb J Y j g=>?_);obtain⟨rfl,s',r,rfl,y⟩:=g;refine ma.y0 Zh (Y0.not rfl) (λc h=>by cases h) rfl<|ma.nil<|WE.then<|WC.pV rfl<|WC.skip ?_
  refine WE.inBlock<|WE.then<|WC.region<|yy (Y0.add rfl rfl) rfl ?_
  rw[P];exact mv rfl rfl<|WL.nil<|WE.gJ (x:=(k,s,G)) (k+1,s',J) ⟨ŉ,Mem.le_trans d j,r,y⟩ (fc rfl (fc rfl (fc rfl (fc rfl fn)))) (λw A=>A) (by show l.length-(k+1)<l.length-k;omega)
 have:k=l.length:=ŉ;subst this;refine WC.exit<|WE.ä<|WE.ä<|WE.Í<|WE.jb ?_
 exact WE.iL rfl ⟨rfl,s,C,rfl,hp⟩
theorem Zw1(b:Nat)(l:Ŀ (Ŀ Za))(p:ŀ Addr)(n c:Nat)(hl:l.length<=1000000):Cl 258 #[.slice none 0 0,.func (.func 199) #[] #[.pointer (some ⟨b,0,none⟩)]] [] (λG=>G b 0=some (.slice p n c)/\Δ RP G (.slice p n c) l)
  (λG L v=>∃q E tk,L=[(7000,tk)]/\v=.slice q l.length E/\Β RP 50 G v l tk):=by
 refine eR.sw (args:=[_,_]) (N:=13) func258 rfl rfl rfl (λw0 G0 H B=>?_)
 refine æ ?_
 intro b2
 refine WC.oo (t:=7) (f:=199) rfl IA (λac d Z r ha S O U P has J=>?_)
 let m:Nat×ŀ Addr×Nat×ŀ Ow->Lo:=λs=>[(8001,some ⟨Z,.loop r,0⟩),(8002,some ⟨d,.deferred (some []),0⟩),(2,some ⟨b2,.cells #[.slice s.2.1 s.1 s.2.2.1] 46 (0,0),0⟩),(7000,s.2.2.2)]
 refine⟨_,m (0,none,0,none),_,lc rfl (lc rfl (lc rfl (lw ln))),λi _=>by rw[H];rfl,
  ZvK b l p n c Z (λj s=>s.1=j/\j<=l.length) m (λs G=>Β RP 50 G (.slice s.2.1 s.1 s.2.2.1) (l.take s.1) s.2.2.2) (λs i hi=>?_) (λG G' s y h=>h.mono y) (λj u s hj hI=>?_) _ ⟨rfl,Ĝ _⟩ ?_,⟨B,Β.nil⟩,λG' L' v y g=>?_⟩
 .simp only[m]
  rw[Lo.Zp,ā ŉ,Lo.Zp,ā ŉ,Lo.Zp,ā ŉ,Lo.Zp,ā ŉ];rfl
 .obtain⟨k,q,E,tk⟩:=s
  obtain⟨rfl,hk⟩:=hI
  dsimp only at hj hk⊢
  refine qI.Ux (N:=13) rfl S O P (by rw[U];exact ha.round ĳ) (λad G aa hG=>?_)
  obtain⟨a,x,V,up,uc,rfl,ab⟩:=hG
  refine GK has ?_
  refine gp.region Rf rfl (sg rfl rfl<|WL.nil (λa1 v1 I Q=>⟨_,_,_,I,Q,rfl,?_⟩))
  refine GK J ?_
  refine gp.block<|gp.region (xv xw) rfl<|yy (Y0.î 2 js rfl rfl rfl) rfl<|mv rfl rfl ?_
  refine æ ?_
  intro _ _ A h1
  have C:(l.take k).length=k:=by rw[Č];omega
  have T:l.take k++[x]=l.take (k+1):=by obtain⟨K,rfl⟩:=ċ.1 V;exact(č K).symm
  refine WL.hM (r:=RP) (e:=50) (xs:=l.take k) (ys:=[x]) 7000 Zh rfl underlying46 jB rfl ĳ rfl rfl (a.mono A) rfl h1 (by rw[Ā,C];show k+1<=small;simp only[small];omega) (λp2 W D h2=>?_)
  rw[show(l.take k++[x]).length=k+1 by rw[Ā,C];rfl]at h2⊢
  rw[T]at h2
  refine æ ?_
  exact λa2 w2 _ R=>⟨_,_,m (k+1,p2,W,D),R,rfl,lc rfl (lc rfl (lc rfl (lc rfl ln))),rfl,(k+1,p2,W,D),⟨rfl,ŉ⟩,rfl,h2⟩
 .intro q Y x V
  simp only[m,Ď,ĝ,ţ]at Y
  rcases Y with rfl|rfl|rfl|rfl<;>cases V<;>rfl
 obtain⟨rfl,⟨k,q,E,tk⟩,⟨rfl,_⟩,rfl,a⟩:=g
 dsimp only at a
 rw[ĥ]at a
 refine⟨rfl,mO.seq<|mO.region<|yy (Y0.î 2 js rfl rfl rfl) rfl<|sg rfl rfl<|WL.nil<|mO.then<|mO.ret ?_⟩
 refine WE.Dq (rvs:=[.tmp 4]) [(7000,tk)] [.slice q l.length E] rfl rfl rfl (λi rv v F X=>?_) (lc rfl ln) ⟨_,_,_,rfl,rfl,a⟩
 match i with
 |0=>simp at F X;subst F X;rfl
 |i+1=>simp at F
theorem ZvI(xs:Ŀ (Ŀ Za))(hg:xs.all Ò=true)(am:xs.length<=1000000)(p:ŀ Addr)(c n:Nat)(tk:ŀ Ow):Cl 115 #[.slice p n c,.func (.func 84) #[] #[]] [(5000,tk)] (λG=>Β RP 50 G (.slice p n c) xs tk)
  (λG L v=>∃zk q V,L=[(5000,zk)]/\v=.slice q (gh xs).length V/\Β RP 50 G (.slice q (gh xs).length V) (gh xs) zk):=by
 refine eR.enter (args:=[_,_]) (N:=66) func115 rfl rfl rfl (λw0 G0 an d=>?_)
 obtain rfl:n=xs.length:=(abK d.eqv).2.1
 refine sr<|sg rfl rfl<|nx<|WC.seq<|sr<|mv rfl rfl<|yy (Y0.mE underlying46 rfl) rfl<|yy (Y0.lss rfl rfl) rfl<|nx ?_
 refine WC.Ê (p:=(xs.length:Int)<2) rfl (λhc=>?_) (λhc=>?_)
 .refine Ν ?_
  have e:=RU (xs:=xs) ŉ
  exact WE.ja rfl rfl ⟨tk,p,c,rfl,by rw[e],by rw[e];exact d⟩
 have J:∀{G:Mem}{ys:Ŀ (Ŀ Za)}{zk:ŀ Ow},Β RP 50 G (.slice p ys.length c) ys zk->∀i (hi:i<ys.length),∃q V,mK zk (i*1) (.slice q ys[i].length V)/\Δ Zj G (.slice q ys[i].length V) ys[i]:=λ{G ys zk} h i hi=>by have:=AtK.sl (Β.at h (i:=(i:Int)) (x:=ys[i]) ⟨ŉ,by simp[hi]⟩);rw[Ĕ]at this;exact this
 have gq:∀i (hi:i<xs.length),Ò xs[i]=true:=λi hi=>Ć.1 hg _ (Ă hi)
 obtain⟨b,rfl⟩:∃b,p=some ⟨b,0,none⟩:=by
  cases tk with
  |none=>obtain⟨rfl,_⟩:=d;simp at hc
  |some y=>obtain⟨cap,cs,rest,Z,_⟩:=d;exact⟨y.b,(abK Z).1⟩
 have R:xs.length<=c:=by
  cases tk with
  |none=>obtain⟨rfl,_⟩:=d;simp at hc
  |some y=>obtain⟨cap,cs,rest,Z,_,_,_,_,_,h7⟩:=d;rw[(abK Z).2.2];exact h7
 refine WC.skip<|WE.then<|WC.seq<|sr<|sg rfl rfl<|nx<|WC.block ?_
 refine WC.hJ (X:=Nat×Mem) (λA=>match A with|⟨k,_⟩=>[(0,.slice (some ⟨b,0,none⟩) xs.length c),(1,.func (.func 84) #[] #[]),(5,.int .i64 (k:Int))])
  (λA=>match A with|⟨k,G⟩=>1<=k/\k<=xs.length/\Mem.le G0 G/\gh (xs.take k)=xs.take k)
  (λA=>match A with|⟨_,G⟩=>St w0 G0 G [(5000,tk)]) (λA=>xs.length-A.1) ⟨1,G0⟩ (fc rfl (fc rfl (fc rfl fn))) ⟨Ċ _,ŉ,Mem.le_refl _,RU (by rw[Č];omega)⟩ (λw H=>H) ?_
 rintro⟨k,G⟩ ⟨Q,Y,a,s⟩
 dsimp only at Q Y a s⊢
 have d:=d.mono a
 refine WC.seq ?_
 refine æ ?_
 refine WC.Ê (p:=(k:Int)<(xs.length:Int)) rfl (λab=>?_) (λab=>?_)
 .have D:k<xs.length:=ŉ
  have ag:i64.wrap ((k:Int)-1)=((k-1:Nat):Int):=by rw[ī];omega
  have ah:i64.wrap ((k:Int)+1)=((k+1:Nat):Int):=by rw[ī];omega
  obtain⟨q1,c1,e1,s1⟩:=J d k D
  obtain⟨q2,c2,e2,s2⟩:=J d (k-1) ŉ
  have f:=SG Q D
  refine WC.skip<|WE.then<|WC.seq<|WC.block<|WC.seq ?_
  refine WC.drawn [false,false,false,false,false,false,false,false,false,false] eL İ (λhb=>?_)
  refine cn (λ_ a=>Y0.move rfl)<|cn (λ_ a=>Y0.move rfl)<|cn (λ_ a=>Y0.move rfl)<|cn (λ_ a=>Y0.iU underlying46 kV rfl rfl D)<|cn (λ_ a=>Y0.loadT mH (d.mono a) (key:=5000) rfl rfl (by simpa using e1)) ?_
  refine cn (λ_ a=>Y0.move rfl)<|cn (λ_ a=>Y0.move rfl)<|cn (λ_ a=>Y0.eq (Y0.sub rfl rfl) (Ē (Value.int .i64) ag))<|cn (λ_ a=>Y0.iU underlying46 kV rfl rfl (show k-1<xs.length by omega))<|cn (λ_ a=>Y0.loadT mH (d.mono a) (key:=5000) rfl rfl (by simpa using e2)) ?_
  refine γ.l6 hb<|WL.gg Zh rfl (YC.ym Pg rfl rfl) (Jl _ _ _ _ _ _ _ (Fp (gq k D) (gq (k-1) ŉ))) rfl ⟨s1,s2⟩ ?_
  refine æ ?_
  refine WC.Ê (p:=ê xs[k] xs[k-1]=0) rfl (λO=>?_) (λO=>?_)
  .rw[ą O,s]at f
   by_cases ad:c=k
   .omega
   refine Ν ?_
   refine yy (Y0.OH underlying46 kV rfl rfl Y R ad) rfl ?_
   refine Ν ?_
   refine WC.block ?_
   refine WC.hJ (X:=Nat×Ŀ (Ŀ Za)×ŀ Ow×Mem) (λA=>match A with|⟨m,_,_,_⟩=>[(0,.slice (some ⟨b,0,none⟩) xs.length c),(1,.func (.func 84) #[] #[]),(5,.int .i64 ((gh (xs.take (k+m))).length:Int)),(6,.slice (some ⟨b,k*1,none⟩) (xs.length-k) (c-k)),(7,.int .i64 (m:Int))])
    (λA=>match A with|⟨m,ys,zk,G'⟩=>1<=m/\k+m<=xs.length/\Mem.le G G'/\Β RP 50 G' (.slice (some ⟨b,0,none⟩) xs.length c) ys zk/\ys.length=xs.length/\ys.take (gh (xs.take (k+m))).length=gh (xs.take (k+m))/\(gh (xs.take (k+m))).length<=k+m-1/\∀t,k+m-1<=t->ys[t]?=xs[t]?)
    (λA=>match A with|⟨_,_,zk,G'⟩=>St w0 G0 G' [(5000,zk)]) (λA=>xs.length-(k+A.1)) ⟨1,xs,tk,G⟩ (fc rfl (fc rfl (fc (by rw[f,Č,Ż Y];rfl) (fc rfl (fc rfl fn))))) ⟨Ċ _,ŉ,Mem.le_refl _,d,rfl,by rw[f,Č,Ż Y],by rw[f,Č];omega,λ_ _=>rfl⟩ (λw H=>H) ?_
   rintro⟨m,ys,zk,G'⟩ ⟨aa,hm,E,l,C,I,S,g⟩
   dsimp only at aa hm E l C I S g⊢
   refine WC.seq<|sr ?_
   refine æ ?_
   refine WC.Ê (p:=(m:Int)<((xs.length-k:Nat):Int)) rfl (λac=>?_) (λac=>?_)
   .have T:k+m<xs.length:=ŉ
    have ai:i64.wrap ((m:Int)-1)=((m-1:Nat):Int):=by rw[ī];omega
    have U:i64.wrap ((m:Int)+1)=((m+1:Nat):Int):=by rw[ī];omega
    have K:Β RP 50 G' (.slice (some ⟨b,0,none⟩) ys.length c) ys zk:=by rw[C];exact l
    have y1:ys[k+m]'ŉ=xs[k+m]:=by have:=g (k+m) ŉ;rw[Ą ŉ,Ą ŉ]at this;exact Ŧ this
    have y2:ys[k+m-1]'ŉ=xs[k+m-1]'ŉ:=by have:=g (k+m-1) ŉ;rw[Ą ŉ,Ą ŉ]at this;exact Ŧ this
    obtain⟨q3,c3,e3,s3⟩:=J K (k+m) ŉ
    obtain⟨q4,c4,e4,s4⟩:=J K (k+m-1) ŉ
    rw[y1]at e3 s3
    rw[y2]at e4 s4
    have a3:mK zk (k*1+m*1) (.slice q3 xs[k+m].length c3):=by rw[<-ō];exact e3
    have a4:mK zk (k*1+(m-1)*1) (.slice q4 (xs[k+m-1]'ŉ).length c4):=by rw[<-ō,show k+(m-1)=k+m-1 by omega];exact e4
    have B:=SG (xs:=xs) (j:=k+m) ŉ T
    refine WC.skip<|WE.then<|WC.seq<|WC.block<|WC.seq ?_
    refine WC.drawn [false,false,false,false,false,false,false,false,false,false] eL İ (λhb=>?_)
    refine cn (λ_ a=>Y0.move rfl)<|cn (λ_ a=>Y0.move rfl)<|cn (λ_ a=>Y0.move rfl)<|cn (λ_ a=>Y0.iU underlying46 kV rfl rfl (show m<xs.length-k by omega))<|cn (λ_ a=>Y0.loadT mH (l.mono a) (key:=5000) rfl rfl a3) ?_
    refine cn (λ_ a=>Y0.move rfl)<|cn (λ_ a=>Y0.move rfl)<|cn (λ_ a=>Y0.eq (Y0.sub rfl rfl) (Ē (Value.int .i64) ai))<|cn (λ_ a=>Y0.iU underlying46 kV rfl rfl (show m-1<xs.length-k by omega))<|cn (λ_ a=>Y0.loadT mH (l.mono a) (key:=5000) rfl rfl a4) ?_
    refine γ.l6 hb<|WL.gg Zh rfl (YC.ym Pg rfl rfl) (Jl _ _ _ _ _ _ _ (Fp (gq (k+m) T) (gq (k+m-1) ŉ))) rfl ⟨s3,s4⟩<|yy (Y0.C7 rfl) rfl<|WL.nil<|WE.nx<|WE.then ?_
    refine WC.Ê (p:=¬ê xs[k+m] (xs[k+m-1]'ŉ)=0) rfl (λP=>?_) (λP=>?_)
    .rw[ā P]at B
     have F:(gh (xs.take (k+(m+1)))).length=(gh (xs.take (k+m))).length+1:=by rw[<-Ş,B,Ā];rfl
     have aj:i64.wrap (((gh (xs.take (k+m))).length:Int)+1)=(((gh (xs.take (k+m))).length+1:Nat):Int):=by rw[ī];omega
     refine sr<|mv rfl rfl<|mv rfl rfl<|mv rfl rfl<|mv rfl rfl<|yy (Y0.iU underlying46 kV rfl rfl (show m<xs.length-k by omega)) rfl<|yy (Y0.loadT mH l (key:=5000) rfl rfl a3) rfl ?_
     have hz:(0:Int)<=((gh (xs.take (k+m))).length:Int)/\ys[((gh (xs.take (k+m))).length:Int).toNat]?=some (ys[(gh (xs.take (k+m))).length]'ŉ):=⟨ŉ,by rw[Ĕ,Ą]⟩
     refine yy (Y0.gT underlying46 kV l rfl rfl hz) rfl ?_
     refine WL.storeT (r:=RP) (e:=50) (cs':=[.slice q3 xs[k+m].length c3]) (i:=((gh (xs.take (k+m))).length:Int)) (z':=xs[k+m]) 5000 Zh kV rfl l rfl rfl rfl rfl ⟨_,rfl,s3⟩ hz (λak h3=>?_)
     rw[Ĕ]at h3
     refine nx<|WC.region<|mv rfl rfl<|yy (Y0.add rfl rfl) rfl ?_
     rw[aj]
     refine sg rfl rfl<|WL.nil<|WE.inBlock<|WE.then<|WC.region<|mv rfl rfl<|yy (Y0.add rfl rfl) rfl ?_
     rw[U]
     refine sg rfl rfl<|WL.nil<|WE.gJ (x:=(m,ys,zk,G')) (m+1,ys.set (gh (xs.take (k+m))).length xs[k+m],ak,G') ⟨ŉ,ŉ,E,h3,by rw[ħ];exact C,?_,by show(gh (xs.take (k+(m+1)))).length<=k+(m+1)-1;omega,λt ht=>?_⟩ (fc rfl (fc rfl (fc (by rw[F];rfl) (fc rfl (fc rfl fn))))) (λw H=>H.weaken (lc rfl ln)) (by show xs.length-(k+(m+1))<xs.length-(k+m);omega)
     .rw[F,<-Ş,B,č (by rw[ħ];omega),List.getElem_set_self]
      rw[List.take_set_of_le (Ċ _),I]
     rw[List.getElem?_set_ne ŉ]
     exact g t ŉ
    rw[ą (abk.1 P)]at B
    refine WC.skip<|WE.inBlock<|WE.then<|WC.region<|mv rfl rfl<|yy (Y0.add rfl rfl) rfl ?_
    rw[U]
    exact sg rfl rfl<|WL.nil<|WE.gJ (x:=(m,ys,zk,G')) (m+1,ys,zk,G') ⟨ŉ,ŉ,E,l,C,by rw[<-Ş,B];exact I,by rw[<-Ş,B];omega,λt ht=>g t ŉ⟩ (fc rfl (fc rfl (fc (by rw[<-Ş,B];rfl) (fc rfl (fc rfl fn))))) (λw H=>H) (by show xs.length-(k+(m+1))<xs.length-(k+m);omega)
   have u:k+m=xs.length:=ŉ
   rw[u,ĥ]at I S
   refine WC.exit<|WE.ä<|WE.ä<|WE.Í<|WE.then<|sr<|mv rfl rfl<|mv rfl rfl ?_
   rw[<-C]at l
   refine WL.qS (r:=RP) (e:=50) (xs:=ys) (lo:=((gh (xs.take (k+m))).length:Int)) (zx:=([]:Ŀ Za)) 5000 rfl underlying46 jB rfl rfl (Ć.1 rfl) ĳ ⟨_,rfl,Δ.nil _ _⟩ l rfl (by rw[C];rfl) rfl (by rw[u,ĥ];omega) (λv5 W h5=>?_)
   rw[u,ĥ,Ĕ,I]at h5
   rw[C]at h5
   have al:=TN (xs:=xs)
   refine nx<|sr<|mv rfl rfl<|mv rfl rfl ?_
   refine WL.u7 (r:=RP) (e:=50) (hi:=((gh (xs.take (k+m))).length:Int)) Zh rfl underlying46 kV rfl h5 rfl rfl ⟨ŉ,ŉ,by rw[u,ĥ,Ā,ļ];omega⟩ (λh6=>?_)
   rw[u,ĥ,Ĕ,abQ]at h6
   rw[Ĕ]
   refine sg rfl rfl<|nx<|WC.ret<|WE.gw<|WE.gC<|WE.gC<|WE.gw<|WE.gC ?_
   refine WE.ö (S':=St w0 G0 G' [(5000,W)]) (λw H=>H.weaken (lc rfl ln)) (WE.ja rfl rfl ⟨W,_,c,rfl,?_,h6⟩)
   rw[u,ĥ]
  rw[ā O,s]at f
  refine WC.skip<|WE.inBlock<|WE.then<|WC.region<|mv rfl rfl<|yy (Y0.add rfl rfl) rfl ?_
  rw[ah]
  exact sg rfl rfl<|WL.nil<|WE.gJ (x:=(k,G)) (k+1,G) ⟨ŉ,ŉ,a,by rw[f];exact(č D).symm⟩ (fc rfl (fc rfl (fc rfl fn))) (λw H=>H) (by show xs.length-(k+1)<xs.length-k;omega)
 have ae:k=xs.length:=ŉ
 subst ae
 rw[ĥ]at s
 refine WC.exit<|WE.ä<|WE.ä<|WE.Í<|WE.then<|sr<|mv rfl rfl<|sg rfl rfl<|nx<|WC.ret ?_
 exact WE.ja rfl rfl ⟨tk,_,c,rfl,by rw[s],by rw[s];exact d⟩
theorem ZpY(b:Nat)(l:Ŀ (Ŀ Za))(K:l.all Ò=true)(O:l.length<=100)(p:ŀ Addr)(n c:Nat):Cl 112 #[.func (.func 199) #[] #[.pointer (some ⟨b,0,none⟩)],.func (.func 114) #[] #[]] [] (λG=>G b 0=some (.slice p n c)/\Δ RP G (.slice p n c) l)
  (λG L v=>∃q m tk,L=[(5000,tk)]/\v=.slice q (jI l).length m/\Β RP 50 G v (jI l) tk):=by
 refine eR.enter (args:=[_,_]) (N:=12) func112 rfl rfl rfl (λw0 G0 r t=>?_)
 have D:w0.L.zero:=by rw[r];intro p hp;cases hp
 have I:∀i,w0.L.get i=none:=λi=>by rw[r];rfl
 have k:(ZR l).ω (jI l):=by obtain⟨v,J,h2,h3⟩:=TJ O;exact⟨v,J,jI l,⟨⟨rfl,rfl,⟨h2,h3⟩,ŉ,K⟩,rfl⟩,rfl⟩
 have g:(jI l).length=l.length:=(vt l).length_eq
 have d:Cl 197 #[.func (.func 199) #[] #[.pointer (some ⟨b,0,none⟩)]] [] (λG=>G b 0=some (.slice p n c)/\Δ RP G (.slice p n c) l)
   (λG L v=>∃q m tk,L=[(7000,tk)]/\v=.slice q l.length m/\Β RP 50 G v l tk):=by
  refine eR.enter (args:=[_]) (N:=5) func197 rfl rfl rfl (λw1 E y h=>?_)
  have A:w1.L.zero:=by rw[y];intro p hp;cases hp
  refine sr<|sg rfl rfl<|nx<|sr<|mv rfl rfl ?_
  refine WL.kd Zh rfl (YC.of IQ rfl) (Zw1 b l p n c ŉ) rfl h (Lo.Zq _) A (λv B H s a=>?_)
  obtain⟨q,m,tk,rfl,rfl,e⟩:=a
  refine sg rfl rfl<|nx<|WC.ret ?_
  exact WE.ö (S':=St w1 E B [(7000,tk)]) (λw u=>u.weaken (lc rfl ln)) (WE.ja rfl rfl ⟨q,m,tk,rfl,rfl,e⟩)
 refine sr<|sg rfl rfl<|nx<|sr<|mv rfl rfl ?_
 refine WL.kd Zh rfl (YC.of Iy rfl) d rfl t (Lo.Zq _) D (λv B H s a=>?_)
 obtain⟨q,m,tk,rfl,rfl,e⟩:=a
 refine æ ?_
 refine WL.ö (λw u=>u.Ý (i:=7000) (j:=5000) rfl (I _)) ?_
 refine WL.kd Zh rfl (YC.of Iz rfl) (Z2 _ _ _ _ _ _ k) rfl e (lc rfl ln) D (λv F P C a=>?_)
 obtain⟨x,rfl,rfl,f⟩:=a
 refine nx<|sr<|mv rfl rfl<|sg rfl rfl<|nx<|WC.ret ?_
 rw[<-g]at f
 refine WE.ö (S':=St w0 G0 F [(5000,x)]) (λw u=>u.weaken (lc rfl ln)) (WE.ja rfl rfl ⟨q,m,x,rfl,?_,?_⟩)
 .rw[g]
 rw[<-g];exact f
theorem PM(l:Ŀ (Ŀ Za))(p:ŀ Addr)(c:Nat)(r:Ŀ (Ŀ Za))(hr:(El l).ω r):Cr 60 #[.slice p l.length c] (λG=>Δ RP G (.slice p l.length c) l) (λG v=>∃q j,v=.slice q r.length j/\Δ RP G (.slice q r.length j) r):=by
 obtain⟨⟨C,n⟩,hr⟩:=hr;replace hr:_=r:=hr;subst hr;have A:∀{w0:Bs},w0.L=[]->w0.L.zero:=λh=>by rw[h];intro p hp;cases hp
 have D:(jI l).length=l.length:=(vt l).length_eq;have k:(jI l).all Ò=true:=Ć.2 λx E=>Ć.1 n x ((vt l).mem_iff.1 E);refine iC.enter (args:=[_]) (N:=9) func60 rfl rfl rfl (λw0 G0 d m=>?_);refine sr<|sg rfl rfl<|nx<|sr<|mv rfl rfl ?_
 refine WL.call Zh rfl (YC.of Ia rfl) (Zw3 l p l.length c) rfl m (λv J s a=>?_);obtain⟨b,rfl,B,g⟩:=a;refine WL.kd Zh rfl (YC.of H9 rfl) (ZpY b l n C p l.length c) rfl ⟨B,g⟩ (Lo.Zq _) (A d) (λv K P t a=>?_);obtain⟨q,j,tk,rfl,rfl,f⟩:=a;refine sg rfl rfl ?_;refine æ ?_;refine WL.kd Zh rfl (YC.of Ic rfl) (ZvI (jI l) k ŉ q j _ tk) rfl f (lc rfl ln) (A d) (λv L Q u a=>?_);obtain⟨H,R,F,rfl,rfl,e⟩:=a;refine sg rfl rfl<|nx<|WC.ret ?_
 refine WE.eO 5000 e rfl (by rw[d];rfl) (λI O y i _=>?_);exact WE.ja rfl rfl ⟨_,_,rfl,i⟩
instance eG'{e r}:SpcM ((Au e)) r (∀{c d},Cr 186 #[δ c e d] (λG=>su G c d e) (fT (Rp.int .u32) r)):=.mk λhr {c d}=>by
 refine Ν ?_;intro _ _ i hr h;refine oA hr λf hr=>jV (r:=(Rp.int .u32)) 2004 z z F' vY z ĳ z z (X' (Rp.int .u32) _) z (by rw[i];rfl) la h f λp n l o k j m=>Ο z<|m' ?_
 obtain rfl:_=r:=hr;exact j' z z ⟨_,_,z,j⟩
instance gr'{k r}:SpcM ((J9 k)) r (∀{i l},Cr 188 #[δ i k l] (λG=>su G i l k) (λG v=>v=.int .u64 r)):=.mk λhr {i l}=>by refine Ν ?_;intro q h _ hr _;refine WC.mA hr [0,6] [] [] [] (λ(⟨g,d⟩:Int×Int)=>⟨(g,d),[(3,.int .u64 g),(7,i' d)],tr,[]⟩) (λ(n:Int)=>⟨n,[(3,.int .u64 n)],tr,[]⟩) ⟨0,0⟩
instance gB'{c k r}:SpcM ((Pw c k)) r (∀{x A},Cr 253 #[δ x c A,.int .u64 k] (λG=>su G x A c) (λG v=>∃u s,v=.tuple #[δ u r.1 s,.int .u64 r.2]/\su G u s r.1)):=.mk λhr {x A}=>by
 refine Ν ?_;intro U q _ V D K W hr _;refine WC.mB hr [0,1,6] [] [6] [] (λ(⟨C,h,d,p⟩:(Ŀ Int)×ŀ Ow×Int×Int)=>⟨(C,d,p),[(7,.int .u64 d),(8,i' p)],λg=>Β (Rp.int .u32) 248 g (.slice D (c.length:Int).toNat ((c.length:Int).toNat)) C h,[(4012,h)]⟩) (λ(⟨I,j,t⟩:(Ŀ Int)×ŀ Ow×Int)=>⟨(I,t),[(7,.int .u64 t)],λm=>Β (Rp.int .u32) 248 m (.slice D (c.length:Int).toNat ((c.length:Int).toNat)) I j,[(4012,j)]⟩) ⟨(List.replicate (c.length:Int).toNat 0),K,0,i64.wrap ((c.length:Int)-1)⟩ ?_;rintro m ⟨I,j,t⟩ hr Z T;refine b'<|sr<|ν z<|pX (r:=(Rp.int .u32)) (e:=248) 4012 T z (by rw[V];rfl) (λE y i B a=>?_)
 refine oE hr λF M hr=>gW z z (x' qF z) (zH.h M) (by rw[qT B]) ((rD B)) (λl H f o=>?_);obtain⟨af,n,rfl,J⟩:=o;refine ν z<|dQ z<|Ο z<|m' ?_
 obtain rfl:_=r:=hr;exact ur z z z ⟨_,_,z,J⟩
instance gg'{f g r}:SpcM ((JN f g)) r (∀{j h i k},Cr 189 #[δ j f h,δ i g k] (λG=>su G j h f/\su G i k g) (λG v=>∃u t s x,v=.tuple #[δ u r.1 t,δ s r.2 x]/\su G u t r.1/\su G s x r.2)):=.mk λhr {j h i k}=>Η
instance ff'{a1 a r}:SpcM ((xu a1 a)) r (∀{H D K I},Cr 103 #[.agg ((ζ a1 H D)).toArray,.agg ((ζ a K I)).toArray] (λG=>su G H D a1.υ/\su G K I a.υ) (Ï r)):=.mk λhr {H D K I}=>by
 refine J' (args:=[_,_]) (N:=53) func103 z z z (λw0 G0 bI aY=>?_);obtain⟨au,ar⟩:=aY;refine sr<|jU 2 z z z λb2=>jU 3 z z z λb3=>W' 4 z D3 z λt=>nx<|o'<|fL [ff,ff,ff,ff,ff,ff] eL İ λhb=>cn (λ_ g=>Y0.Gy z)<|cn (λ_ g=>n' 2 qu z z z)<|oE hr λQ aM hr=>qM (post:=fT (Rp.int .u32) Q) (λ_=>z) (λ_ _=>x' qF z) (zH.h aM) z (λG' g=>(au.mono g)) (λv Z G2 g h=>?_) ?_
 .obtain⟨ax,ai,rfl,B⟩:=h;exact⟨_,_,z,B.mono g⟩
 refine oE hr λC aN hr=>mm (f:=186) (φ:=fT (Rp.int .u32) C) (λ_=>z) (λv Z G2 g h=>?_) (λu G' g hu=>?_) ?_
 .obtain⟨O,i,rfl,R⟩:=h;exact⟨_,_,z,R.mono g⟩
 .obtain⟨⟨ax,ai,aA,B⟩,_⟩:=(show(fT (Rp.int .u32) Q) G'.m (u 13)/\True from hu);exact⟨_,_,_,λ_=>x' Iw z,eG'.h aN,(by simp only[aA]<;>rfl),B⟩
 refine Ν ?_;intro _ _ O i R _ _ _ _ _ _ az _ _ _ ba al aD aT aR aP hr _;refine WC.mC hr [4] [] [4] [] (λ(⟨P,J,E,o,q,p,k,e,c⟩:(Ŀ Int)×ŀ Addr×Nat×(Ŀ Int)×ŀ Addr×Nat×Zg×ŀ Addr×Nat)=>⟨(P,o,k),[(5,δ J P E),(6,δ q o p)],λl=>su l J E P/\su l q p o/\su l e c k.υ,[(4,ú t (ζ k e c) 118)]⟩) (λ(⟨d,F,U,V,m,n⟩:(Ŀ Int)×ŀ Addr×Nat×Zg×ŀ Addr×Nat)=>⟨(.inr (d,V)),[(5,δ F d U)],λL=>su L F U d/\su L m n V.υ,[(4,ú t (ζ V m n) 118)]⟩) ⟨C,O,i,ba,aT,aR,(Zg.mk false []),none,0⟩ ?_;rintro _ l ⟨P,J,E,o,q,p,k,e,c⟩ T ⟨S,s,y⟩ hr;refine o' ?_;refine æ ?_;intro hr;refine I' hr z (λbi hr=>?_) (λbi hr=>?_)
 .refine q'<|b'<|Y'<|o'<|WC.nB hr [4,5,6] [4] (λ(A:Bool)=>⟨[(29,.bool A)],JM P o k A,tr,[]⟩) ?_
  intro x A hr j _;refine Ν ?_;intro _ bf _ a9 hr _;refine WC.mA hr [4] [4] [4] [4] (λ(⟨X,Y⟩:Int×Int)=>⟨(X,Y),[(7,.int .u64 X),(8,.int .u64 Y)],tr,[]⟩) (λ(W:Int)=>⟨W,[(7,.int .u64 W)],tr,[]⟩) ⟨bf,a9⟩
 exact Η
instance gs'{g r}:SpcM ((J8 g)) r (∀{e d},Cr 250 #[.agg ((ζ g e d)).toArray] (λG=>su G e d g.υ) (λG v=>v=.bool r)):=.mk λhr {e d}=>Η
instance ex'{g r}:SpcM ((Z0 g)) r (∀{f e d c},Cr 181 #[.agg ((Τ g f e d c)).toArray] (λG=>su G f e g.num.υ/\su G d c g.den.υ) (λG v=>v=.bool r)):=.mk λhr {f e d c}=>Η
instance gh'{i r}:SpcM ((Es i)) r (Cr 182 #[.agg (Ø i).toArray] (λG=>True) (λG v=>v=.bool r)):=.mk λhr=>by refine Ν ?_;intro k f _ _ hr _;refine WC.mA hr [5] [] [] [] (λ(c:Int)=>⟨c,[(6,i' c)],tr,[]⟩) (λ(_:Unit)=>⟨(.inr ()),[],tr,[]⟩) 0
instance eL'{o r}:SpcM ((Ap o)) r (∀{q p},Cr 100 #[δ q o p] (λG=>sl c' G q p o) (λG v=>v=.bool r)):=.mk λhr {q p}=>by refine Ν ?_;intro H y _ hr _;refine WC.mA hr [0,5,6] [] [] [] (λ(l:Int)=>⟨l,[(7,i' l)],tr,[]⟩) (λ(_:Unit)=>⟨(.inr ()),[],tr,[]⟩) 0
instance gP'{j r}:SpcM ((JD j)) r (Cr 183 #[.agg (Ø j).toArray] (λG=>True) (λG v=>v=.int .u8 r)):=.mk λhr=>by refine Ν ?_;intro n g _ _ hr _;refine WC.mA hr [6] [] [] [] (λ(⟨f,c⟩:Int×Int)=>⟨(f,c),[(3,.int .u8 f),(7,i' c)],tr,[]⟩) (λ(k:Int)=>⟨k,[(3,.int .u8 k)],tr,[]⟩) ⟨0,0⟩
instance fc'{o r}:SpcM ((Aw o)) r (∀{q p},Cr 101 #[δ q o p] (λG=>sl c' G q p o) (λG v=>v=.int .u8 r)):=.mk λhr {q p}=>by refine Ν ?_;intro E n _ hr _;refine WC.mA hr [6,7] [] [] [] (λ(⟨m,l⟩:Int×Int)=>⟨(m,l),[(3,.int .u8 m),(8,i' l)],tr,[]⟩) (λ(A:Int)=>⟨A,[(3,.int .u8 A)],tr,[]⟩) ⟨0,0⟩
instance kB{i r}:SpcM ((Jy i)) r (Cr 111 #[.agg (Ø i).toArray] (λG=>True) (λG v=>v=i' r)):=.mk λhr=>by refine Ν ?_;intro l h _ _ hr _;refine WC.mA hr [6] [] [] [] (λ(⟨f,c⟩:Int×Int)=>⟨(f,c),[(3,i' f),(7,i' c)],tr,[]⟩) (λ(k:Int)=>⟨k,[(3,i' k)],tr,[]⟩) ⟨0,0⟩
instance du'{o r}:SpcM ((xf o)) r (∀{q p},Cr 59 #[δ q o p] (λG=>sl c' G q p o) (λG v=>v=i' r)):=.mk λhr {q p}=>by refine Ν ?_;intro E n _ hr _;refine WC.mA hr [6,7] [] [] [] (λ(⟨m,l⟩:Int×Int)=>⟨(m,l),[(3,i' m),(8,i' l)],tr,[]⟩) (λ(B:Int)=>⟨B,[(3,i' B)],tr,[]⟩) ⟨(-1),0⟩
instance cN'{h p x r}:SpcM ((ç h p x)) r (∀{g f d e k j},Cr 221 #[.agg ((Ä h.k g f d e)).toArray,δ k p j,i' x] (λG=>sq G g f h.k.eqs/\sq G d e h.k.neqs/\sl c' G k j p) (λG v=>v=.bool r)):=.mk λhr {g f d e k j}=>Η
instance fi'{C B r}:SpcM ((Az C B)) r (∀{d c f e},Cr 104 #[.agg ((ζ C d c)).toArray,.agg ((ζ B f e)).toArray] (λG=>su G d c C.υ/\su G f e B.υ) (λG v=>∃k l j h,v=.tuple #[.agg ((ζ r.1 k l)).toArray,.agg ((ζ r.2.1 j h)).toArray,i' r.2.2]/\su G k l r.1.υ/\su G j h r.2.1.υ)):=.mk λhr {d c f e}=>Η
instance Nl{q p r}:SpcM ((Ax q p)) r (∀{e c f d},Cr 194 #[.agg ((ζ q e c)).toArray,.agg ((ζ p f d)).toArray] (λG=>su G e c q.υ/\su G f d p.υ) (eB r)):=.mk λhr {e c f d}=>Η
instance hR'{v t r}:SpcM ((ED v t)) r (∀{h f j g},Cr 108 #[.agg ((ζ v h f)).toArray,.agg ((ζ t j g)).toArray] (λG=>su G h f v.υ/\su G j g t.υ) (iA r)):=.mk λhr {h f j g}=>Η
instance hS'{q k r}:SpcM ((Kr q k)) r (Cr 195 #[.agg (Ø q).toArray,.agg (Ø k).toArray] (λG=>True) (λG v=>v=.tuple #[.agg (Ø r.1).toArray,i' r.2])):=.mk λhr=>by refine Ν ?_;intro A l _ m t n hr _;refine WC.mA hr [2,3,4] [3,4] [2,4] [4] (λ(⟨c,d⟩:Int×(Fin 8->Int))=>⟨(c,d),[(7,i' c)],tr,[(2,ú m (Ø d) 145)]⟩) (λ(e:(Fin 8->Int))=>⟨e,[],tr,[(2,ú m (Ø e) 145)]⟩) ⟨0,q⟩
instance fD'{K J r}:SpcM ((Z9 K J)) r (∀{t C x D s A y B},Cr 196 #[.agg ((Τ K t C x D)).toArray,.agg ((Τ J s A y B)).toArray] (λG=>su G t C K.num.υ/\su G x D K.den.υ/\su G s A J.num.υ/\su G y B J.den.υ) (eB r)):=.mk λhr {t C x D s A y B}=>by
 refine J' (args:=[_,_]) (N:=30) func196 z z z (λw0 G0 aH aw=>?_);obtain⟨T,W,U,V⟩:=aw;refine sr<|jU 2 z z z λb2=>jU 3 z z z λb3=>W' 4 z D4 z λb4=>nr<|Ε (xW z)<|Ε (R' ((ζ K.num t C)).toArray 2 pK z z z (UZ ([]) ((ζ K.num t C)) ((ζ K.den x D))))<|Ε (Y0.Vr z)<|Ε (R' ((ζ J.den y B)).toArray 3 pK z z z (UZ ((ζ J.num s A)) ((ζ J.den y B)) ([])))<|oE hr λq ar hr=>gW z z (x' wP z) (Nl.h ar) z (⟨T,V⟩) (λaE aJ aa ac=>?_)
 obtain⟨o,n,l,m,rfl,P,O⟩:=ac;refine W' 5 z D4 z λb5=>gu 5 wB z<|nr<|Ε (xW z)<|Ε (R' ((ζ J.num s A)).toArray 3 pK z z z (UZ ([]) ((ζ J.num s A)) ((ζ J.den y B))))<|Ε (Y0.Vr z)<|Ε (R' ((ζ K.den x D)).toArray 2 pK z z z (UZ ((ζ K.num t C)) ((ζ K.den x D)) ([])))<|oE hr λp au hr=>gW z z (x' wP z) (Nl.h au) z (⟨(U.mono aa),(W.mono aa)⟩) (λaD aG Z ah=>?_)
 obtain⟨c,j,g,k,rfl,R,Q⟩:=ah;refine W' 6 z D4 z λb6=>gu 6 wB z<|nx<|o'<|fL [ff,ff,ff,ff,ff,ff,ff,ff,ff,ff,ff] eL İ λhb=>cn (λ_ E=>xW z)<|cn (λ_ E=>R' ((ζ q.num o n)).toArray 5 pK z z z (UZ ([]) ((ζ q.num o n)) ((ζ q.den l m))))<|cn (λ_ E=>xW z) ?_
 refine æ ?_;intro hr;refine tO (r:=rW) (e:=118) ([q.num,p.num]:Ŀ Zg) (λ_=>z) z ĳ (λu G' E hu=>?_) ?_
 .exact⟨#[(0,.agg ((ζ q.num o n)).toArray),(1,.agg ((ζ p.num c j)).toArray)],(ζ q.num o n)++((ζ p.num c j)++([])),z,z,λ_=>by kernel_rfl,⟨(ζ q.num o n),(ζ p.num c j)++([]),z,⟨[.bool q.num.neg],[δ o q.num.υ n],z,z,⟨_,z,((P.mono Z).mono E)⟩⟩,⟨(ζ p.num c j),[],z,⟨[.bool p.num.neg],[δ c p.num.υ j],z,z,⟨_,z,(R.mono E)⟩⟩,z⟩⟩⟩
 refine oE hr λS ap hr=>mm (f:=229) (φ:=Ï S) (λ_=>z) (λv G1 G2 E h=>?_) (λu G' E hu=>?_) ?_
 .obtain⟨H,I,rfl,F⟩:=h;exact⟨_,_,z,F.mono E⟩
 .obtain⟨⟨Y,X,aj,al⟩,_⟩:=(show(λG v=>∃Y X,v=.slice Y 2 2/\jq rW G (.slice Y 2 2) X [q.num,p.num]) G'.m (u 21)/\True from hu);exact⟨_,_,_,λ_=>x' oJ z,x0.h ap,(by simp only[aj]<;>rfl),al⟩
 refine Ν ?_;intro hr;refine tO (r:=rW) (e:=118) ([q.den,p.den]:Ŀ Zg) (λ_=>z) z ĳ (λu G' E hu=>?_) ?_
 .exact⟨#[(0,.agg ((ζ q.den l m)).toArray),(1,.agg ((ζ p.den g k)).toArray)],(ζ q.den l m)++((ζ p.den g k)++([])),z,z,λ_=>by kernel_rfl,⟨(ζ q.den l m),(ζ p.den g k)++([]),z,⟨[.bool q.den.neg],[δ l q.den.υ m],z,z,⟨_,z,((O.mono Z).mono E)⟩⟩,⟨(ζ p.den g k),[],z,⟨[.bool p.den.neg],[δ g p.den.υ k],z,z,⟨_,z,(Q.mono E)⟩⟩,z⟩⟩⟩
 refine zP (d:=27) (post:=λG v=>∃p2 am,v=.slice p2 2 2/\jq rW G (.slice p2 2 2) am [q.den,p.den]) (d':=22) (post':=Ï S) (d'':=21) (post'':=λG v=>∃Y X,v=.slice Y 2 2/\jq rW G (.slice Y 2 2) X [q.num,p.num]) (λaA aC aB aI ay ae ad ag=>?_);obtain⟨p2,am,rfl,ax⟩:=ae;obtain⟨H,I,rfl,F⟩:=ad;obtain⟨Y,X,rfl,al⟩:=ag;refine oE hr λa aq hr=>gW z z (x' oJ z) (x0.h aq) z (ax) (λaz aF ak ab=>?_);obtain⟨L,M,rfl,af⟩:=ab;refine Ε (me (vs:=#[(0,.agg ((ζ S H I)).toArray),(1,.agg ((ζ a L M)).toArray)]) (v:=.agg ([.bool S.neg,δ H S.υ I,.bool a.neg,δ L a.υ M]).toArray) z z (λ_=>İ))<|gu 4 wB z<|t'<|Γ<|b'<|m' ?_
 obtain rfl:_=r:=hr;exact j' z (kJ (i:=4) rX z z z) ⟨_,_,_,_,z,(F.mono ak),af⟩
instance gQ'{a k p1 r}:SpcM ((JE a k p1)) r (∀{A C y D d f},Cr 109 #[.agg ((Τ a A C y D)).toArray,.agg (Ø k).toArray,δ d p1 f] (λG=>su G A C a.num.υ/\su G y D a.den.υ/\sl c' G d f p1) (iB c' r)):=.mk λhr {A C y D d f}=>by
 refine Ν ?_;intro w0 G0 ac Z _ _ _ _ p s _ _ hr _;refine oA hr λv hr=>WL.wm (r:=c') (e:=147) (n:=(p1.length:Int)) 4018 z z Q' lf z ĳ z z v λp2 N aY K=>pX (r:=c') (e:=147) 4018 K z (by rw[Z];rfl) λu g I ay ao=>Ο z<|o'<|sr<|ν z<|Ε (P' Q' (ac.mono I) z)<|ν z<|nx<|nJ (X:=(Ŀ Za)×ŀ Addr×Nat×ŀ Ow×Int×Mem) hr (λ⟨M,S,R,P,Q,T⟩=>⟨(M,Q),[(3,iK p),(4,iK s),(8,δ S M R),(19,δ d p1 f),(20,i' (p1.length:Int)),(21,i' Q)],Mem.le g T/\sl c' T S R M/\Tok 12 147 (δ S M R) M.length P,St w0 G0 T [(3,ú p (Τ a A C y D) 120),(4,ú s (Ø k) 145),(1008,P)]⟩) (λ(⟨U,Y,W,V,c⟩:(Ŀ Za)×ŀ Addr×Nat×ŀ Ow×Mem)=>⟨(.inr U),[(8,δ Y U W)],Mem.le g c/\sl c' c Y W U/\Tok 12 147 (δ Y U W) U.length V,St w0 G0 c [(1008,V)]⟩) ⟨([]:Ŀ Za),p2,N,u,0,g⟩ z (Æ z) ⟨mr,ay,ao⟩ ?_ ?_ ?_
 .intro w h;have h:=h.Ý (i:=4018) (j:=1008) z (by rw[Z];rfl);exact h.weaken (lc z (lc z (lc z ln)))
 .rintro _ ⟨M,S,R,P,Q,T⟩ ⟨F,aj,aa⟩ hr;refine sr<|kD z<|nx<|o'<|I' hr z (λE hr=>?_) (λE hr=>?_)
  .refine æ ?_;intro _ _ _ _ _ _ _ _ _ _ _ _ _ _ _ _ H _ hr _;refine o'<|sr<|ν z<|Ε (qO z z)<|nx<|I' hr z (λL hr=>?_) (λL hr=>?_)
   .exact Η
   refine q'<|b'<|fL [tt,ff,ff,ff,ff,ff] eL İ λhb=>uA z (k' z) ?_
   refine æ ?_;intro q _ m _ _ _ _ _ _ _ _ l J hr _;refine oA hr λar hr=>jV (r:=c') 1008 z z Q' lf z ĳ z z (aj.mono (mx m l)) z (by rw[Z];rfl) aa J ar λp4 B t O an x aq=>dQ z<|t'<|Γ<|E'<|b'<|w'<|iP z<|ν z<|t'<|N' ⟨(M++[(Za.mk q H.1)]),p4,B,t,i64.wrap (Q+1),O⟩ hr ⟨(mx (mx (mx F m) l) an),x,aq⟩ (Æ z) (w3 z z z)
  exact Η
 rintro⟨U,Y,W,V,c⟩ ⟨hr,aU,aA,aT⟩;exact Η
instance fg'{t r}:SpcM ((yL t)) r (∀{f e},Cr 107 #[.agg ((ζ t f e)).toArray] (λG=>su G f e t.υ) (Ï r)):=.mk λhr {f e}=>Η
instance fV'{k r}:SpcM ((AE k)) r (∀{p B},Cr 56 #[δ p k B] (λG=>sl c' G p B k) (fT c' r)):=.mk λhr {p B}=>by refine Ν ?_;intro w0 G0 _ _ _ v _ _ _ g j A u x i f h C d e hr _;refine WC.mA hr [0,3,4,20,21] [] [0,3,4] [] (λ(⟨K,a,q,t,Z,y,l⟩:Int×Zg×ŀ Addr×Nat×Zg×ŀ Addr×Nat)=>⟨(K,a,Z),[(22,i' K)],λL=>su L q t a.υ/\su L y l Z.υ,[(3,ú d (ζ a q t) 118),(4,ú e (ζ Z y l) 118)]⟩) (λ(⟨R,m,n,c,s,o⟩:Zg×ŀ Addr×Nat×Zg×ŀ Addr×Nat)=>⟨(R,c),[],λO=>su O m n R.υ/\su O s o c.υ,[(3,ú d (ζ R m n) 118),(4,ú e (ζ c s o) 118)]⟩) ⟨0,v,g,j,u,f,h⟩
instance dU'{l u j r}:SpcM ((À l u j)) r (∀{h g d e s q},Cr 210 #[.agg ((Ä l.k h g d e)).toArray,δ s u q,i' j] (λG=>sq G h g l.k.eqs/\sq G d e l.k.neqs/\sq G s q u) (λG v=>v=.bool r)):=.mk λhr {h g d e s q}=>by refine Ν ?_;intro S x _ _ _ _ _ L _ hr k;refine WC.mA hr [1,2,3,12,13] [3] [] [] (λ(i:Int)=>⟨i,[(14,i' i)],tr,[]⟩) (λ(_:Unit)=>⟨(.inr ()),[],tr,[]⟩) 0
instance ec'{i r}:SpcM ((Ã i)) r (∀{h g e f},Cr 125 #[.agg ((Ä i.k h g e f)).toArray] (λG=>sq G h g i.k.eqs/\sq G e f i.k.neqs) (λG v=>v=.bool r)):=.mk λhr {h g e f}=>Η
theorem Qg(g:Zd)(e:ŀ Addr)(f:Nat)(d:ŀ Addr)(c:Nat)(r:Bool)(hr:(vl g).ω r):Cr 67 #[.agg ((Ä g e f d c)).toArray] (λG=>sq G e f g.eqs/\sq G d c g.neqs) (λG v=>v=.bool r):=by refine Ν ?_;intro _ _ _ _ _ _ _ _;refine Ε (me (vs:=#[(0,.agg ((Ä g e f d c)).toArray)]) (v:=.agg ((Ä g e f d c)).toArray) z z (λ_=>İ)) ?_;exact Η
instance {g:Zd}{r:Bool}:SpcM ((vl g)) r (∀{e:ŀ Addr}{f:Nat}{d:ŀ Addr}{c:Nat},Cr 67 #[.agg ((Ä g e f d c)).toArray] (λG=>sq G e f g.eqs/\sq G d c g.neqs) (λG v=>v=.bool r)):=⟨λa {e f d c}=>Qg _ e f d c _ a⟩
def hL(a:Nat)(s:ŀ Addr×Nat×ŀ Ow)(n:Nat):Lo:=[(6000,some ⟨a,.cells #[.slice s.1 n s.2.1] 212 (0,0),0⟩),(5000,s.2.2)]
abbrev rh(G:Mem)(s:ŀ Addr×Nat×ŀ Ow)(xs:Ŀ Int):Prop:=ru G (.slice s.1 xs.length s.2.1) xs s.2.2
def oM(f:Nat)(args:Nat->Ŀ Value)(pre:Mem->Prop)(a:Ŀ Int):Prop:=∀(c:Nat) (xs:Ŀ Int) (s:ŀ Addr×Nat×ŀ Ow),(xs++a).length<=1000000->
 Cl f (Value.pointer (some ⟨c,0,none⟩)::args c).toArray (hL c s xs.length) (λG=>rh G s xs/\pre G) (λG L v=>v=.tuple #[]/\∃s',L=hL c s' (xs++a).length/\rh G s' (xs++a))
section
variable {N:Nat}{Q:ï}{fr:Fr}{ops:Array Oper}{l:Ŀ Oper}{dst:ŀ Nat}{ty:TypeId}{pos:String}{af:Array Edge}{g:ŀ (Nat×Bool)}{w0:Bs}{G0 G:Mem}
theorem qJ{d:Nat}{s:ŀ Addr×Nat×ŀ Ow}{n:Nat}{xs:Ŀ Int}(h:rh G s xs):(hL d s n).zero:=by
 intro q a x c;simp only[hL,Ď,ĝ,ţ]at a;rcases a with rfl|rfl
 .cases c;rfl
 exact h.zero c
theorem ZW{op:Op}{f:Nat}{args:Nat->Ŀ Value}{pre:Mem->Prop}{a xs:Ŀ Int}{j:Nat}{s:ŀ Addr×Nat×ŀ Ow}(R:Lo)(r:oM f args pre a)(y:ξ ops fr ⟨dst,op,ty,pos,af,g⟩ true)(u:Ω N dst)
  (t:YC prog N ⟨dst,op,ty,pos,af,g⟩ fr (St w0 G0 G (hL j s xs.length++R)) f (Value.pointer (some ⟨j,0,none⟩)::args j).toArray) (n:(xs++a).length<=1000000) (p:rh G s xs) (hp:pre G) (B:w0.L.zero)
  (k:∀s' G',Mem.le G G'->rh G' s' (xs++a)->WL prog N ops Q l (θ dst (.tuple #[]) fr) (St w0 G0 G' (hL j s' (xs++a).length++R))):WL prog N ops Q (⟨dst,op,ty,pos,af,g⟩::l) fr (St w0 G0 G (hL j s xs.length++R)):=by
 refine WL.kd y u t (r j xs s n) rfl ⟨p,hp⟩ (lc rfl (lc rfl ln)) B (λv G' L' q c=>?_)
 obtain⟨rfl,s',rfl,d⟩:=c
 refine WL.ö (λw A=>A.weaken (λi x h=>?_)) (k s' G' q d)
 simp only[hL,Lo.gn,ġ,Ŕ,Ļ,ķ,Lo.Zp]at h⊢
 split at h
 .rename_i e;rw[ą e];exact h
 rename_i e
 rw[ā e]
 split at h
 .rename_i m;rw[ą m];exact h
 rename_i m;rw[ā m,ā e,ā m,ā e,ā m];exact h
end
theorem pB(n:Int):0<=u64.wrap n/\u64.wrap n<18446744073709551616:=by rw[abw];omega
theorem xr(i:Int)(E:0<=i/\i<18446744073709551616):oM 240 (λ_=>[.int .u64 i]) (λ_=>True) (fw i):=by
 intro D xs J m;refine Ν ?_;intro w0 G0 _ l h _;refine WC.block ?_;refine WC.hJ (X:=Nat×Ŀ Int×Int×(ŀ Addr×Nat×ŀ Ow)×Mem) (λd=>match d with|⟨_,_,n,_,_⟩=>[(0,.pointer (some ⟨D,0,none⟩)),(1,.int .u64 n)])
  (λd=>match d with|⟨f,ys,n,s,G⟩=>0<=n/\n<128*128 ^ f/\n<18446744073709551616/\ys++iI f n=xs++fw i/\rh G s ys)
  (λd=>match d with|⟨_,ys,_,s,G⟩=>St w0 G0 G (hL D s ys.length)) (λd=>d.1) ⟨10,xs,i,J,G0⟩ (fc rfl (fc rfl fn)) ⟨E.1,ŉ,E.2,rfl,h⟩ (λw q=>q) ?_
 rintro⟨f,ys,n,s,G⟩ ⟨F,h2,H,h3,y⟩;dsimp only at F h2 h3 y H⊢;refine WC.seq<|sr ?_
 refine æ ?_;have c:(ys++iI f n).length<=1000000:=by rw[h3];exact m
 refine WC.Ê (p:=(128:Int)<=n) rfl (λB=>?_) (λB=>?_)
 .obtain⟨f,rfl⟩:∃j,f=j+1:=by
   cases f with
   |zero=>have:(128:Int)*128 ^ 0=128:=rfl;omega
   |succ j=>exact⟨j,rfl⟩
  have g:iI (f+1) n=u8.wrap (u8.wrap (Int.tmod n 128)+128)::iI f (u64.wrap (Int.tdiv n 128)):=by show(if(128:Int)<=n then _ else _)=_;rw[ą B]
  rw[g]at h3 c;refine WC.skip<|WE.then<|WC.block<|sr<|mv rfl rfl<|mv rfl rfl<|yy (Y0.nilCheck rfl) rfl<|yy (Y0.zo rfl) rfl<|yy (Y0.î 6000 sU rfl rfl rfl) rfl<|mv rfl rfl<|yy (Y0.rem rfl rfl ĳ) rfl<|yy (Y0.conv underlying250 underlying5 rfl) rfl<|yy (Y0.add rfl rfl) rfl ?_
  refine WL.qY (e:=5) (r:=Rp.int .u8) (vs:=#[(0,.int .u8 (u8.wrap (u8.wrap (Int.tmod n 128)+128)))]) (cs:=[.int .u8 (u8.wrap (u8.wrap (Int.tmod n 128)+128))]) ([u8.wrap (u8.wrap (Int.tmod n 128)+128)]:Ŀ Int) Zh rfl rfl rfl rfl ĳ (λ_=>İ) ⟨[_],[],rfl,rfl,rfl⟩ (key:=999) rfl (by rw[l];rfl) (λp1 u a C=>?_);refine WL.hM (r:=Rp.int .u8) (e:=5) 5000 Zh rfl underlying32 G5 rfl ĳ rfl rfl (y.mono a) rfl C (by simp only[Ā,Ę,ĺ]at c⊢;show _<=small;simp only[small];omega) (λp2 v k t=>?_);refine Ν ?_;have I:u64.wrap (Int.tdiv n 128)=n / 128:=by rw[abc F,abw];omega
  have hp:(128:Int)*128 ^ (f+1)=128*(128*128 ^ f):=by rw[Int.pow_succ];omega
  have A:0<=u64.wrap (Int.tdiv n 128)/\u64.wrap (Int.tdiv n 128)<128*128 ^ f/\u64.wrap (Int.tdiv n 128)<18446744073709551616:=by rw[I];omega
  refine WE.gJ (x:=(f+1,ys,n,s,G)) (f,ys++[u8.wrap (u8.wrap (Int.tmod n 128)+128)],u64.wrap (Int.tdiv n 128),(p2,v,k),u) ⟨A.1,A.2.1,A.2.2,by show(_++[_])++_=_;rw[ď];exact h3,t⟩ (fc rfl (fc rfl fn)) (λw q=>q.weaken (lc rfl (lc rfl ln))) (Ũ f)
 have g:iI f n=[u8.wrap n]:=by cases f with|zero=>rfl|succ f=>show(if(128:Int)<=n then _ else _)=_;rw[ā B]
 rw[g]at h3 c;refine WC.exit<|WE.ä<|WE.ä<|WE.Í<|WE.then<|WC.region<|mv rfl rfl<|mv rfl rfl<|yy (Y0.nilCheck rfl) rfl<|yy (Y0.zo rfl) rfl<|yy (Y0.î 6000 sU rfl rfl rfl) rfl<|mv rfl rfl<|yy (Y0.conv underlying250 underlying5 rfl) rfl ?_
 refine WL.qY (e:=5) (r:=Rp.int .u8) (vs:=#[(0,.int .u8 (u8.wrap n))]) (cs:=[.int .u8 (u8.wrap n)]) ([u8.wrap n]:Ŀ Int) Zh rfl rfl rfl rfl ĳ (λ_=>İ) ⟨[_],[],rfl,rfl,rfl⟩ (key:=999) rfl (by rw[l];rfl) (λp1 u a C=>?_);refine WL.hM (r:=Rp.int .u8) (e:=5) 5000 Zh rfl underlying32 G5 rfl ĳ rfl rfl (y.mono a) rfl C (by simp only[Ā,Ę,ĺ]at c⊢;show _<=small;simp only[small];omega) (λp2 v k t=>?_);refine Ν ?_;rw[h3]at t⊢;exact WE.ö (S':=St w0 G0 u (hL D (p2,v,k) (xs++fw i).length)) (λw q=>q.weaken (lc rfl (lc rfl ln))) (WE.iL rfl ⟨rfl,_,rfl,t⟩)
theorem Tu(n:Int)(h:0<=n):oM 168 (λ_=>[.int .i64 n]) (λ_=>True) (lB n):=by
 intro j xs s d;refine Ν ?_;intro w0 G0 _ e a _;refine WC.Ê (p:=(0:Int)<=n) rfl (λf=>?_) (λf=>absurd h f);refine Ν ?_;refine WL.ö (S':=St w0 G0 G0 (hL j s xs.length++[])) (λw i=>i) ?_;refine ZW [] (xr _ (pB _)) Zh rfl (YC.of oK rfl) d a trivial (by rw[e];exact qJ a) (λs' G' g c=>?_);exact WL.nil<|WE.jb<|WE.iL rfl ⟨rfl,s',rfl,c⟩
theorem Y0.kT{N:Nat}{fr:Fr}{w0:Bs}{G0 G:Mem}{L:Lo}{dst:ŀ Nat}{ty:TypeId}{pos:String}{af:Array Edge}{g:ŀ (Nat×Bool)}{α:Type}{r:Rp α}{t:TypeId}{x:Operand}{b off:Nat}{cs:Ŀ Value}{a:α}(c:fq prog t r.size)(e:fr.ev x=some (.pointer (some ⟨b,off,none⟩)))
  (hr:r.er G cs a) (d:∀j u,cs[j]?=some u->G b (off+j)=some u):Y0 prog N ⟨dst,.load t x,ty,pos,af,g⟩ fr (St w0 G0 G L) (.agg cs.toArray):=
 Y0.jF cs.toArray c e (by rw[Į];exact r.len hr) (λj v h=>d j v (by rw[Ġ]at h;exact h))
theorem Gk{a n:Nat}{s:ŀ Addr×Nat×ŀ Ow}{x y:ŀ Ow}:Lo.sub (hL a s n++[]) ((3,x)::(3,y)::hL a s n):=
 show Lo.sub [(6000,some ⟨a,.cells #[.slice s.1 n s.2.1] 212 (0,0),0⟩),(5000,s.2.2)] _ from lc rfl (lc rfl ln)
theorem Sl(a:Zg)(cs:Ŀ Value):oM 324 (λ_=>[.agg cs.toArray]) (λG=>rW.er G cs a) (ly a):=by
 intro v xs s f;refine eR.enter (args:=[_,_]) (N:=47) func324 rfl rfl rfl (λw0 G0 t C=>?_);obtain⟨n,D⟩:=C;have hz:w0.L.zero:=by rw[t];exact qJ n
 refine sr<|WL.box 3 Zh rfl rfl (λR=>nx ?_)
 refine WC.gA 3 rfl (by rw[t];rfl) (λI i J _=>?_);have y:At rW I R 0 a:=At.box J rfl (rW.mono i D);obtain⟨mp,mc,T,E⟩:=Kw y;refine WC.ö (S':=St w0 G0 I (hL v s xs.length++[])) (λw h=>h.weaken Gk) ?_;refine sr<|yy (Y0.Gy rfl) rfl<|yy (Y0.ia qu rfl (T 1 _ rfl)) rfl ?_
 refine æ ?_;refine WC.u2 (X:=Unit) (λ_=>[(0,.pointer (some ⟨v,0,none⟩)),(3,.pointer (some ⟨R,0,none⟩)),(4,.int .u64 (if a.neg=true then u64.wrap (u64.wrap (2*u64.wrap (a.υ.length:Int))+1)else u64.wrap (2*u64.wrap (a.υ.length:Int))))]) (λ_=>True) (λ_=>St w0 G0 I (hL v s xs.length++[])) ?_ (λ_ _=>?_)
 .refine Ν ?_;refine WC.cond (b:=a.neg) rfl (λA=>?_) (λA=>?_)
  .refine Ν ?_;refine WE.jH () trivial (fc rfl (fc rfl (fc (by rw[A];rfl) fn))) (λw h=>h)
  refine WC.skip<|WE.jH () trivial (fc rfl (fc rfl (fc (by rw[A];rfl) fn))) (λw h=>h)
 have L:∀c:Bool,0<=(if c=true then u64.wrap (u64.wrap (2*u64.wrap (a.υ.length:Int))+1)else u64.wrap (2*u64.wrap (a.υ.length:Int)))/\(if c=true then u64.wrap (u64.wrap (2*u64.wrap (a.υ.length:Int))+1)else u64.wrap (2*u64.wrap (a.υ.length:Int)))<18446744073709551616:=λc=>by split<;>exact pB _
 unfold ly at f⊢;generalize hH:fw (if a.neg=true then u64.wrap (u64.wrap (2*u64.wrap (a.υ.length:Int))+1)else u64.wrap (2*u64.wrap (a.υ.length:Int)))=H at f⊢;have F:∀l:Ŀ Int,(l.flatMap fG).length=4*l.length:=λl=>by
  induction l with
  |nil=>rfl
  |cons d l ih=>rw[ś,Ā,ih];show 4+_=_;rw[Ę];omega
 rw[Ā,Ā,F]at f;refine sr<|mv rfl rfl<|mv rfl rfl ?_
 refine ZW [] (xr _ (L a.neg)) Zh rfl (YC.of oK rfl) (by rw[hH,Ā];omega) (n.mono i) trivial hz (λY Z j g=>?_);rw[hH]at g⊢;refine nx<|sr<|yy (Y0.Gy rfl) rfl<|yy (Y0.ia qu rfl (j _ _ _ (T 1 _ rfl))) rfl<|yy (Y0.mE underlying116 rfl) rfl<|mv rfl rfl<|nx<|WC.block ?_
 refine WC.hJ (X:=Nat×(ŀ Addr×Nat×ŀ Ow)×Mem) (λq=>match q with|⟨k,_,_⟩=>[(0,.pointer (some ⟨v,0,none⟩)),(20,.slice mp a.υ.length mc),(21,.int .i64 (a.υ.length:Int)),(22,.int .i64 (k:Int))])
  (λq=>match q with|⟨k,s',G⟩=>k<=a.υ.length/\Mem.le I G/\rh G s' (xs++H++(a.υ.take k).flatMap fG))
  (λq=>match q with|⟨k,s',G⟩=>St w0 G0 G (hL v s' (xs++H++(a.υ.take k).flatMap fG).length)) (λq=>a.υ.length-q.1) ⟨0,Y,Z⟩ (fc rfl (fc rfl (fc rfl (fc rfl fn)))) ⟨Ĝ _,j,by rw[ř,ű,ę];exact g⟩ (λw h=>by show St _ _ _ (hL v Y (xs++H++(a.υ.take 0).flatMap fG).length) _;rw[ř,ű,ę];exact h) ?_
 rintro⟨k,s',G⟩ ⟨U,u,hr⟩;refine æ ?_;intro hr;refine WC.Ê (p:=(k:Int)<(a.υ.length:Int)) rfl (λA=>?_) (λA=>?_)
 .have B:k<a.υ.length:=ŉ;have V:(0:Int)<=(k:Int)/\a.υ[(k:Int).toNat]?=some a.υ[k]:=⟨ŉ,by simp[B]⟩;have hw:i64.wrap ((k:Int)+1)=((k+1:Nat):Int):=by rw[ī];omega
  have P:(a.υ.take (k+1)).flatMap fG=(a.υ.take k).flatMap fG++fG a.υ[k]:=by rw[č B,Ž];simp
  have O:(xs++H++(a.υ.take k).flatMap fG++fG a.υ[k]).length<=small:=by simp only[Ā,F,Č];show _+_+_+4<=small;simp only[small];omega
  refine WC.skip<|WE.then<|WC.seq<|WC.block<|sr<|yy (Y0.lS underlying116 tc (E.mono u) rfl rfl V) rfl<|yy (Y0.ia sT rfl (AtK.int (At.mono (Δ.at E V) u))) rfl<|sg rfl rfl<|nx<|WC.region<|mv rfl rfl<|mv rfl rfl<|yy (Y0.nilCheck rfl) rfl<|yy (Y0.zo rfl) rfl<|yy (Y0.î 6000 sU rfl rfl rfl) rfl ?_
  refine mv rfl rfl<|yy (Y0.shr rfl rfl ĳ) rfl<|yy (Y0.conv underlying248 underlying5 rfl) rfl<|mv rfl rfl<|yy (Y0.shr rfl rfl ĳ) rfl<|yy (Y0.conv underlying248 underlying5 rfl) rfl<|mv rfl rfl<|yy (Y0.shr rfl rfl ĳ) rfl<|yy (Y0.conv underlying248 underlying5 rfl) rfl<|mv rfl rfl<|yy (Y0.conv underlying248 underlying5 rfl) rfl ?_
  refine WL.qY (e:=5) (r:=Rp.int .u8) (vs:=#[(0,.int .u8 (u8.wrap (Int.fdiv a.υ[k] (2 ^ (min (24:Int).toNat u32.bits))))),(1,.int .u8 (u8.wrap (Int.fdiv a.υ[k] (2 ^ (min (16:Int).toNat u32.bits))))),(2,.int .u8 (u8.wrap (Int.fdiv a.υ[k] (2 ^ (min (8:Int).toNat u32.bits))))),(3,.int .u8 (u8.wrap a.υ[k]))]) (cs:=(fG a.υ[k]).map (Value.int .u8)) (fG a.υ[k]) Zh rfl rfl rfl rfl ĳ (λ_=>İ) (ÿ.C8 _) (key:=999) rfl (by rw[t];rfl) (λp1 G3 m q1=>?_);refine WL.hM (r:=Rp.int .u8) (e:=5) 5000 Zh rfl underlying32 G5 rfl ĳ rfl rfl (hr.mono m) rfl q1 O (λp2 S Q W=>?_);refine yy (Y0.nilCheck rfl) rfl<|yy (Y0.zo rfl) rfl<|WL.eW 6000 #[.slice p2 (xs++H++(a.υ.take k).flatMap fG++fG a.υ[k]).length S] Zh DG rfl rfl rfl aaU rfl rfl ?_
  refine WL.nil<|WE.inBlock<|WE.then<|WC.region<|yy (Y0.add rfl rfl) rfl ?_
  rw[hw];rw[ď (xs++H),<-P]at W⊢;exact mv rfl rfl<|WL.nil<|WE.gJ (x:=(k,s',G)) (k+1,(p2,S,Q),G3) ⟨ŉ,Mem.le_trans u m,W⟩ (fc rfl (fc rfl (fc rfl (fc rfl fn)))) (λw h=>h.weaken (lc rfl (lc rfl ln))) (by show a.υ.length-(k+1)<a.υ.length-k;omega)
 have K:k=a.υ.length:=ŉ;subst K;rw[ĥ,ď]at hr⊢;refine WC.exit<|WE.ä<|WE.ä<|WE.Í<|WE.jb ?_
 exact WE.iL rfl ⟨rfl,s',rfl,hr⟩
theorem Zt9(a:Zf)(cs:Ŀ Value):oM 294 (λ_=>[.agg cs.toArray]) (λG=>tx.er G cs a) (mG a):=by
 intro F xs s g;refine eR.enter (args:=[_,_]) (N:=12) func294 rfl rfl rfl (λw0 G0 l m=>?_);obtain⟨i,n⟩:=m;have t:w0.L.zero:=by rw[l];exact qJ i
 unfold mG at g⊢;rw[Ā,Ā]at g;refine sr<|WL.box 3 Zh rfl rfl (λy=>nx ?_)
 refine WC.gA 3 rfl (by rw[l];rfl) (λq f p _=>?_);have e:At tx q y 0 a:=At.box p rfl (tx.mono f n);obtain⟨A,v,D⟩:=AtK.fst (AtK.via e);obtain⟨B,x,k2⟩:=AtK.snd (AtK.via e);refine WC.ö (S':=St w0 G0 q (hL F s xs.length++[])) (λw C=>C.weaken Gk) ?_;refine æ ?_;refine yy (Y0.kT pK rfl v D) rfl ?_;refine ZW [] (Sl a.num A) Zh rfl (YC.of Aj rfl) (by rw[Ā];omega) (i.mono f) v t (λJ H c k=>?_);refine æ ?_;refine yy (Y0.kT pK rfl (rW.mono c x) (λj u h=>c _ _ _ (k2 j u h))) rfl ?_;refine ZW [] (Sl a.den B) Zh rfl (YC.of Aj rfl) (by rw[Ā,Ā];omega) k (rW.mono c x) t (λE I r d=>?_);rw[ď]at d⊢;exact WL.nil<|WE.jb<|WE.iL rfl ⟨rfl,E,rfl,d⟩
theorem ZAy(t:Za)(cs:Ŀ Value):oM 242 (λ_=>[.agg cs.toArray]) (λG=>Zj.er G cs t) (fV t):=by
 intro A xs s a;refine eR.enter (args:=[_,_]) (N:=20) func242 rfl rfl rfl (λw0 G0 m r=>?_);obtain⟨g,y⟩:=r;have F:w0.L.zero:=by rw[m];exact qJ g
 unfold fV at a⊢;generalize hH:mG t.c=H at a⊢;rw[Ā,Ā]at a;refine sr<|WL.box 3 Zh rfl rfl (λO=>nx ?_)
 refine WC.gA 3 rfl (by rw[m];rfl) (λD f B _=>?_);have d:At Zj D O 0 t:=At.box B rfl (Zj.mono f y);obtain⟨P,I,W⟩:=AtK.fst (AtK.via d);have S:=AtK.vec (AtK.snd (AtK.via d));refine WC.ö (S':=St w0 G0 D (hL A s xs.length++[])) (λw l=>l.weaken Gk) ?_;refine sr<|mv rfl rfl<|yy (Y0.Mz rfl) rfl<|yy (Y0.kT rX rfl I W) rfl ?_
 refine ZW [] (Zt9 t.c P) Zh rfl (YC.of I3 rfl) (by rw[hH,Ā];omega) (g.mono f) I F (λJ K n c=>?_);rw[hH]at c⊢;refine nx ?_;refine æ ?_;refine yy (Y0.jF _ rY rfl (Zz _ _ _) (λj v h=>n _ _ _ (S j v h))) rfl<|mv rfl rfl<|nx<|WC.block ?_
 refine WC.hJ (X:=Nat×(ŀ Addr×Nat×ŀ Ow)×Mem) (λi=>match i with|⟨k,_,_⟩=>[(0,.pointer (some ⟨A,0,none⟩)),(11,.agg (õ (Value.int .i64) 8 t.m).toArray),(12,.int .i64 (k:Int))])
  (λi=>match i with|⟨k,s',G⟩=>k<=8/\rh G s' (xs++H++iH t.m k))
  (λi=>match i with|⟨k,s',G⟩=>St w0 G0 G (hL A s' (xs++H++iH t.m k).length)) (λi=>8-i.1) ⟨0,J,K⟩ (fc rfl (fc rfl (fc rfl fn))) ⟨ŉ,by rw[show iH t.m 0=[]from rfl,ę];exact c⟩ (λw l=>by show St _ _ _ (hL A J (xs++H++iH t.m 0).length) _;rw[show iH t.m 0=[]from rfl,ę];exact l) ?_
 rintro⟨k,s',G⟩ ⟨R,hr⟩;dsimp only at R hr⊢;have q:∀k j,k<=j->(iH t.m k).length<=(iH t.m j).length:=λk j h=>by
  induction j with
  |zero=>rw[show k=0 by omega];exact Ċ _
  |succ j V=>
   by_cases e:k=j+1
   .rw[e];exact Ċ _
   refine ŋ (V ŉ) ?_;show _<=(iH t.m j++_).length;rw[Ā];omega
 refine sr<|yy (Y0.lss rfl rfl) rfl<|nx<|WC.seq ?_
 refine WC.Ê (p:=(k:Int)<8) rfl (λQ=>?_) (λQ=>?_)
 .have U:i64.wrap ((k:Int)+1)=((k+1:Nat):Int):=by rw[ī];omega
  have hi:(0:Int)<=(k:Int)/\(k:Int)<(8:Nat):=⟨ŉ,ŉ⟩;have Z:=q (k+1) 8 ŉ;have T:(iH t.m (k+1)).length=(iH t.m k).length+(fw (u64.wrap (Ζ t.m (k:Int)))).length:=Ā;refine WC.skip<|WE.then<|WC.seq<|WC.block<|sr<|yy (Y0.index underlying145 eC je rfl rfl hi (tE _ _ _ hi)) rfl ?_
  refine Ν ?_;intro hr;refine WL.ö (S':=St w0 G0 G (hL A s' (xs++H++iH t.m k).length++[])) (λw l=>l) ?_;refine ZW [] (xr _ (pB _)) Zh rfl (YC.of oK rfl) (by rw[Ā,Ā,Ā];omega) hr trivial F (λY L E u=>?_);refine WL.nil<|WE.inBlock<|WE.then<|WC.region<|yy (Y0.add rfl rfl) rfl ?_
  rw[U];rw[ď (xs++H)]at u⊢;exact mv rfl rfl<|WL.nil<|WE.gJ (x:=(k,s',G)) (k+1,Y,L) ⟨ŉ,u⟩ (fc rfl (fc rfl (fc rfl fn))) (λw l=>l) (by show 8-(k+1)<8-k;omega)
 have C:k=8:=ŉ;subst C;rw[ď]at hr⊢;exact WC.exit<|WE.ä<|WE.ä<|WE.Í<|WE.jb<|WE.iL rfl ⟨rfl,s',rfl,hr⟩
theorem UG{a n:Nat}{s:ŀ Addr×Nat×ŀ Ow}{x:Ow}{y:ŀ Ow}:Lo.sub (hL a s n++[(7,some x)]) ((7,some x)::(7,y)::(hL a s n++[])):=
 show Lo.sub [(6000,some ⟨a,.cells #[.slice s.1 n s.2.1] 212 (0,0),0⟩),(5000,s.2.2),(7,some x)] _ from lc rfl (lc rfl (lc rfl ln))
theorem Uj{a n:Nat}{s:ŀ Addr×Nat×ŀ Ow}{x:ŀ Ow}:Lo.sub (hL a s n) (hL a s n++[(7,x)]):=
 show Lo.sub [(6000,some ⟨a,.cells #[.slice s.1 n s.2.1] 212 (0,0),0⟩),(5000,s.2.2)] _ from lc rfl (lc rfl ln)
theorem MA{α:Type}(f:α->Ŀ Int)(l:Ŀ α)(k:Nat):((l.take k).flatMap f).length<=(l.flatMap f).length:=by have:=Ē List.length (Ē (List.flatMap f) (Ņ k l));rw[Ž,Ā]at this;omega
theorem y6{α:Type}(f:α->Ŀ Int){l:Ŀ α}{k:Nat}(h:k<l.length):(l.take (k+1)).flatMap f=(l.take k).flatMap f++f l[k]:=by rw[č h,Ž];simp
theorem Zze(l:Ŀ Za)(p:ŀ Addr)(c:Nat):oM 241 (λn=>[.slice p l.length c,.func (.func 242) #[.pointer (some ⟨n,0,none⟩)] #[]]) (λG=>Δ Zj G (.slice p l.length c) l) (fF l):=by
 intro n xs s a;refine eR.enter (args:=[_,_,_]) (N:=23) func241 rfl rfl rfl (λw0 G0 A t=>?_);obtain⟨e,m⟩:=t;have F:w0.L.zero:=by rw[A];exact qJ e
 have O:l.length<=9223372036854775807:=by obtain⟨_,_,_,_,h,_⟩:=m;omega
 unfold fF at a⊢;generalize hH:fw (u64.wrap (l.length:Int))=H at a⊢;rw[Ā,Ā]at a;refine sr<|mv rfl rfl<|mv rfl rfl<|yy (Y0.mE underlying49 rfl) rfl<|yy (Y0.conv underlying3 underlying250 rfl) rfl ?_
 refine WL.ö (S':=St w0 G0 G0 (hL n s xs.length++[])) (λw j=>j) ?_;refine ZW [] (xr _ (pB _)) Zh rfl (YC.of oK rfl) (by rw[hH,Ā];omega) e trivial F (λI J q d=>?_);rw[hH]at d⊢;refine nx<|sr<|mv rfl rfl<|yy (Y0.mE underlying49 rfl) rfl<|mv rfl rfl<|nx<|WC.block ?_
 refine WC.hJ (X:=Nat×(ŀ Addr×Nat×ŀ Ow)×Mem) (λf=>match f with|⟨k,_,_⟩=>[(0,.pointer (some ⟨n,0,none⟩)),(2,.func (.func 242) #[.pointer (some ⟨n,0,none⟩)] #[]),(13,.slice p l.length c),(14,.int .i64 (l.length:Int)),(15,.int .i64 (k:Int))])
  (λf=>match f with|⟨k,s',G⟩=>k<=l.length/\Mem.le G0 G/\rh G s' (xs++H++(l.take k).flatMap fV))
  (λf=>match f with|⟨k,s',G⟩=>St w0 G0 G (hL n s' (xs++H++(l.take k).flatMap fV).length)) (λf=>l.length-f.1) ⟨0,I,J⟩ (fc rfl (fc rfl (fc rfl (fc rfl (fc rfl fn))))) ⟨Ĝ _,q,by rw[ř,ű,ę];exact d⟩ (λw j=>by show St _ _ _ (hL n I (xs++H++(l.take 0).flatMap fV).length) _;rw[ř,ű,ę];exact j) ?_
 rintro⟨k,s',G⟩ ⟨D,i,hr⟩;refine æ ?_;intro hr;refine WC.Ê (p:=(k:Int)<(l.length:Int)) rfl (λL=>?_) (λL=>?_)
 .have g:k<l.length:=ŉ;have E:(0:Int)<=(k:Int)/\l[(k:Int).toNat]?=some l[k]:=⟨ŉ,by simp[g]⟩;have Q:i64.wrap ((k:Int)+1)=((k+1:Nat):Int):=by rw[ī];omega
  have B:=MA fV l (k+1);rw[y6 fV g,Ā]at B;obtain⟨ct,y,kt⟩:=Δ.at (m.mono i) E;refine WC.skip<|WE.then<|WC.seq<|WC.block<|sr<|yy (Y0.lS underlying49 qA (m.mono i) rfl rfl E) rfl<|yy (Y0.kT rZ rfl y kt) rfl ?_
  refine æ ?_;intro _ hr;refine WL.fg 7 Zh qA rfl rfl rfl rfl (by rw[Į];exact Zj.len y) (λu P=>Zj.one y u (by simpa using P)) ?_;refine WL.ö (λw j=>j.weaken UG) ?_;refine nx<|WC.region<|mv rfl rfl<|yy (Y0.eK 7 rZ rfl rfl (by rw[Į];exact Zj.len y)) rfl ?_
  refine ZW [(7,_)] (ZAy l[k] ct) Zh rfl (YC.C9 IM rfl rfl) (by simp only[Ā];omega) hr y F (λR K r v=>?_);refine WL.nil<|WE.inBlock<|WE.then<|WC.region<|yy (Y0.add rfl rfl) rfl ?_
  rw[Q];rw[ď (xs++H),<-y6 fV g]at v⊢;exact mv rfl rfl<|WL.nil<|WE.gJ (x:=(k,s',G)) (k+1,R,K) ⟨ŉ,Mem.le_trans i r,v⟩ (fc rfl (fc rfl (fc rfl (fc rfl (fc rfl fn))))) (λw j=>j.weaken Uj) (by show l.length-(k+1)<l.length-k;omega)
 have C:k=l.length:=ŉ;subst C;rw[ĥ,ď]at hr⊢;exact WC.exit<|WE.ä<|WE.ä<|WE.Í<|WE.jb<|WE.iL rfl ⟨rfl,s',rfl,hr⟩
theorem UF(l:Ŀ Za)(p:ŀ Addr)(c:Nat):oM 169 (λ_=>[.slice p l.length c]) (λG=>Δ Zj G (.slice p l.length c) l) (fF l):=by
 intro j xs s e;refine Ν ?_;intro w0 G0 _ f a g;refine WL.ö (S':=St w0 G0 G0 (hL j s xs.length++[])) (λw i=>i) ?_;refine ZW [] (Zze l p c) Zh rfl (YC.of IL rfl) e a g (by rw[f];exact qJ a) (λs' G' h d=>?_);exact WL.nil<|WE.jb<|WE.iL rfl ⟨rfl,s',rfl,d⟩
theorem Zzc(l:Ŀ (Ŀ Za))(p:ŀ Addr)(c:Nat):oM 283 (λf=>[.slice p l.length c,.func (.func 169) #[.pointer (some ⟨f,0,none⟩)] #[]]) (λG=>Δ RP G (.slice p l.length c) l) (fR l):=by
 intro f xs s a;refine eR.enter (args:=[_,_,_]) (N:=23) func283 rfl rfl rfl (λw0 G0 y u=>?_);obtain⟨e,n⟩:=u;have E:w0.L.zero:=by rw[y];exact qJ e
 have L:l.length<=9223372036854775807:=by obtain⟨_,_,_,_,h,_⟩:=n;omega
 unfold fR at a⊢;generalize hH:fw (u64.wrap (l.length:Int))=H at a⊢;rw[Ā,Ā]at a;refine sr<|mv rfl rfl<|mv rfl rfl<|yy (Y0.mE underlying46 rfl) rfl<|yy (Y0.conv underlying3 underlying250 rfl) rfl ?_
 refine WL.ö (S':=St w0 G0 G0 (hL f s xs.length++[])) (λw m=>m) ?_;refine ZW [] (xr _ (pB _)) Zh rfl (YC.of oK rfl) (by rw[hH,Ā];omega) e trivial E (λF I r d=>?_);rw[hH]at d⊢;refine nx<|sr<|mv rfl rfl<|yy (Y0.mE underlying46 rfl) rfl<|mv rfl rfl<|nx<|WC.block ?_
 refine WC.hJ (X:=Nat×(ŀ Addr×Nat×ŀ Ow)×Mem) (λg=>match g with|⟨k,_,_⟩=>[(0,.pointer (some ⟨f,0,none⟩)),(2,.func (.func 169) #[.pointer (some ⟨f,0,none⟩)] #[]),(13,.slice p l.length c),(14,.int .i64 (l.length:Int)),(15,.int .i64 (k:Int))])
  (λg=>match g with|⟨k,s',G⟩=>k<=l.length/\Mem.le G0 G/\rh G s' (xs++H++(l.take k).flatMap fF))
  (λg=>match g with|⟨k,s',G⟩=>St w0 G0 G (hL f s' (xs++H++(l.take k).flatMap fF).length)) (λg=>l.length-g.1) ⟨0,F,I⟩ (fc rfl (fc rfl (fc rfl (fc rfl (fc rfl fn))))) ⟨Ĝ _,r,by rw[ř,ű,ę];exact d⟩ (λw m=>by show St _ _ _ (hL f F (xs++H++(l.take 0).flatMap fF).length) _;rw[ř,ű,ę];exact m) ?_
 rintro⟨k,s',G⟩ ⟨C,j,hr⟩;refine æ ?_;intro hr;refine WC.Ê (p:=(k:Int)<(l.length:Int)) rfl (λK=>?_) (λK=>?_)
 .have i:k<l.length:=ŉ;have D:(0:Int)<=(k:Int)/\l[(k:Int).toNat]?=some l[k]:=⟨ŉ,by simp[i]⟩;have O:i64.wrap ((k:Int)+1)=((k+1:Nat):Int):=by rw[ī];omega
  have A:=MA fF l (k+1);rw[y6 fF i,Ā]at A;obtain⟨q,P,Q,R⟩:=AtK.sl (Δ.at (n.mono j) D);refine WC.skip<|WE.then<|WC.seq<|WC.block<|sr<|yy (Y0.lS underlying46 kV (n.mono j) rfl rfl D) rfl<|yy (Y0.ia mH rfl Q) rfl ?_
  refine æ ?_;intro hr;refine WL.ö (S':=St w0 G0 G (hL f s' (xs++H++(l.take k).flatMap fF).length++[])) (λw m=>m) ?_;refine ZW [] (UF l[k] q P) Zh rfl (YC.C9 Ab rfl rfl) (by simp only[Ā];omega) hr R E (λS J t v=>?_);refine WL.nil<|WE.inBlock<|WE.then<|WC.region<|yy (Y0.add rfl rfl) rfl ?_
  rw[O];rw[ď (xs++H),<-y6 fF i]at v⊢;exact mv rfl rfl<|WL.nil<|WE.gJ (x:=(k,s',G)) (k+1,S,J) ⟨ŉ,Mem.le_trans j t,v⟩ (fc rfl (fc rfl (fc rfl (fc rfl (fc rfl fn))))) (λw m=>m) (by show l.length-(k+1)<l.length-k;omega)
 have B:k=l.length:=ŉ;subst B;rw[ĥ,ď]at hr⊢;exact WC.exit<|WE.ä<|WE.ä<|WE.Í<|WE.jb<|WE.iL rfl ⟨rfl,s',rfl,hr⟩
theorem TY(l:Ŀ (Ŀ Za))(p:ŀ Addr)(c:Nat):oM 216 (λ_=>[.slice p l.length c]) (λG=>Δ RP G (.slice p l.length c) l) (fR l):=by
 intro j xs s e;refine Ν ?_;intro w0 G0 _ f a g;refine WL.ö (S':=St w0 G0 G0 (hL j s xs.length++[])) (λw i=>i) ?_;refine ZW [] (Zzc l p c) Zh rfl (YC.of IZ rfl) e a g (by rw[f];exact qJ a) (λs' G' h d=>?_);exact WL.nil<|WE.jb<|WE.iL rfl ⟨rfl,s',rfl,d⟩
theorem ZAw(k:Zd)(B:0<=k.n)(cs:Ŀ Value):oM 137 (λ_=>[.agg cs.toArray]) (λG=>tT.er G cs k) (gZ k):=by
 intro E xs s f;refine eR.enter (args:=[_,_]) (N:=16) func137 rfl rfl rfl (λw0 G0 j n=>?_);obtain⟨g,p⟩:=n;have r:w0.L.zero:=by rw[j];exact qJ g
 unfold gZ at f⊢;simp only[Ā]at f;refine sr<|WL.box 3 Zh rfl rfl (λv=>nx ?_)
 refine WC.gA 3 rfl (by rw[j];rfl) (λt c q _=>?_);have l:At tT t v 0 k:=At.box q rfl (tT.mono c p);obtain⟨p1,x,p2,y,J,A,h2⟩:=RO l;refine WC.ö (S':=St w0 G0 t (hL E s xs.length++[])) (λw C=>C.weaken Gk) ?_;refine sr ?_;refine æ ?_;refine ZW [] (Tu k.n B) Zh rfl (YC.of wO rfl) (by simp only[Ā];omega) (g.mono c) trivial r (λK F d h=>?_);refine æ ?_;refine ZW [] (TY k.eqs p1 x) Zh rfl (YC.of Ad rfl) (by simp only[Ā];omega) h (A.mono d) r (λL H m i=>?_);refine æ ?_;refine ZW [] (TY k.neqs p2 y) Zh rfl (YC.of Ad rfl) (by simp only[Ā];omega) i (h2.mono (Mem.le_trans d m)) r (λD I u a=>?_);have e:xs++lB k.n++fR k.eqs++fR k.neqs=xs++(lB k.n++fR k.eqs++fR k.neqs):=by simp only[ď]
 rw[e]at a⊢;exact WL.nil<|WE.jb<|WE.iL rfl ⟨rfl,D,rfl,a⟩
theorem yJ(k:Zd)(p1:ŀ Addr)(p:Nat)(p2:ŀ Addr)(s:Nat)(r:Ĳ)(hr:(vp k).ω r):Cr 77 #[.agg ([.int .i64 k.n,.slice p1 k.eqs.length p,.slice p2 k.neqs.length s]).toArray] (λG=>Δ RP G (.slice p1 k.eqs.length p) k.eqs/\Δ RP G (.slice p2 k.neqs.length s) k.neqs) (λG v=>v=.string r):=by
 refine iC.enter (args:=[_]) (N:=12) func77 rfl rfl rfl (λw0 G0 e g=>?_);obtain⟨A,h2⟩:=g;obtain⟨v,K,hr⟩:=hr;have y:∀i,w0.L.get i=none:=λi=>by rw[e];rfl
 have L:w0.L.zero:=by rw[e];intro q J;cases J
 refine sr<|WL.box 1 Zh rfl rfl (λE=>?_)
 refine sg rfl rfl<|nx ?_
 refine WC.gA 1 rfl (y _) (λn a t _=>?_);have c:tT.er n [.int .i64 k.n,.slice p1 k.eqs.length p,.slice p2 k.neqs.length s] k:=⟨[_],[_,_],rfl,rfl,⟨[_],[_],rfl,⟨_,rfl,A.mono a⟩,⟨_,rfl,h2.mono a⟩⟩⟩;have B:∀j u,([.int .i64 k.n,.slice p1 k.eqs.length p,.slice p2 k.neqs.length s]:Ŀ Value)[j]?=some u->n E (0+j)=some u:=λj u h=>by rw[ņ];exact t j u (by simpa[Value.cells]using h)
 refine WC.ö (S':=St w0 G0 n []) (λw x=>x.weaken ln) ?_;refine WC.seq<|sr<|yy (Y0.kT lJ rfl c B) rfl ?_
 refine WL.gg Zh rfl (YC.of Ym rfl) (Qg _ _ _ _ _ _ K) rfl ⟨A.mono a,h2.mono a⟩ ?_;refine æ ?_;intro hr;refine WC.cond (b:=!v) rfl (λF=>?_) (λF=>?_)
 .have d:v=false:=by cases v<;>simp_all
  subst d;replace hr:_=r:=hr;subst hr;exact sr<|sg rfl rfl<|nx<|WC.ret<|WE.gC<|WE.ja rfl rfl rfl
 have d:v=true:=by cases v<;>simp_all
 subst d;obtain⟨⟨I,f⟩,hr⟩:=hr;replace hr:_=r:=hr;subst hr;refine WC.skip<|WE.then<|sr<|WL.alloc 6000 Zh z212 rfl (λD=>?_)
 refine WL.ö (S':=St w0 G0 n (hL D (none,0,none) ([]:Ŀ Int).length++[])) (λw x=>x.weaken (show Lo.sub [(6000,some ⟨D,.cells #[.slice none 0 0] 212 (0,0),0⟩),(5000,none)] _ from lc rfl (lw ln))) ?_;refine nx<|sr<|yy (Y0.kT lJ rfl c B) rfl ?_
 refine ZW [] (ZAw k I _) Zh rfl (YC.of Il rfl) f Β.nil c L (λs' G' H l=>?_);refine nx<|sr<|yy (Y0.zo rfl) rfl<|yy (Y0.î 6000 sU rfl rfl rfl) rfl ?_
 refine WL.eO 5000 l rfl (y _) (λO P C m _=>?_);refine yy (Y0.kQ underlying32 underlying5 underlying9 m rfl) rfl<|sg rfl rfl<|nx<|WC.ret ?_
 exact WE.ja rfl rfl rfl
instance dy'{t r}:SpcM ((ZL t)) r (∀{f e j h},Cl 128 #[.slice f j e,.func (.func 129) #[] #[]] [(5000,h)] (λG=>Β c' 147 G (.slice f j e) t h) (λG L v=>∃k,L=[(5000,k)]/\v=.tuple #[]/\Β c' 147 G (.slice f j e) r k)):=.mk λhr {f e j h}=>by
 refine ry (args:=[_,_]) (N:=14) func128 z z z (λq A u m=>?_);have d:=m;have a:q.L.zero:=by rw[u];intro p o x B;simp only[Ď,ĝ,ţ]at o;subst o;exact B5 d B
 refine sr<|ν z<|Ε (Y0.nv Q' d z)<|Ο z<|w' ?_
 refine æ ?_;intro _ hr _;refine oE hr λE l hr=>mW z z (x' IE z) (dJ'.h l) z (d) (lc z ln) a (λD s C y c=>?_);obtain⟨i,rfl,rfl,g⟩:=c;refine t'<|WE.jb ?_
 obtain rfl:_=r:=hr;refine mV (S':=St q A s [(5000,i)]) (w1 z)<|WE.iL z  ⟨_,z,z,g⟩
instance gN'{o r}:SpcM ((Jp o)) r (∀{l h},Cl 72 #[.map (some l)] [(5500,h)] (λG=>Ù og (pF tx G) (.map (some l)) o h) (λG L v=>L=[(5500,h)]/\(∃zp zc,v=δ zp r zc/\sl c' G zp zc r))):=.mk λhr {l h}=>by
 refine ry (args:=[_]) (N:=28) func72 z z z (λw0 T D ak=>?_);have q:=ak;have hz:w0.L.zero:=by rw[D];intro p hp x hx;simp only[Ď,ĝ,ţ]at hp;subst hp;exact Ù.zero q hx
 refine sr<|dQ z<|nr<|ν z<|Ε (Y0.Ot 5500 Ns q z z)<|oA hr λal hr=>WL.wm (r:=c') (e:=147) (n:=(o.length:Int)) 4008 z z Q' lf z ĳ z z al λp1 aB ae av=>Ο z<|o'<|sr<|ν z<|WL.yp 5500 4010 z z Ns q z z λab Z ag=>nx<|nJ (X:=(Ŀ Za)×ŀ Addr×Nat×ŀ Ow×Ŀ ((Fin 8->Int)×Zf)×ŀ Ow×Mem) hr (λ⟨s,C,B,m,a,P,A⟩=>⟨(s,a),[(3,δ C s B),(0,.map (some l)),(10,ab)],Mem.le T A/\Β c' 147 A (δ C s B) s m/\fU og (pF tx A) h ab a none P,St w0 T A [(4003,m),(5500,h),(4010,P)]⟩) (λ(⟨I,K,J,E,R⟩:(Ŀ Za)×ŀ Addr×Nat×ŀ Ow×Mem)=>⟨I,[(3,δ K I J),(0,.map (some l))],Mem.le T R/\Β c' 147 R (δ K I J) I E,St w0 T R [(4003,E),(5500,h)]⟩) ⟨([]:Ŀ Za),p1,aB,ae,o,Z,T⟩ z (Æ z) ⟨mr,av,(fU.forget ag)⟩ ?_ ?_ ?_
 .intro w O;have O:=O.Ý (i:=4008) (j:=4003) z (by rw[D];rfl);exact O.weaken (lc z (lc z (lc z ln)))
 .rintro _ ⟨s,C,B,m,a,P,A⟩ ⟨F,M,am⟩ hr;refine sr<|WL.C5 5500 4010 z z am z z z (λRa k Rb U Y Q aN aP=>?_) (λY=>?_)
  .replace hr:=hr.2 _ _ _ Y;generalize Ra++Rb=R2 at hr Q;refine lR z<|nx<|o'<|n1 z<|q'<|b'<|Y'<|sr<|WL.yf 5500 4010 z z Q z z z (λu1 az aS=>?_)
   obtain⟨aW,rfl,aC⟩:=az;obtain⟨c,g,f,d,rfl,y,t⟩:=ZvC aC;refine lR z<|lR z<|W' 4 z z145 z λb1=>W' 5 z D4 z λb2=>A' 4 z wE z z z (Zz _ _ _) (Zz _ _ _) (λu hu=>Rp.one (gf .i64 8) (G:=A) (x:=k.1) (cs:=Ø k.1) z u (by first|simpa using hu|simpa[Value.cells]using hu))<|gu 5 wB z ?_
   refine æ ?_;intro _ hr _;refine I' hr z (λaD hr=>?_) (λaD hr=>?_)
   .refine w'<|ν z<|Ε (y' 5 rX z z z)<|Ε (y' 4 rY z z (Zz _ _ _))<|Ε (me (vs:=#[(0,.agg ((Τ k.2 c g f d)).toArray),(1,.agg (Ø k.1).toArray)]) (v:=.agg (((Τ k.2 c g f d):Ŀ Value)++(Ø k.1)).toArray) z z (λ_=>İ))<|nb (e:=147) (r:=c') (vs:=#[(0,.agg (((Τ k.2 c g f d):Ŀ Value)++(Ø k.1)).toArray)]) (cs:=(((Τ k.2 c g f d):Ŀ Value)++(Ø k.1))++([])) ([(Za.mk k.2 k.1)]:Ŀ Za) z z z z z ĳ (λ_=>İ) ⟨((Τ k.2 c g f d):Ŀ Value)++(Ø k.1),[],z,⟨(Τ k.2 c g f d),Ø k.1,z,⟨(ζ k.2.num c g),(ζ k.2.den f d),z,⟨[.bool k.2.num.neg],[δ c k.2.num.υ g],z,z,⟨_,z,y⟩⟩,⟨[.bool k.2.den.neg],[δ f k.2.den.υ d],z,z,⟨_,z,t⟩⟩⟩,z⟩,z⟩ (key:=999) z (by rw[D];rfl) (λp2 an H ax=>?_)
    refine oA hr λaf hr=>WL.hM (r:=c') (e:=147) 4003 z z Q' lf z ĳ z z (M.mono H) z ax af λp3 ar ac aw=>dQ z<|t'<|E'<|N' ⟨(s++[(Za.mk k.2 k.1)]),p3,ar,ac,R2,U,an⟩ hr ⟨(mx F H),aw,(fU.forget (fU.qf Q H))⟩ (Æ z) (w3 z z z)
   refine q'<|E'<|N' ⟨s,C,B,m,R2,U,A⟩ hr ⟨F,M,(fU.forget Q)⟩ (Æ z) (w3 z z z)
  replace hr:=hr.1 Y;refine lR z<|nx<|o'<|tM z<|nK<|p'<|p'<|K'<|oB ⟨s,C,B,m,A⟩ ⟨hr,F,M⟩ (Æ z) (w2 z z)
 rintro⟨I,K,J,E,R⟩ ⟨hr,aF,aj⟩;refine b'<|sr<|ν z<|oE hr λaV ah hr=>mw (λw O=>O.Ý (i:=4003) (j:=5000) z (by rw[D];rfl))<|mW z z (x' Ig z) (dy'.h ah) z (aj) (lc z ln) hz (λaO aU aL aH S=>?_)
 obtain⟨au,rfl,rfl,V⟩:=S;refine mw (λw O=>O.Ý (i:=5000) (j:=4003) z (by rw[D];rfl))<|nr<|ν z<|Ο z<|m' ?_
 obtain rfl:_=r:=hr;refine uB (r:=c') (e:=147) 4003 V z (by rw[D];rfl) λaR ao aE W aG=>mV (S':=St w0 T ao [(5500,h)]) (w1 z)<|j' z z ⟨z,⟨_,_,(qT W),(rD W)⟩⟩
instance dp'{C l r}:SpcM ((Ee C l)) r (∀{B D},Cr 29 #[δ B C D,.agg (Ø l).toArray] (λG=>sl c' G B D C) (iB c' r)):=.mk λhr {B D}=>by
 refine Ν ?_;intro T L u F b2 hr _;have hz:=tS (w0:=T);refine WC.mB hr [0,3,6,15] [3] [0,3] [3] (λ(⟨o,R⟩:Int×(Fin 8->Bool))=>⟨(o,R),[(16,i' o)],tr,[(6,ú b2 (õ Value.bool 8 R) 143)]⟩) (λ(_:Unit)=>⟨(.inr ()),[],tr,[]⟩) ⟨0,(λ_=>false)⟩ ?_;intro E _ hr K _;refine b'<|sr<|WL.makeMap (ky:=og) (Rv:=pF tx E) 4033 z z λH S al=>?_
 refine Ν ?_;intro hr;refine WC.mD hr [3,34,35,9] [3] [9] [] (λ(⟨n,P,q⟩:Int×(Ŀ ((Fin 8->Int)×Zf))×ŀ Ow)=>⟨(n,P),[(36,i' n)],λs=>Ù og (pF tx s) (.map (some H)) P q,[(4033,q)]⟩) (λ(⟨a,J⟩:(Ŀ ((Fin 8->Int)×Zf))×ŀ Ow)=>⟨a,[],λW=>Ù og (pF tx W) (.map (some H)) a J,[(4033,J)]⟩) ⟨0,[],S⟩ ?_ ?_
 .rintro _ s ⟨n,P,q⟩ y Z hr;refine Ν ?_;intro _ g _ _ c _ e _ f _ d _ _ _ t b3 x hr v;refine WC.mB hr [3,11,12,34,35,36,41,9] [3,11,4033] [3,11,12,34,35,36,9] [3,11,4033] (λ(⟨m,I⟩:Int×(Fin 8->Int))=>⟨(m,I),[(42,i' m)],tr,[(12,ú x (Ø I) 145)]⟩) (λ(Q:(Fin 8->Int))=>⟨Q,[],tr,[(12,ú x (Ø Q) 145)]⟩) ⟨0,(λ_=>0)⟩ ?_;intro O Q hr A _;refine Ν ?_;intro hr;obtain⟨⟨N,av⟩,hr⟩:=hr;exact WL.lT (Rv':=pF tx O) (k:=Q) (z:=g.c) 4033 z Ns (Ù.qf Z A) z z z z N ⟨(Τ g.c c e f d),z,⟨(ζ g.c.num c e),(ζ g.c.den f d),z,⟨[.bool g.c.num.neg],[δ c g.c.num.υ e],z,z,⟨_,z,(t.mono A)⟩⟩,⟨[.bool g.c.den.neg],[δ f g.c.den.υ d],z,z,⟨_,z,(v.mono A)⟩⟩⟩⟩ (λ_ _ _ _ h=>h) av λaw ar=>Η
 rintro W ⟨a,J⟩ hr aK V;refine b'<|sr<|ν z<|oE hr λaR U hr=>mw (λw p=>p.Ý (i:=4033) (j:=5500) z (by rw[u];rfl))<|WL.lN z z (x' Yo z) (gN'.h U) z (V) (lc z ln) (λi hi=>by simp only[ġ,Ŕ,Ď,ĝ,ţ]at hi;subst hi;exact z) hz (λaN aQ aL Y=>?_)
 obtain⟨aP,aM,rfl,X⟩:=Y;refine mw (λw p=>p.Ý (i:=5500) (j:=4033) z (by rw[u];rfl))<|dQ z<|Ο z<|m' ?_
 obtain rfl:_=r:=hr;exact ur z z z ⟨_,_,z,X⟩
theorem Jm(d:(Ŀ (Ŀ Za)))(k:(Fin 8->Int))(D:ŀ Addr)(C:Nat)(r:(Ŀ (Ŀ Za)))(hr:(Ay d k).ω r):Cr 76 #[δ D d C,.agg (Ø k).toArray] (λG=>sq G D C d) (fT (Rp.sl c') r):=by
 refine Ν ?_;intro R A _ W O E J T hr _;refine WC.mD hr [3,5,11,12] [3] [5] [] (λ(⟨m,f,c⟩:(Ŀ (Ŀ Za))×ŀ Ow×Int)=>⟨(m,c),[(13,i' c)],λl=>Β (Rp.sl c') 50 l (.slice E (d.length:Int).toNat ((d.length:Int).toNat)) m f,[(4010,f)]⟩) (λ(⟨B,h⟩:(Ŀ (Ŀ Za))×ŀ Ow)=>⟨B,[],λq=>Β (Rp.sl c') 50 q (.slice E (d.length:Int).toNat ((d.length:Int).toNat)) B h,[(4010,h)]⟩) ⟨(List.replicate (d.length:Int).toNat []),J,0⟩ ?_ ?_
 .rintro _ l ⟨m,f,c⟩ g o hr;refine Ν ?_;intro _ _ _ _ _ _ _ _ _ _ y _ U j v t x _ hr F;exact zM (r:=(Rp.sl c')) (e:=50) (cs':=[δ v y.1 t]) (i:=c) (z':=y.1) 4010 z kV z (o.mono j) z z z z ⟨_,z,x⟩ F λQ M=>Η
 rintro q ⟨B,h⟩ hr Z I;refine Ν ?_;intro hr;obtain rfl:_=r:=hr;refine uB (r:=(Rp.sl c')) (e:=50) 4010 I z (by rw[W];rfl) λs p n u a=>j' z z ⟨_,_,(qT u),(rD u)⟩
instance {d:(Ŀ (Ŀ Za))}{k:(Fin 8->Int)}{r:(Ŀ (Ŀ Za))}:SpcM ((Ay d k)) r (∀{D:ŀ Addr}{C:Nat},Cr 76 #[δ D d C,.agg (Ø k).toArray] (λG=>sq G D C d) (fT (Rp.sl c') r)):=⟨λa {D C}=>Jm _ _ D C _ a⟩
instance fe'{c r}:SpcM ((Jj c)) r (∀{f h},Cr 54 #[δ f c h] (λG=>Δ (Rp.sl (Rp.sl c')) G (δ f c h) c) (fT (Rp.sl c') r)):=.mk λhr {f h}=>by
 refine Ν ?_;intro O I K hr _;have p:=tS (w0:=O);refine WC.mB hr [0,9,10] [] [0] [] (λ(⟨t,y⟩:Int×Int)=>⟨(t,y),[(3,i' t),(11,i' y)],tr,[]⟩) (λ(D:Int)=>⟨D,[(3,i' D)],tr,[]⟩) ⟨0,0⟩ ?_;intro P D hr C _;refine b'<|sr<|ν z<|oE hr λg a hr=>mW z z (x' Yx z) (eR'.h a) z trivial ln p (λZ M T F L=>?_)
 obtain⟨Y,W,R,rfl,rfl,V⟩:=L;refine mw (λw Q=>Q.Ý (i:=7000) (j:=4024) z (by rw[K];rfl))<|Ο z ?_
 refine æ ?_;intro hr;refine nJ (X:=(Ŀ (Ŀ Za))×ŀ Addr×Nat×ŀ Ow×Int×Mem) hr (λ⟨d,m,n,k,v,B⟩=>⟨(d,v),[(6,δ m d n),(25,δ f c h),(26,i' (c.length:Int)),(27,i' v)],Mem.le M B/\Β (Rp.sl c') 50 B (δ m d n) d k,St O I B [(4006,k)]⟩) (λ(⟨l,q,s,o,J⟩:(Ŀ (Ŀ Za))×ŀ Addr×Nat×ŀ Ow×Mem)=>⟨l,[(6,δ q l s)],Mem.le M J/\Β (Rp.sl c') 50 J (δ q l s) l o,St O I J [(4006,o)]⟩) ⟨g,Y,W,R,0,M⟩ z (Æ z) ⟨mr,V⟩ ?_ ?_ ?_
 .intro w Q;have Q:=Q.Ý (i:=4024) (j:=4006) z (by rw[K];rfl);exact Q.weaken (lc z ln)
 .rintro _ ⟨d,m,n,k,v,B⟩ ⟨x,u⟩ hr;exact Η
 rintro⟨l,q,s,o,J⟩ ⟨hr,S,E⟩;refine Ν ?_;intro hr;obtain rfl:_=r:=hr;refine uB (r:=(Rp.sl c')) (e:=50) 4006 E z (by rw[K];rfl) λay A N U H=>j' z z ⟨_,_,z,U⟩
instance hy'{m r}:SpcM ((PU m)) r (∀{e c},Cr 110 #[.agg ((ζ m e c)).toArray] (λG=>su G e c m.υ) (eB r)):=.mk λhr {e c}=>Η
instance fj'{q r}:SpcM ((w7 q)) r (Cr 58 #[i' q] (λG=>True) (eB r)):=.mk λhr=>Η
instance fl'{h r}:SpcM ((Ea h)) r (∀{g c d f},Cr 57 #[.agg ((Τ h g c d f)).toArray] (λG=>su G g c h.num.υ/\su G d f h.den.υ) (fT c' r)):=.mk λhr {g c d f}=>Η
instance ip'{h m r}:SpcM ((KJ h m)) r (∀{e d},Cr 55 #[δ e h d,i' m] (λG=>sl c' G e d h) (λG v=>v=.bool r)):=.mk λhr {e d}=>Η
theorem Jt(o:Int)(j:(Ŀ (Ŀ Za)))(c:(Ŀ (Ŀ Za)))(p:ŀ Addr)(q:Nat)(d:ŀ Addr)(f:Nat)(r:Zd×Int)(hr:(Ar o j c).ω r):Cr 23 #[i' o,δ p j q,δ d c f] (λG=>sq G p q j/\sq G d f c) (l9 r):=by
 refine æ ?_;intro w0 G0 _ X aw b1 hr av;refine WC.nB hr [0,1,2,6] [] (λ(⟨a,ac,aa,Q,P⟩:Zd×ŀ Addr×Nat×ŀ Addr×Nat)=>⟨[],PL o j c a,λaX=>sq aX ac aa a.eqs/\sq aX Q P a.neqs,[(6,ú b1 (Ä a ac aa Q P) 48)]⟩) ?_;rintro aX ⟨a,ac,aa,Q,P⟩ hr F ⟨bf,a1⟩;refine o'<|sr<|ν z<|ν z<|nb (e:=46) (r:=(Rp.sl (Rp.sl c'))) (vs:=#[(0,δ p j q),(1,δ d c f)]) (cs:=[δ p j q]++([δ d c f]++([]))) ([j,c]:Ŀ (Ŀ (Ŀ Za))) z z z z z ĳ (λ_=>İ) ⟨[δ p j q],[δ d c f]++([]),z,⟨_,z,(aw.mono F)⟩,⟨[δ d c f],[],z,⟨_,z,(av.mono F)⟩,z⟩⟩ (key:=999) z (by rw[X];rfl) (λp1 c1 H cv=>?_)
 refine oE hr λbG bV hr=>gW z z (x' Yi z) (fe'.h bV) z (cv) (λcR bl E ba=>?_);obtain⟨b6,bL,rfl,a2⟩:=ba;refine Ε (P' jT a2 z)<|ν z<|nx<|WC.mB (hH:=by exact⟨(bf.mono (mx H E)),(a1.mono (mx H E))⟩) hr [0,1,2,6,27,28] [] [0,1,2,6] [] (λ(⟨au,aF,M,I,C,A⟩:Int×Zd×ŀ Addr×Nat×ŀ Addr×Nat)=>⟨(au,aF),[(29,i' au)],λaE=>sq aE M I aF.eqs/\sq aE C A aF.neqs,[(6,ú b1 (Ä aF M I C A) 48)]⟩) (λ(⟨N,l,k,g,h⟩:Zd×ŀ Addr×Nat×ŀ Addr×Nat)=>⟨(.inr N),[],λar=>sq ar l k N.eqs/\sq ar g h N.neqs,[(6,ú b1 (Ä N l k g h) 48)]⟩) ⟨0,a,ac,aa,Q,P⟩ ?_
 rintro ar ⟨N,l,k,g,h⟩ hr U ⟨cd,cc⟩;refine Ν ?_;intro hr;refine WC.mD (hH:=by exact⟨(X' _ _),la⟩) hr [0,2,6,11,39,40] [6] [0,2,6,11] [6] (λ(⟨s,K,L,J,am⟩:(Ŀ (Ŀ Za))×ŀ Addr×Nat×ŀ Ow×Int)=>⟨(s,am),[(10,δ K s L),(41,i' am)],λaJ=>sq aJ K L s/\Tok 1 50 (δ K s L) s.length J,[(1010,J)]⟩) (λ(⟨O,S,R,ab⟩:(Ŀ (Ŀ Za))×ŀ Addr×Nat×ŀ Ow)=>⟨O,[(10,δ S O R)],λaB=>sq aB S R O/\Tok 1 50 (δ S O R) O.length ab,[(1010,ab)]⟩) ⟨[],none,0,none,0⟩ ?_ ?_
 .rintro _ aJ ⟨s,K,L,J,am⟩ ak ⟨aC,ap⟩ hr;refine Ν ?_;intro _ _ _ _ _ _ _ _ _ _ _ aR _ aU _ _ _ _ _ aY cg hr _;refine oA hr λbS hr=>jV (r:=(Rp.sl c')) 1010 z z jT jB z ĳ z z (aC.mono (mx aU aY)) z (by rw[X];rfl) ap cg bS λp9 cp bP bZ bq ci bX=>dQ z<|t'<|E'<|b'<|w'<|iP z<|ν z<|t'<|N' ⟨bZ,(s++[aR]),p9,cp,bP,i64.wrap (am+1)⟩ hr ⟨(mx (mx (mx ak aU) aY) bq),ci,bX⟩ (Æ z) (w2 z z)
 rintro aB ⟨O,S,R,ab⟩ hr aL ⟨br,bd⟩;refine Ν ?_;intro hr;refine WC.mD (hH:=by exact⟨br,bd,(X' _ _),la⟩) hr [0,6,54,55] [6] [0,6] [6] (λ(⟨n,B,D,t,m,y,x,u,Z⟩:(Ŀ (Ŀ Za))×ŀ Addr×Nat×ŀ Ow×(Ŀ (Ŀ Za))×ŀ Addr×Nat×ŀ Ow×Int)=>⟨(n,m,Z),[(10,δ B n D),(11,δ y m x),(56,i' Z)],λaz=>sq az B D n/\Tok 1 50 (δ B n D) n.length t/\sq az y x m/\Tok 1 50 (δ y m x) m.length u,[(1010,t),(1011,u)]⟩) (λ(⟨V,aj,ai,aq,i,ah,al,ao⟩:(Ŀ (Ŀ Za))×ŀ Addr×Nat×ŀ Ow×(Ŀ (Ŀ Za))×ŀ Addr×Nat×ŀ Ow)=>⟨(V,i),[(10,δ aj V ai),(11,δ ah i al)],λaT=>sq aT aj ai V/\Tok 1 50 (δ aj V ai) V.length aq/\sq aT ah al i/\Tok 1 50 (δ ah i al) i.length ao,[(1010,aq),(1011,ao)]⟩) ⟨O,S,R,ab,[],none,0,none,0⟩ ?_ ?_
 .rintro _ az ⟨n,B,D,t,m,y,x,u,Z⟩ Y ⟨af,W,ae,T⟩ hr;refine sr<|kD z<|nx<|o'<|I' hr z (λct hr=>?_) (λct hr=>?_)
  .refine æ ?_;intro _ _ _ _ _ _ _ _ hr _;refine I' hr z (λcz hr=>?_) (λcz hr=>?_)
   .refine Ν ?_;intro _ _ _ aN _ _ _ _ _ _ aW _ aO _ _ _ _ _ aK cy hr _;refine oA hr λbN hr=>jV (r:=(Rp.sl c')) 1010 z z jT jB z ĳ z z (af.mono (mx (mx aN aO) aK)) z (by rw[X];rfl) W cy bN λp4 cn cb co a8 cm bK=>dQ z<|t'<|E'<|E'<|b'<|w'<|iP z<|ν z<|t'<|N' ⟨co,(n++[aW]),p4,cn,cb,m,y,x,u,i64.wrap (Z+1)⟩ hr ⟨(mx (mx (mx (mx Y aN) aO) aK) a8),cm,bK,(ae.mono (mx (mx (mx aN aO) aK) a8)),T⟩ (Æ z) (w3 z z z)
   refine Ν ?_;intro _ _ _ aV _ ay _ _ _ _ _ aG cB hr _;refine oA hr λbY hr=>jV (r:=(Rp.sl c')) 1011 z z jT jB z ĳ z z (ae.mono (mx ay aG)) z (by rw[X];rfl) T cB bY λp6 ck bR b3 aS ch bM=>dQ z<|t'<|E'<|E'<|b'<|w'<|iP z<|ν z<|t'<|N' ⟨b3,n,B,D,t,(m++[aV]),p6,ck,bR,i64.wrap (Z+1)⟩ hr ⟨(mx (mx (mx Y ay) aG) aS),(af.mono (mx (mx ay aG) aS)),W,ch,bM⟩ (Æ z) (w3 z z z)
  exact Η
 rintro aT ⟨V,aj,ai,aq,i,ah,al,ao⟩ hr cF ⟨bm,ce,bs,cf⟩;refine b'<|sr<|ν z<|ν z<|oE hr λbE bW hr=>gW z z (x' Pc z) (PM _ _ _ _ bW) z (bm) (λcQ c0 bA bi=>?_)
 obtain⟨bp,bj,rfl,bu⟩:=bi;refine ν z<|oE hr λbF b5 hr=>gW z z (x' Pc z) (PM _ _ _ _ b5) z ((bs.mono bA)) (λcK cX a9 bg=>?_)
 obtain⟨bk,bt,rfl,bn⟩:=bg;refine Ε (me (vs:=#[(0,i' o),(1,δ bp bE bj),(2,δ bk bF bt)]) (v:=.agg ([i' o,δ bp bE bj,δ bk bF bt]).toArray) z z (λ_=>İ))<|W' 16 z rK z λb2=>gu 16 py z<|nx<|o'<|sr<|Ε (Y0.GH z)<|Ε (n' 16 js z z z)<|Ε (P' jT (bu.mono a9) z)<|eb hr z (vJ z z) z (λcD hr=>?_) (λcD hr=>?_)
 .exact Η
 exact Η
instance {o:Int}{j:(Ŀ (Ŀ Za))}{c:(Ŀ (Ŀ Za))}{r:Zd×Int}:SpcM ((Ar o j c)) r (∀{p:ŀ Addr}{q:Nat}{d:ŀ Addr}{f:Nat},Cr 23 #[i' o,δ p j q,δ d c f] (λG=>sq G p q j/\sq G d f c) (l9 r)):=⟨λa {p q d f}=>Jt _ _ _ p q d f _ a⟩
abbrev lY(f:Fin 8->Int):Array Value:=(õ (Value.int .i64) 8 f).toArray
theorem vI(f:Fin 8->Int){k:Nat}(h:k<8):(lY f)[k]?=some (.int .i64 (Ζ f (k:Int))):=tE (Value.int .i64) 8 f (i:=(k:Int)) ⟨ŉ,ŉ⟩
theorem ZvJ(b lo len cap:Nat)(f:Fin 8->Int)(h:lo+len<=8):Cl 136 #[.slice (some ⟨b,lo,none⟩) len cap] [(9003,some ⟨b,.cells (lY f) 71 (0,0),0⟩)] (λ_=>True)
  (λ_ L v=>v=.tuple #[]/\L=[(9003,some ⟨b,.cells (lY (pj f lo len (len / 2))) 71 (0,0),0⟩)]):=by
 refine eR.enter (args:=[_]) (N:=28) func136 rfl rfl rfl (λw0 G0 l _=>?_)
 have d:i64.wrap ((len:Int)-1)=(len:Int)-1-((0:Nat):Int):=by rw[ī];omega
 refine sr<|mv rfl rfl<|yy (Y0.mE underlying44 rfl) rfl<|yy (Y0.sub rfl rfl) rfl<|sg rfl rfl<|sg rfl rfl<|nx<|WC.block ?_
 refine WC.hJ (X:=Nat) (λk=>[(0,.slice (some ⟨b,lo,none⟩) len cap),(2,.int .i64 (k:Int)),(3,.int .i64 ((len:Int)-1-(k:Int)))])
  (λk=>k<=len / 2) (λk=>St w0 G0 G0 [(9003,some ⟨b,.cells (lY (pj f lo len k)) 71 (0,0),0⟩)]) (λk=>len-k) 0 (fc rfl (fc rfl (fc (by show some (Value.int .i64 (i64.wrap ((len:Int)-1)))=_;rw[d]) fn))) (Ĝ _) (λw c=>c) ?_
 intro k r
 refine WC.seq<|sr<|mv rfl rfl ?_
 refine æ ?_
 refine WC.Ê (p:=(k:Int)<(len:Int)-1-(k:Int)) rfl (λn=>?_) (λn=>?_)
 .have j:(len:Int)-1-(k:Int)=((len-1-k:Nat):Int):=ŉ
  have e:i64.wrap ((k:Int)+1)=((k+1:Nat):Int):=by rw[ī];omega
  have i:i64.wrap (((len-1-k:Nat):Int)-1)=(len:Int)-1-((k+1:Nat):Int):=by rw[ī];omega
  rw[j]
  generalize q:pj f lo len k=g
  refine WC.skip<|WE.then<|WC.seq<|WC.block ?_
  refine WC.drawn [false,false,true,true,false,false,false,false,false,false,false,false,false] eL İ (λm=>?_)
  refine cn (λ_ a=>Y0.move rfl)<|cn (λ_ a=>Y0.move rfl) ?_
  refine æ ?_
  refine cn (λ_ a=>Y0.iU underlying44 je rfl rfl (show len-1-k<len by omega))<|cn (λ_ a=>Y0.î 9003 eC rfl rfl (by rw[lv];exact vI g (show lo+(len-1-k)<8 by omega))) ?_
  refine æ ?_
  refine cn (λ_ a=>Y0.iU underlying44 je rfl rfl (show k<len by omega))<|cn (λ_ a=>Y0.î 9003 eC rfl rfl (by rw[lv];exact vI g (show lo+k<8 by omega))) ?_
  refine cn (λ_ a=>Y0.iU underlying44 je rfl rfl (show k<len by omega))<|γ.l6 m ?_
  refine WL.eW 9003 (lY (ε g (lo+k) (Ζ g ((lo+(len-1-k):Nat):Int)))) Zh je rfl rfl rfl (by rw[lv,Zz];omega) rfl (by rw[lv];exact vC _ _ _ _ _) ?_
  refine yy (Y0.iU underlying44 je rfl rfl (show len-1-k<len by omega)) rfl ?_
  refine WL.eW 9003 (lY (yz g (lo+k) (lo+(len-1-k)))) Zh je rfl rfl rfl (by rw[lv,Zz];omega) rfl (by rw[lv];exact vC _ _ _ _ _) ?_
  refine WL.nil<|WE.nx<|WE.inBlock<|WE.then<|WC.region<|mv rfl rfl<|yy (Y0.add rfl rfl) rfl<|mv rfl rfl<|yy (Y0.sub rfl rfl) rfl ?_
  rw[e,i]
  refine sg rfl rfl<|sg rfl rfl<|WL.nil<|WE.gJ (x:=k) (k+1) ŉ (fc rfl (fc rfl (fc rfl fn))) (λw c=>c.weaken ?_) (by show len-(k+1)<len-k;omega)
  show Lo.sub [(9003,some ⟨b,.cells (lY (yz (pj f lo len k) (lo+k) (lo+(len-1-k)))) 71 (0,0),0⟩)] _
  rw[q]
  exact lc rfl ln
 have:k=len / 2:=ŉ
 subst this
 exact WC.exit<|WE.ä<|WE.ä<|WE.Í<|WE.jb<|WE.iL rfl ⟨rfl,rfl⟩
theorem Zys(n:Int):Cr 75 #[.int .i64 n] (λ_=>True) (λG v=>∃b,v=.func (.func 135) #[] #[.pointer (some ⟨b,0,none⟩)]/\G b 0=some (.int .i64 n)):=by
 refine iC.enter (args:=[_]) (N:=4) func75 rfl rfl rfl (λw0 G0 a _=>?_);refine sr<|WL.ik 1 rfl Zh rfl rfl (λb=>?_)
 refine sg rfl rfl<|WL.nil<|WE.then ?_
 refine WC.gA 1 rfl (by rw[a];rfl) (λe d c _=>?_);refine sr<|yy (Y0.makeFunc rfl rfl) rfl<|sg rfl rfl<|nx<|WC.ret ?_
 exact WE.ja rfl rfl ⟨_,rfl,c 0 _ rfl⟩
theorem ZvX{n:Nat}(d:1<=n)(e:n<=4){j:Nat}{p:Fin 8->Int}(h:(Α n)[j]?=some p):(Α n)[j+1]?=oi n p:=by
 have key:∀n:Fin 4,∀j:Fin 24,(match(Α (n.val+1))[j.val]? with|some p=>decide ((Α (n.val+1))[j.val+1]?=oi (n.val+1) p)|none=>true)=true:=by decide +kernel
 have c:∀n:Fin 4,(Α (n.val+1)).length<=24:=by decide +kernel
 obtain⟨m,rfl⟩:∃m,n=m+1:=⟨n-1,ŉ⟩;have a:j<24:=aaq (ċ.1 h).1 (c ⟨m,ŉ⟩);have:=key ⟨m,ŉ⟩ ⟨j,a⟩;dsimp only at this;rw[h]at this;exact Ĥ this
def EM(n:Nat)(j:Nat)(u:Value)(_:Mem):Prop:=∃p,(Α n)[j]?=some p/\u=.agg (lY p)
theorem S4{p:Fin 8->Int}:∀{k i:Nat},kN p k=some i->i<k/\Ζ p (i:Int)<=Ζ p ((i+1:Nat):Int)
 |0,_,h=>by cases h
 |k+1,i,h=>by
  unfold kN at h;split at h
  .obtain⟨a,h2⟩:=S4 h;exact⟨ŉ,h2⟩
  cases h;exact⟨Ũ _,ŉ⟩
theorem Zw2(b n:Nat)(h1:1<=n)(h4:n<=4):rN prog 135 #[.pointer (some ⟨b,0,none⟩)] (Α n).length (EM n) (λG=>G b 0=some (.int .i64 (n:Int))):=by
 intro σ O I y pre C E hY s0 ab L;refine eR.enter (args:=[_,_]) (N:=61) func135 rfl rfl rfl (λw0 G0 ac hp=>?_);obtain⟨hb,Z⟩:=hp;have aa:w0.L.zero:=by rw[ac];exact L
 have ai:∀(s:σ) (x:ŀ Ow),Lo.sub (y s) ((9003,x)::y s):=λs x i z h=>by rw[Lo.Zp,ā (λe=>by rw[<-e,C s 9003 ŉ]at h;cases h)];exact h
 have J:∀(s:σ) (x:ŀ Ow) (R:Lo),Lo.sub ((9003,x)::y s) ((9003,x)::((9003,R.get 9003)::y s)):=λs x R i z L=>by
  rw[Lo.Zp]at L⊢;split at L
  .rename_i e;rw[ą e];exact L
  rename_i e;rw[ā e,Lo.Zp,ā e];exact L
 refine sr<|WL.alloc 9003 Zh va rfl (λt=>?_)
 refine nx ?_;refine æ ?_;refine WC.block ?_;refine WC.hJ (X:=Nat) (λk=>[(0,.func (.yield O) #[] #[]),(1,.pointer (some ⟨b,0,none⟩)),(3,.pointer (some ⟨t,0,none⟩)),(7,.int .i64 (k:Int))])
  (λk=>k<=8) (λk=>St w0 G0 G0 ((9003,some ⟨t,.cells (lY (λi=>if i.val<k then(i.val:Int)else 0)) 71 (0,0),0⟩)::y s0)) (λk=>8-k) 0 (fc rfl (fc rfl (fc rfl (fc rfl fn)))) ŉ (λw d=>d) ?_
 .intro k hk;refine Ν ?_;refine WC.Ê (p:=(k:Int)<8) rfl (λu=>?_) (λu=>?_)
  .have hw:i64.wrap ((k:Int)+1)=((k+1:Nat):Int):=by rw[ī];omega
   have ak:ε (λi:Fin 8=>if i.val<k then(i.val:Int)else 0) k (k:Int)=λi=>if i.val<k+1 then(i.val:Int)else 0:=by
    funext i;show(if i.val=k then(k:Int)else if i.val<k then(i.val:Int)else 0)=if i.val<k+1 then(i.val:Int)else 0;by_cases e:i.val=k
    .rw[ą e,ą ŉ,e]
    rw[ā e];by_cases e2:i.val<k
    .rw[ą e2,ą ŉ]
    rw[ā e2,ā ŉ]
   refine WC.skip<|WE.then<|WC.seq<|WC.block<|sr<|mv rfl rfl<|sg rfl rfl<|nx<|WC.region<|mv rfl rfl<|mv rfl rfl<|yy (Y0.jD underlying71 je rfl rfl ⟨ŉ,ŉ⟩) rfl ?_
   refine WL.eW 9003 (lY (λi=>if i.val<k+1 then(i.val:Int)else 0)) Zh je rfl rfl rfl (by rw[Zz];omega) rfl (by rw[<-ak];exact vC _ _ _ _ _) ?_;refine WL.nil<|WE.inBlock<|WE.then<|WC.region<|yy (Y0.add rfl rfl) rfl ?_
   rw[hw];exact mv rfl rfl<|WL.nil<|WE.gJ (x:=k) (k+1) ŉ (fc rfl (fc rfl (fc rfl (fc rfl fn)))) (λw d=>d.weaken (J s0 _ [(9003,_)])) (by show 8-(k+1)<8-k;omega)
  have:k=8:=ŉ;subst this;refine WC.exit<|WE.ä<|WE.ä<|WE.Í<|WE.then<|WC.block ?_
  have ae:(λi:Fin 8=>if i.val<8 then(i.val:Int)else 0)=λi=>(i.val:Int):=by funext i;rw[ą i.isLt]
  rw[ae];have aj:(Α n)[0]?=some λi=>(i.val:Int):=rfl;refine WC.hJ (X:=Nat×(Fin 8->Int)×σ×Mem) (λK=>[(0,.func (.yield O) #[] #[]),(1,.pointer (some ⟨b,0,none⟩)),(3,.pointer (some ⟨t,0,none⟩))])
   (λK=>match K with|⟨j,p,s,G⟩=>(Α n)[j]?=some p/\I j s/\Mem.le G0 G/\pre s G) (λK=>match K with|⟨j,p,s,G⟩=>St w0 G0 G ((9003,some ⟨t,.cells (lY p) 71 (0,0),0⟩)::y s)) (λK=>(Α n).length-K.1) ⟨0,_,s0,G0⟩ (fc rfl (fc rfl (fc rfl fn))) ⟨aj,ab,Mem.le_refl _,Z⟩ (λw d=>d) ?_
  rintro⟨j,p,s,G⟩ ⟨A,hI,a,hp⟩;dsimp only at A hI a hp⊢;have ag:j<(Α n).length:=(ċ.1 A).1;have S:=ZvX h1 h4 A;refine WC.seq<|WC.seq<|WC.qq<|ma.y0 Zh (Y0.move rfl) (λc h=>by cases h) rfl<|ma.y0 Zh (Y0.eK 9003 lK rfl rfl (Zz _ _ _)) (λc h=>by cases h) rfl ?_
  refine ma.vS (R:=[(9003,_)]) Zh rfl rfl rfl (hY j _ s ag hI) ⟨hp,p,A,rfl⟩ aa (λi hi=>by simp only[ġ,Ŕ,đ]at hi;subst hi;exact C s _ ŉ) (λbb P L1 W l=>?_);obtain⟨rfl,s',Q,rfl,Y⟩:=l;have g:=Mem.le_trans a W;refine ma.nil<|WE.then<|WC.pW rfl<|WC.skip<|WE.then<|WC.block ?_
  have al:i64.wrap ((n:Int)-2)=((n-1:Nat):Int)-1:=by rw[ī];omega
  have am:i64.wrap ((n:Int)-1)=((n-1:Nat):Int):=by rw[ī];omega
  refine sr<|yy (Y0.ia eC rfl (g _ _ _ hb)) rfl<|yy (Y0.sub rfl rfl) rfl ?_
  rw[al];refine sg rfl rfl<|nx<|WC.u2 (X:=Nat) (λk=>[(0,.func (.yield O) #[] #[]),(1,.pointer (some ⟨b,0,none⟩)),(3,.pointer (some ⟨t,0,none⟩)),(5,.int .i64 ((k:Int)-1))])
   (λk=>k<=n-1/\((k=0/\kN p (n-1)=none)\/∃i,k=i+1/\kN p (n-1)=some i)) (λ_=>St w0 G0 P ((9003,some ⟨t,.cells (lY p) 71 (0,0),0⟩)::y s')) ?_ ?_
  .refine WC.block<|WC.hJ (X:=Nat) (λk=>[(0,.func (.yield O) #[] #[]),(1,.pointer (some ⟨b,0,none⟩)),(3,.pointer (some ⟨t,0,none⟩)),(5,.int .i64 ((k:Int)-1))])
    (λk=>k<=n-1/\kN p k=kN p (n-1)) (λ_=>St w0 G0 P ((9003,some ⟨t,.cells (lY p) 71 (0,0),0⟩)::y s')) (λk=>k) (n-1) (fc rfl (fc rfl (fc rfl (fc rfl fn)))) ⟨Ċ _,rfl⟩ (λw d=>d) ?_
   rintro k ⟨hk,f⟩;refine WC.seq<|WC.seq ?_
   by_cases ah:k=0
   .subst ah;refine æ ?_;intro _;exact WE.jH 0 ⟨hk,.inl ⟨rfl,f.symm⟩⟩ (fc rfl (fc rfl (fc rfl (fc rfl fn)))) (λw d=>d)
   obtain⟨i,rfl⟩:∃i,k=i+1:=⟨k-1,ŉ⟩;have e1:((i+1:Nat):Int)-1=(i:Int):=ŉ;have e2:i64.wrap ((i:Int)+1)=((i+1:Nat):Int):=by rw[ī];omega
   have e3:i64.wrap ((i:Int)-1)=(i:Int)-1:=by rw[ī];omega
   rw[e1];refine WC.drawn [false,false,false,false,false,false,false,false,false,false,false] eL İ (λhb=>?_);refine cn (λ_ a=>Y0.move rfl)<|cn (λ_ a=>Y0.eq (Y0.geq rfl rfl) (Ē Value.bool (ă ŉ))) ?_
   refine æ ?_;refine cy rfl rfl (λ_ a=>Y0.jD underlying71 je rfl rfl ⟨ŉ,ŉ⟩)<|cy rfl rfl (λ_ a=>Y0.î 9003 eC rfl rfl (vI p (show i<8 by omega))) ?_
   refine cy rfl rfl (λ_ a=>Y0.move rfl)<|cy rfl rfl (λ_ a=>Y0.eq (Y0.add rfl rfl) (Ē (Value.int .i64) e2))<|cy rfl rfl (λ_ a=>Y0.jD underlying71 je rfl rfl ⟨ŉ,ŉ⟩)<|cy rfl rfl (λ_ a=>Y0.î 9003 eC rfl rfl (vI p (show i+1<8 by omega))) ?_
   refine æ ?_;refine WC.Ê (p:=Ζ p ((i+1:Nat):Int)<Ζ p (i:Int)) rfl (λu=>?_) (λu=>?_)
   .have D:kN p (i+1)=kN p i:=by show(if _ then _ else _)=_;rw[ą u]
    refine WC.skip<|WE.then<|WC.block<|WC.region<|mv rfl rfl<|yy (Y0.sub rfl rfl) rfl ?_
    rw[e3];exact sg rfl rfl<|WL.nil<|WE.inBlock<|WE.gJ (x:=i+1) i ⟨ŉ,by rw[<-D];exact f⟩ (fc rfl (fc rfl (fc rfl (fc rfl fn)))) (λw d=>d) (Ũ i)
   have D:kN p (i+1)=some i:=by show(if _ then _ else _)=_;rw[ā u]
   exact WC.exit<|WE.ä<|WE.ä<|WE.Í<|WE.jH (i+1) ⟨hk,.inr ⟨i,rfl,by rw[<-f];exact D⟩⟩ (fc rfl (fc rfl (fc rfl (fc (by rw[e1];rfl) fn)))) (λw d=>d)
  rintro k ⟨hk,V⟩;refine Ν ?_;refine WC.Ê (p:=(k:Int)-1<0) rfl (λu=>?_) (λu=>?_)
  .have H:kN p (n-1)=none:=by
    rcases V with ⟨_,h⟩|⟨i,hi,_⟩
    .exact h
    omega
   have T:(Α n)[j+1]?=none:=by rw[S];unfold oi;rw[H]
   have U:(Α n).length=j+1:=by have:=aaj.1 T;omega
   refine WC.ret<|WE.gC<|WE.gw<|WE.gC<|WE.gw ?_
   exact WE.ö (S':=St w0 G0 P (y s')) (λw d=>d.weaken (ai s' _)) (WE.iL rfl ⟨rfl,s',by rw[U];exact Q,rfl,Y⟩)
  obtain⟨i,rfl,f⟩:∃i,k=i+1/\kN p (n-1)=some i:=by
   rcases V with ⟨h,_⟩|h
   .omega
   exact h
  have e1:((i+1:Nat):Int)-1=(i:Int):=ŉ;obtain⟨ap,an⟩:=S4 f;rw[e1];refine WC.skip<|WE.then<|sr<|yy (Y0.ia eC rfl (g _ _ _ hb)) rfl<|yy (Y0.sub rfl rfl) rfl ?_
  rw[am];refine sg rfl rfl<|nx<|WC.u2 (X:=Nat) (λm=>[(0,.func (.yield O) #[] #[]),(1,.pointer (some ⟨b,0,none⟩)),(3,.pointer (some ⟨t,0,none⟩)),(5,.int .i64 (i:Int)),(6,.int .i64 (m:Int))])
   (λm=>m<=n-1/\we p (Ζ p (i:Int)) (n-1)=m) (λ_=>St w0 G0 P ((9003,some ⟨t,.cells (lY p) 71 (0,0),0⟩)::y s')) ?_ ?_
  .refine WC.block<|WC.hJ (X:=Nat) (λm=>[(0,.func (.yield O) #[] #[]),(1,.pointer (some ⟨b,0,none⟩)),(3,.pointer (some ⟨t,0,none⟩)),(5,.int .i64 (i:Int)),(6,.int .i64 (m:Int))])
    (λm=>i+1<=m/\m<=n-1/\we p (Ζ p (i:Int)) (n-1)=we p (Ζ p (i:Int)) m) (λ_=>St w0 G0 P ((9003,some ⟨t,.cells (lY p) 71 (0,0),0⟩)::y s')) (λm=>m) (n-1) (fc rfl (fc rfl (fc rfl (fc rfl (fc rfl fn))))) ⟨ŉ,Ċ _,rfl⟩ (λw d=>d) ?_
   rintro m ⟨ao,hm,r⟩;obtain⟨m,rfl⟩:∃q,m=q+1:=⟨m-1,ŉ⟩;have e3:i64.wrap (((m+1:Nat):Int)-1)=(m:Int):=by rw[ī];omega
   refine WC.seq ?_;refine æ ?_;intro _;refine cn (λ_ a=>Y0.jD underlying71 je rfl rfl ⟨ŉ,ŉ⟩)<|cn (λ_ a=>Y0.î 9003 eC rfl rfl (vI p (show m+1<8 by omega))) ?_
   refine æ ?_;refine cn (λ_ a=>Y0.jD underlying71 je rfl rfl ⟨ŉ,ŉ⟩)<|cn (λ_ a=>Y0.î 9003 eC rfl rfl (vI p (show i<8 by omega))) ?_
   refine æ ?_;refine WC.Ê (p:=Ζ p ((m+1:Nat):Int)<Ζ p (i:Int)) rfl (λu=>?_) (λu=>?_)
   .have D:we p (Ζ p (i:Int)) (m+1)=we p (Ζ p (i:Int)) m:=by show(if _ then _ else _)=_;rw[ą u]
    have aq:i+1≠m+1:=λe=>by rw[<-e]at u;omega
    refine WC.skip<|WE.then<|WC.block<|WC.region<|mv rfl rfl<|yy (Y0.sub rfl rfl) rfl ?_
    rw[e3];exact sg rfl rfl<|WL.nil<|WE.inBlock<|WE.gJ (x:=m+1) m ⟨ŉ,ŉ,by rw[r,D]⟩ (fc rfl (fc rfl (fc rfl (fc rfl (fc rfl fn))))) (λw d=>d) (Ũ m)
   have D:we p (Ζ p (i:Int)) (m+1)=m+1:=by show(if _ then _ else _)=_;rw[ā u]
   exact WC.exit<|WE.ä<|WE.ä<|WE.Í<|WE.jH (m+1) ⟨hm,by rw[r,D]⟩ (fc rfl (fc rfl (fc rfl (fc rfl (fc rfl fn))))) (λw d=>d)
  rintro m ⟨hm,r⟩;have e4:i64.wrap ((i:Int)+1)=((i+1:Nat):Int):=by rw[ī];omega
  have F:(Α n)[j+1]?=some (pj (yz p i m) (i+1) (n-(i+1)) ((n-(i+1)) / 2)):=by rw[S];unfold oi;rw[f];dsimp only;rw[r]
  refine WC.seq<|WC.drawn [false,true,false,false,false,false,false,false,false] eL İ (λad=>?_)
  refine æ ?_;refine cn (λ_ a=>Y0.jD underlying71 je rfl rfl ⟨ŉ,ŉ⟩)<|cn (λ_ a=>Y0.î 9003 eC rfl rfl (vI p (show m<8 by omega))) ?_
  refine æ ?_;refine cn (λ_ a=>Y0.jD underlying71 je rfl rfl ⟨ŉ,ŉ⟩)<|cn (λ_ a=>Y0.î 9003 eC rfl rfl (vI p (show i<8 by omega)))<|cn (λ_ a=>Y0.jD underlying71 je rfl rfl ⟨ŉ,ŉ⟩)<|γ.l6 ad ?_
  refine WL.eW 9003 (lY (ε p i (Ζ p (m:Int)))) Zh je rfl rfl rfl (by rw[Zz];omega) rfl (vC _ _ _ _ _) ?_;refine yy (Y0.jD underlying71 je rfl rfl ⟨ŉ,ŉ⟩) rfl ?_;refine WL.eW 9003 (lY (yz p i m)) Zh je rfl rfl rfl (by rw[Zz];omega) rfl (vC _ _ _ _ _) ?_;refine WL.nil<|WE.nx<|WE.then<|WC.region<|mv rfl rfl<|yy (Y0.eq (Y0.add rfl rfl) (Ē (Value.int .i64) e4)) rfl<|yy (Y0.ia eC rfl (g _ _ _ hb)) rfl<|yy (Y0.Dw underlying71 je rfl rfl rfl (show i+1<8 by omega) (show i+1<=n by omega) (show n<=8 by omega)) rfl ?_
  refine WL.kd Zh rfl (YC.of Ik rfl) (ZvJ t (i+1) (n-(i+1)) (8-(i+1)) (yz p i m) ŉ) rfl trivial (lc rfl ln) aa (λv G2 L2 B l=>?_);obtain⟨rfl,rfl⟩:=l;refine WL.nil<|WE.inBlock<|WE.gJ (x:=(j,p,s,G)) (j+1,_,s',G2) ⟨F,Q,Mem.le_trans g B,E _ _ _ B Y⟩ (fc rfl (fc rfl (fc rfl fn))) (λw d=>d.weaken (λq z hq=>?_)) (by show(Α n).length-(j+1)<(Α n).length-j;omega)
  simp only[Lo.gn,ġ,Ŕ,Ļ,ķ,Lo.Zp]at hq⊢;split at hq
  .rename_i e;rw[ą e];exact hq
  rename_i e;simp only[ā e];exact hq
abbrev si(c:Zd)(q:ŀ Addr×Nat×ŀ Addr×Nat):Ŀ Value:=[.int .i64 c.n,.slice q.1 c.eqs.length q.2.1,.slice q.2.2.1 c.neqs.length q.2.2.2]
abbrev wM:=Zd×(ŀ Addr×Nat×ŀ Addr×Nat)×(Fin 8->Int)×Ĳ
theorem PY(S:Zd)(O:ŀ Addr)(L:Nat)(D:ŀ Addr)(C:Nat)(r:Zd×(Fin 8->Int))(hr:(EF S).ω r):Cr 31 #[.agg ([.int .i64 S.n,.slice O S.eqs.length L,.slice D S.neqs.length C]).toArray] (λG=>Δ RP G (.slice O S.eqs.length L) S.eqs/\Δ RP G (.slice D S.neqs.length C) S.neqs)
  (λG v=>∃W V R Q,v=.tuple #[.agg ([.int .i64 r.1.n,.slice W r.1.eqs.length V,.slice R r.1.neqs.length Q]).toArray,.agg (õ (Value.int .i64) 8 r.2).toArray]/\Δ RP G (.slice W r.1.eqs.length V) r.1.eqs/\Δ RP G (.slice R r.1.neqs.length Q) r.1.neqs):=by
 obtain⟨⟨bh,bi⟩,aK,aA,hr⟩:=hr
 replace hr:_=r:=hr
 subst hr
 obtain⟨n,hn⟩:∃n:Nat,S.n=n:=⟨S.n.toNat,ŉ⟩
 rw[hn,Ĕ]at aA
 refine eR.sw (args:=[_]) (N:=45) func31 rfl rfl rfl (λw0 G0 aV aM=>?_)
 obtain⟨ax,ak⟩:=aM
 refine sr<|WL.box 1 Zh rfl rfl (λb1=>?_)
 refine WL.alloc 2 Zh rK rfl (λb2=>WL.alloc 3 Zh va rfl (λb3=>nr<|WL.alloc 4 Zh rK rfl (λb4=>nr<|WL.alloc 5 Zh va rfl (λb5=>nr<|WL.alloc 6 Zh z9 rfl (λb6=>?_)))))
 refine WL.eW 6 #[.string ByteArray.empty] Zh yC rfl rfl rfl aaU rfl rfl ?_
 refine nx<|WC.seq<|sr<|yy (Y0.GG rfl) rfl<|yy (Y0.î 1 eC rfl rfl rfl) rfl ?_
 refine WL.call Zh rfl (YC.of Yq rfl) (Zys S.n) rfl trivial (λv G1 aB X=>?_)
 obtain⟨bn,rfl,aL⟩:=X
 rw[hn]at aL
 refine nx ?_
 refine WC.oo (t:=14) (f:=135) rfl Ij (λac d lp rec ha a9 aY ba aZ has aX=>?_)
 let Lc:wM->Lo:=λs=>[(8001,some ⟨lp,.loop rec,0⟩),(8002,some ⟨d,.deferred (some []),0⟩),(1,some ⟨b1,.cells ([.int .i64 S.n,.slice O S.eqs.length L,.slice D S.neqs.length C]:Ŀ Value).toArray 48 (0,0),0⟩),(2,some ⟨b2,.cells (si ⟨0,[],[]⟩ (none,0,none,0)).toArray 48 (0,0),0⟩),(3,some ⟨b3,.cells (lY λ_=>0) 71 (0,0),0⟩),
  (4,some ⟨b4,.cells (si s.1 s.2.1).toArray 48 (0,0),0⟩),(5,some ⟨b5,.cells (lY s.2.2.1) 71 (0,0),0⟩),(6,some ⟨b6,.cells #[.string s.2.2.2] 9 (0,0),0⟩)]
 refine⟨_,Lc (⟨0,[],[]⟩,(none,0,none,0),λ_=>0,ByteArray.empty),_,lc rfl (lc rfl (lc rfl (lc rfl (lc rfl (lc rfl (lc rfl (lc rfl ln))))))),λi _=>by rw[aV];rfl,
  Zw2 bn n ŉ ŉ lp (λj s=>(nj S ((Α n).drop j) (s.1,s.2.2)).ω aK) Lc (λs G=>Δ RP G (.slice O S.eqs.length L) S.eqs/\Δ RP G (.slice D S.neqs.length C) S.neqs/\Δ RP G (.slice s.2.1.1 s.1.eqs.length s.2.1.2.1) s.1.eqs/\Δ RP G (.slice s.2.1.2.2.1 s.1.neqs.length s.2.1.2.2.2) s.1.neqs)
   (λs i hi=>?_) (λG G' s m ⟨q1,q2,q3,q4⟩=>⟨q1.mono m,q2.mono m,q3.mono m,q4.mono m⟩) (λj u s hj hI=>?_) _ (by rw[abd];exact aA) ?_,⟨aL,ax.mono aB,ak.mono aB,Δ.nil _ _,Δ.nil _ _⟩,λG' L' v m X=>?_⟩
 .simp only[Lc]
  rw[Lo.Zp,ā ŉ,Lo.Zp,ā ŉ,Lo.Zp,ā ŉ,Lo.Zp,ā ŉ,Lo.Zp,ā ŉ,Lo.Zp,ā ŉ,Lo.Zp,ā ŉ,Lo.Zp,ā ŉ];rfl
 .refine qI.Ux (N:=45) rfl a9 aY aZ (by rw[ba];exact ha.round ĳ) (λbl G bg hG=>?_)
  obtain⟨⟨ai,aj,aF,aG⟩,p,hp,rfl⟩:=hG
  obtain⟨c,q,f,key⟩:=s
  dsimp only at hI aF aG⊢
  rw[į hj,show(Α n)[j]=p by rw[Ą hj]at hp;exact Ŧ hp]at hI
  obtain⟨ay,⟨ag,aQ,ah,aR,a,aS,hr⟩,aw⟩:=hI
  refine GK has ?_
  refine gp.region Rf rfl (WL.alloc 7 Zh va rfl (λb7=>?_))
  refine WL.fg 7 Zh ow rfl rfl rfl (Zz _ _ _) (Zz _ _ _) (λu Z=>y8 _ _ _ (λ_=>rfl) u (by simpa using Z))<|WL.nil (λa1 v1 aW aP=>⟨_,_,_,aW,aP,rfl,?_⟩)
  refine GK aX ?_
  refine gp.block<|gp.seq ?_
  refine gp.drawn (AO (xv xw)) rfl [false,false,false,false,false,false,false,false,false,false,false,false,false,true,false] eL İ (λhb=>?_)
  refine cn (λ_ m=>Y0.GG rfl)<|cn (λ_ m=>Y0.î 1 eC rfl rfl rfl)<|cn (λ_ m=>Y0.GH rfl)<|cn (λ_ m=>Y0.î 1 js rfl rfl rfl)<|cn (λ_ m=>Y0.eK 7 lK rfl rfl (Zz _ _ _)) ?_
  refine γ.oa (post:=λG v=>∃I H,v=.slice I ag.length H/\Δ (Rp.sl Zj) G (.slice I ag.length H) ag) (λ_=>Zh) (λ_ _=>YC.of Pf rfl) (Jm _ _ _ _ _ aQ) rfl (λG' m=>(ai.mono m)) (λv G1 G2 m h=>?_) ?_
  .obtain⟨I,H,rfl,ad⟩:=h
   exact⟨_,_,rfl,ad.mono m⟩
  refine cu (λ_ _ m=>Y0.GI rfl)<|cu (λ_ _ m=>Y0.î 1 js rfl rfl rfl)<|cu (λ_ _ m=>Y0.eK 7 lK rfl rfl (Zz _ _ _)) ?_
  refine γ.oa (post:=λG v=>∃K J,v=.slice K ah.length J/\Δ (Rp.sl Zj) G (.slice K ah.length J) ah) (λ_=>Zh) (λ_ _=>YC.of Pf rfl) (Jm _ _ _ _ _ aR) rfl (λG' m=>(aj.mono m)) (λv G1 G2 m h=>?_) ?_
  .obtain⟨K,J,rfl,ae⟩:=h
   exact⟨_,_,rfl,ae.mono m⟩
  refine γ.r9 (f:=23) (φ:=λG v=>∃l k g e,v=.tuple #[.agg ([.int .i64 a.1.n,.slice l a.1.eqs.length k,.slice g a.1.neqs.length e]).toArray,.int .i64 a.2]/\Δ (Rp.sl Zj) G (.slice l a.1.eqs.length k) a.1.eqs/\Δ (Rp.sl Zj) G (.slice g a.1.neqs.length e) a.1.neqs) (λ_=>Zh) (λv G1 G2 m h=>?_) (λu G' m Z=>?_) ?_
  .obtain⟨l,k,g,e,rfl,A,y⟩:=h
   exact⟨_,_,_,_,rfl,A.mono m,y.mono m⟩
  .obtain⟨⟨K,J,aI,ae⟩,⟨I,H,aH,ad⟩,_⟩:=(show(λG v=>∃K J,v=.slice K ah.length J/\Δ (Rp.sl Zj) G (.slice K ah.length J) ah) G'.m (u 25)/\(λG v=>∃I H,v=.slice I ag.length H/\Δ (Rp.sl Zj) G (.slice I ag.length H) ag) G'.m (u 21)/\True from Z)
   exact⟨_,_,_,λ_=>YC.of O7 rfl,Jt _ _ _ _ _ _ _ _ aS,(by simp only[aI,aH]<;>rfl),⟨ad,ae⟩⟩
  refine γ.tv (φ:=λG v=>∃p1 E p2 F,v=.tuple #[.agg ([.int .i64 a.1.n,.slice p1 a.1.eqs.length E,.slice p2 a.1.neqs.length F]).toArray,.int .i64 a.2]/\Δ (Rp.sl Zj) G (.slice p1 a.1.eqs.length E) a.1.eqs/\Δ (Rp.sl Zj) G (.slice p2 a.1.neqs.length F) a.1.neqs) (λ_=>Zh) (λv G1 G2 m h=>?_) (λu G' m Z=>?_) ?_
  .obtain⟨p1,E,p2,F,rfl,al,am⟩:=h
   exact⟨_,_,_,_,rfl,al.mono m,am.mono m⟩
  .obtain⟨⟨l,k,g,e,aJ,A,y⟩,_,_,_⟩:=(show(λG v=>∃l k g e,v=.tuple #[.agg ([.int .i64 a.1.n,.slice l a.1.eqs.length k,.slice g a.1.neqs.length e]).toArray,.int .i64 a.2]/\Δ (Rp.sl Zj) G (.slice l a.1.eqs.length k) a.1.eqs/\Δ (Rp.sl Zj) G (.slice g a.1.neqs.length e) a.1.neqs) G'.m (u 26)/\True/\True/\True from Z)
   simp only[ς,aJ]
   exact⟨_,Y0.move rfl,l,k,g,e,rfl,A,y⟩
  refine γ.tv (φ:=λG v=>∃p3 T p4 U,v=.agg ([.int .i64 a.1.n,.slice p3 a.1.eqs.length T,.slice p4 a.1.neqs.length U]).toArray/\Δ (Rp.sl Zj) G (.slice p3 a.1.eqs.length T) a.1.eqs/\Δ (Rp.sl Zj) G (.slice p4 a.1.neqs.length U) a.1.neqs) (λ_=>Zh) (λv G1 G2 m h=>?_) (λu G' m Z=>?_) ?_
  .obtain⟨p3,T,p4,U,rfl,an,ao⟩:=h
   exact⟨_,_,_,_,rfl,an.mono m,ao.mono m⟩
  .obtain⟨⟨p1,E,p2,F,aa,al,am⟩,_,_,_,_⟩:=(show(λG v=>∃p1 E p2 F,v=.tuple #[.agg ([.int .i64 a.1.n,.slice p1 a.1.eqs.length E,.slice p2 a.1.neqs.length F]).toArray,.int .i64 a.2]/\Δ (Rp.sl Zj) G (.slice p1 a.1.eqs.length E) a.1.eqs/\Δ (Rp.sl Zj) G (.slice p2 a.1.neqs.length F) a.1.neqs) G'.m (u 15)/\True/\True/\True/\True from Z)
   simp only[ς,aa]
   exact⟨_,Y0.extract rfl rfl,p1,E,p2,F,rfl,al,am⟩
  refine γ.nt (c:=.int .i64 a.2) (λ_=>Zh) (λu G' m Z=>?_) ?_
  .obtain⟨_,⟨p1,E,p2,F,aa,al,am⟩,_,_,_,_⟩:=(show True/\(λG v=>∃p1 E p2 F,v=.tuple #[.agg ([.int .i64 a.1.n,.slice p1 a.1.eqs.length E,.slice p2 a.1.neqs.length F]).toArray,.int .i64 a.2]/\Δ (Rp.sl Zj) G (.slice p1 a.1.eqs.length E) a.1.eqs/\Δ (Rp.sl Zj) G (.slice p2 a.1.neqs.length F) a.1.neqs) G'.m (u 15)/\True/\True/\True/\True from Z)
   simp only[ς,aa]
   exact Y0.extract rfl rfl
  refine γ.alloc (λ_=>Zh) rK ?_
  refine γ.nG (λbm bf be bd bc bb X1 B az av au ar aq ap=>?_)
  obtain⟨b8,rfl,aU⟩:=az
  obtain⟨p3,T,p4,U,rfl,an,ao⟩:=av
  obtain⟨p1,E,p2,F,rfl,al,am⟩:=au
  obtain⟨l,k,g,e,rfl,A,y⟩:=ar
  obtain⟨K,J,rfl,ae⟩:=aq
  obtain⟨I,H,rfl,ad⟩:=ap
  refine WL.mQ aU (WL.DR (show WL _ _ _ _ _ _ (St _ _ X1.m _)from ?_))
  refine WL.fg 8 Zh py rfl rfl rfl rfl rfl (Ć.1 rfl) ?_
  refine sg rfl rfl<|WL.nil ?_
  refine WE.nx ?_
  refine gp.then<|gp.seq<|gp.seq<|gp.region (AO (AO (xv xw))) rfl<|mv rfl rfl<|yy (Y0.neq rfl rfl) rfl<|WL.nil<|gp.then ?_
  refine gp.Ê (p:=¬a.2=0) rfl (λaD=>?_) (λaD=>?_)
  .replace hr:=hr.pos aD
   replace hr:_=ay:=hr
   subst hr
   refine gp.exit<|WE.ä<|WE.Í ?_
   exact λa2 w2 _ Y=>⟨_,_,Lc (c,q,f,key),Y,rfl,lc rfl (lc rfl (lc rfl (lc rfl (lc rfl (lc rfl (lc rfl (lc rfl ln))))))),rfl,(c,q,f,key),aw,rfl,ai.mono B,aj.mono B,aF.mono B,aG.mono B⟩
  replace hr:=hr.neg aD
  obtain⟨ab,aT,hr⟩:=hr
  refine gp.skip<|gp.then<|gp.seq<|gp.region (AO (xv xw)) rfl<|yy (Y0.eK 8 lJ rfl rfl rfl) rfl ?_
  refine WL.gg Zh rfl (YC.of yI rfl) (yJ _ _ _ _ _ _ aT) rfl (⟨an,ao⟩) ?_
  refine sg rfl rfl<|WL.nil<|gp.then<|gp.seq<|gp.region (AO (xv xw)) rfl<|yy (Y0.î 6 Du rfl rfl rfl) rfl ?_
  refine WL.kO (p:=key=ByteArray.empty) Zh (Y0.uD underlying9 rfl rfl) rfl (λaC=>?_) (λaC=>?_)
  .replace hr:=hr.pos aC
   replace hr:_=ay:=hr
   subst hr
   refine mv rfl rfl<|sf rfl rfl rfl<|sf rfl rfl rfl<|sf rfl rfl rfl<|yy (Y0.om rfl rfl) rfl<|WL.nil<|gp.then ?_
   refine gp.cond (b:=true) rfl (λ_=>?_) (λh=>by cases h)
   refine gp.jA (xv xw) rfl [(7,some ⟨b7,.cells (lY p) 71 (0,0),0⟩)] (lc rfl ln) [false,true,true] eL İ (λhb=>?_)
   refine cn (λ_ m=>Y0.eK 8 lJ rfl rfl rfl) ?_
   refine γ.fQ Zh (Y0.eK 7 lK rfl rfl (Zz _ _ _))<|γ.fQ Zh (Y0.move rfl) ?_
   refine γ.iM hb<|eY.one (λw P=>P.weaken (lc rfl ln)) ?_
   refine WL.fg 4 Zh py rfl rfl rfl rfl rfl (Ć.1 rfl)<|eY.back<|eY.one (λw P=>P.weaken (lc rfl ln)) ?_
   refine WL.fg 5 Zh ow rfl rfl rfl (Zz _ _ _) (Zz _ _ _) (λu Z=>y8 _ _ _ (λ_=>rfl) u (by simpa using Z))<|eY.back ?_
   refine eY.eW (λw P=>P.weaken (lc rfl ln)) 6 #[.string ab] Zh yC rfl rfl rfl aaU rfl rfl<|eY.nil (λw P=>P.weaken (lc rfl ln))<|WE.nx<|WE.inBlock ?_
   exact λa2 w2 _ Y=>⟨_,_,Lc (a.1,(p3,T,p4,U),p,ab),Y,rfl,lc rfl (lc rfl (lc rfl (lc rfl (lc rfl (lc rfl (lc rfl (lc rfl ln))))))),rfl,(a.1,(p3,T,p4,U),p,ab),aw,rfl,ai.mono B,aj.mono B,an,ao⟩
  replace hr:=hr.neg aC
  refine mv rfl rfl<|gy rfl rfl (Y0.move rfl) rfl<|gy rfl rfl (Y0.î 6 Du rfl rfl rfl) rfl<|gy rfl rfl (Y0.C2 rfl rfl) rfl<|yy (Y0.eU rfl rfl) rfl<|WL.nil<|gp.then ?_
  refine gp.cond (b:=Op.bytesLess ab.toList key.toList) rfl (λaE=>?_) (λaE=>?_)
  .replace hr:=hr.pos aE
   replace hr:_=ay:=hr
   subst hr
   refine gp.jA (xv xw) rfl [(7,some ⟨b7,.cells (lY p) 71 (0,0),0⟩)] (lc rfl ln) [false,true,true] eL İ (λhb=>?_)
   refine cn (λ_ m=>Y0.eK 8 lJ rfl rfl rfl) ?_
   refine γ.fQ Zh (Y0.eK 7 lK rfl rfl (Zz _ _ _))<|γ.fQ Zh (Y0.move rfl) ?_
   refine γ.iM hb<|eY.one (λw P=>P.weaken (lc rfl ln)) ?_
   refine WL.fg 4 Zh py rfl rfl rfl rfl rfl (Ć.1 rfl)<|eY.back<|eY.one (λw P=>P.weaken (lc rfl ln)) ?_
   refine WL.fg 5 Zh ow rfl rfl rfl (Zz _ _ _) (Zz _ _ _) (λu Z=>y8 _ _ _ (λ_=>rfl) u (by simpa using Z))<|eY.back ?_
   refine eY.eW (λw P=>P.weaken (lc rfl ln)) 6 #[.string ab] Zh yC rfl rfl rfl aaU rfl rfl<|eY.nil (λw P=>P.weaken (lc rfl ln))<|WE.nx<|WE.inBlock ?_
   exact λa2 w2 _ Y=>⟨_,_,Lc (a.1,(p3,T,p4,U),p,ab),Y,rfl,lc rfl (lc rfl (lc rfl (lc rfl (lc rfl (lc rfl (lc rfl (lc rfl ln))))))),rfl,(a.1,(p3,T,p4,U),p,ab),aw,rfl,ai.mono B,aj.mono B,an,ao⟩
  replace hr:=hr.neg (Ů.1 aE)
  replace hr:_=ay:=hr
  subst hr
  refine gp.skip<|WE.inBlock ?_
  exact λa2 w2 _ Y=>⟨_,_,Lc (c,q,f,key),Y,rfl,lc rfl (lc rfl (lc rfl (lc rfl (lc rfl (lc rfl (lc rfl (lc rfl ln))))))),rfl,(c,q,f,key),aw,rfl,ai.mono B,aj.mono B,aF.mono B,aG.mono B⟩
 .intro q hq x hx
  simp only[Lc,Ď,ĝ,ţ]at hq
  rcases hq with rfl|rfl|rfl|rfl|rfl|rfl|rfl|rfl<;>cases hx<;>rfl
 obtain⟨rfl,⟨c,q,f,key⟩,hI,rfl,bj,bk,aN,aO⟩:=X
 dsimp only at hI aN aO
 rw[aai]at hI
 replace hI:(c,f,key)=aK:=hI
 subst hI
 refine⟨rfl,mO.seq<|mO.jA [(5,some ⟨b5,.cells (lY f) 71 (0,0),0⟩)] (lc rfl ln) [false,true] eL İ (λhb=>?_)⟩
 refine cn (λ_ m=>Y0.eK 4 lJ rfl rfl rfl) ?_
 refine γ.fQ Zh (Y0.eK 5 lK rfl rfl (Zz _ _ _)) ?_
 refine γ.iM hb<|eY.one (λw P=>P.weaken (lc rfl ln)) ?_
 refine WL.fg 2 Zh py rfl rfl rfl rfl rfl (Ć.1 rfl)<|eY.back<|eY.one (λw P=>P.weaken (lc rfl ln)) ?_
 refine WL.fg 3 Zh ow rfl rfl rfl (Zz _ _ _) (Zz _ _ _) (λu Z=>y8 _ _ _ (λ_=>rfl) u (by simpa using Z))<|eY.back<|eY.nil (λw P=>P.weaken (lc rfl ln))<|WE.nx<|mO.then<|mO.ret ?_
 refine WE.Dq (rvs:=[.cell 2 48,.cell 3 71]) [] [.agg (si c q).toArray,.agg (lY f)] rfl rfl rfl (λi rv v e1 e2=>?_) ln ⟨_,_,_,_,rfl,aN,aO⟩
 match i with
 |0=>simp at e1 e2;subst e1 e2;exact RV.pT (i:=2) lJ rfl rfl rfl
 |1=>simp at e1 e2;subst e1 e2;exact RV.pT (i:=3) lK rfl rfl (Zz _ _ _)
 |i+2=>simp at e1
theorem VW(n:Int):oM 168 (λ_=>[.int .i64 n]) (λ_=>True) (kE n):=by
 by_cases h:0<=n
 .rw[show kE n=lB n from ą h];exact Tu n h
 rw[show kE n=_ from ā h];intro j xs s d;refine æ ?_;intro w0 G0 _ e a _;refine WC.Ê (p:=(0:Int)<=n) rfl (λf=>absurd f h) (λf=>?_);refine æ ?_;refine WL.ö (S':=St w0 G0 G0 (hL j s xs.length++[])) (λw i=>i) ?_;refine ZW [] (xr _ (pB _)) Zh rfl (YC.of oK rfl) d a trivial (by rw[e];exact qJ a) (λs' G' g c=>?_);exact WL.nil<|WE.jb<|WE.iL rfl ⟨rfl,s',rfl,c⟩
theorem ZAl(m:Fin 8->Int):∀k j,k<=j->(fX m k).length<=(fX m j).length:=λk j h=>by
 induction j with
 |zero=>rw[show k=0 by omega];exact Ċ _
 |succ j a=>
  by_cases e:k=j+1
  .rw[e];exact Ċ _
  refine ŋ (a ŉ) ?_;show _<=(fX m j++_).length;rw[Ā];omega
theorem Zzd{a n:Nat}{s:ŀ Addr×Nat×ŀ Ow}{x:ŀ Ow}:Lo.sub (hL a s n++[]) ((3,x)::hL a s n):=
 show Lo.sub [(6000,some ⟨a,.cells #[.slice s.1 n s.2.1] 212 (0,0),0⟩),(5000,s.2.2)] _ from lc rfl (lc rfl ln)
theorem Zwc(m:Fin 8->Int):oM 244 (λ_=>[.agg (õ (Value.int .i64) 8 m).toArray]) (λ_=>True) (fX m 8):=by
 intro h xs s e;refine eR.enter (args:=[_,_]) (N:=14) func244 rfl rfl rfl (λw0 G0 i f=>?_);obtain⟨a,_⟩:=f;have v:w0.L.zero:=by rw[i];exact qJ a
 rw[Ā]at e;refine sr<|WL.box 3 Zh rfl rfl (λA=>nx ?_)
 refine sr<|yy (Y0.eK 3 lK rfl rfl (Zz _ _ _)) rfl<|mv rfl rfl<|nx<|WC.block ?_
 refine WC.ö (S':=St w0 G0 G0 (hL h s xs.length++[])) (λw d=>d.weaken Zzd) ?_;refine WC.hJ (X:=Nat×(ŀ Addr×Nat×ŀ Ow)×Mem) (λc=>match c with|⟨k,_,_⟩=>[(0,.pointer (some ⟨h,0,none⟩)),(6,.agg (õ (Value.int .i64) 8 m).toArray),(7,.int .i64 (k:Int))])
  (λc=>match c with|⟨k,s',G⟩=>k<=8/\rh G s' (xs++fX m k))
  (λc=>match c with|⟨k,s',G⟩=>St w0 G0 G (hL h s' (xs++fX m k).length)) (λc=>8-c.1) ⟨0,s,G0⟩ (fc rfl (fc rfl (fc rfl fn))) ⟨ŉ,by rw[show fX m 0=[]from rfl,ę];exact a⟩ (λw d=>by show St _ _ _ (hL h s (xs++fX m 0).length) _;rw[show fX m 0=[]from rfl,ę];exact d) ?_
 rintro⟨k,s',G⟩ ⟨r,hr⟩;dsimp only at r hr⊢;refine sr ?_;refine æ ?_;intro hr;refine WC.Ê (p:=(k:Int)<8) rfl (λq=>?_) (λq=>?_)
 .have u:i64.wrap ((k:Int)+1)=((k+1:Nat):Int):=by rw[ī];omega
  have hi:(0:Int)<=(k:Int)/\(k:Int)<(8:Nat):=⟨ŉ,ŉ⟩;have B:=ZAl m (k+1) 8 ŉ;have t:(fX m (k+1)).length=(fX m k).length+(kE (Ζ m (k:Int))).length:=Ā;refine WC.skip<|WE.then<|WC.seq<|WC.block<|sr<|yy (Y0.index underlying71 eC je rfl rfl hi (tE _ _ _ hi)) rfl ?_
  refine Ν ?_;intro hr;refine WL.ö (S':=St w0 G0 G (hL h s' (xs++fX m k).length++[])) (λw d=>d) ?_;refine ZW [] (VW _) Zh rfl (YC.of wO rfl) (by rw[Ā,Ā];omega) hr trivial v (λy n l g=>?_);refine WL.nil<|WE.inBlock<|WE.then<|WC.region<|yy (Y0.add rfl rfl) rfl ?_
  rw[u];rw[ď xs]at g⊢;exact mv rfl rfl<|WL.nil<|WE.gJ (x:=(k,s',G)) (k+1,y,n) ⟨ŉ,g⟩ (fc rfl (fc rfl (fc rfl fn))) (λw d=>d) (by show 8-(k+1)<8-k;omega)
 have j:k=8:=ŉ;subst j;exact WC.exit<|WE.ä<|WE.ä<|WE.Í<|WE.jb<|WE.iL rfl ⟨rfl,s',rfl,hr⟩
theorem ZAx(l:Ŀ (Fin 8->Int))(p:ŀ Addr)(c:Nat):oM 243 (λq=>[.slice p l.length c,.func (.func 244) #[.pointer (some ⟨q,0,none⟩)] #[]]) (λG=>Δ (Rp.vec .i64 8) G (.slice p l.length c) l) (jJ l):=by
 intro q xs s a;refine eR.enter (args:=[_,_,_]) (N:=23) func243 rfl rfl rfl (λw0 G0 A v=>?_);obtain⟨e,n⟩:=v;have F:w0.L.zero:=by rw[A];exact qJ e
 have O:l.length<=9223372036854775807:=by obtain⟨_,_,_,_,h,_⟩:=n;omega
 unfold jJ at a⊢;generalize hH:fw (u64.wrap (l.length:Int))=H at a⊢;rw[Ā,Ā]at a;refine sr<|mv rfl rfl<|mv rfl rfl<|yy (Y0.mE underlying51 rfl) rfl<|yy (Y0.conv underlying3 underlying250 rfl) rfl ?_
 refine WL.ö (S':=St w0 G0 G0 (hL q s xs.length++[])) (λw j=>j) ?_;refine ZW [] (xr _ (pB _)) Zh rfl (YC.of oK rfl) (by rw[hH,Ā];omega) e trivial F (λI J r d=>?_);rw[hH]at d⊢;refine nx<|sr<|mv rfl rfl<|yy (Y0.mE underlying51 rfl) rfl<|mv rfl rfl<|nx<|WC.block ?_
 refine WC.hJ (X:=Nat×(ŀ Addr×Nat×ŀ Ow)×Mem) (λf=>match f with|⟨k,_,_⟩=>[(0,.pointer (some ⟨q,0,none⟩)),(2,.func (.func 244) #[.pointer (some ⟨q,0,none⟩)] #[]),(13,.slice p l.length c),(14,.int .i64 (l.length:Int)),(15,.int .i64 (k:Int))])
  (λf=>match f with|⟨k,s',G⟩=>k<=l.length/\Mem.le G0 G/\rh G s' (xs++H++(l.take k).flatMap λm=>fX m 8))
  (λf=>match f with|⟨k,s',G⟩=>St w0 G0 G (hL q s' (xs++H++(l.take k).flatMap λm=>fX m 8).length)) (λf=>l.length-f.1) ⟨0,I,J⟩ (fc rfl (fc rfl (fc rfl (fc rfl (fc rfl fn))))) ⟨Ĝ _,r,by rw[ř,ű,ę];exact d⟩ (λw j=>by show St _ _ _ (hL q I (xs++H++(l.take 0).flatMap λm=>fX m 8).length) _;rw[ř,ű,ę];exact j) ?_
 rintro⟨k,s',G⟩ ⟨D,i,hr⟩;refine æ ?_;intro hr;refine WC.Ê (p:=(k:Int)<(l.length:Int)) rfl (λL=>?_) (λL=>?_)
 .have g:k<l.length:=ŉ;have E:(0:Int)<=(k:Int)/\l[(k:Int).toNat]?=some l[k]:=⟨ŉ,by simp[g]⟩;have Q:i64.wrap ((k:Int)+1)=((k+1:Nat):Int):=by rw[ī];omega
  have B:=MA (λm=>fX m 8) l (k+1);rw[y6 (λm=>fX m 8) g,Ā]at B;refine WC.skip<|WE.then<|WC.seq<|WC.block<|sr<|yy (Y0.lS underlying51 ow (n.mono i) rfl rfl E) rfl<|yy (Y0.jF _ lK rfl (Zz _ _ _) (AtK.vec (Δ.at (n.mono i) E))) rfl ?_
  refine WL.alloc 7 Zh va rfl (λS=>?_);refine WL.fg 7 Zh ow rfl rfl rfl (Zz _ _ _) (Zz _ _ _) (λu P=>y8 _ _ _ (λ_=>rfl) u (by simpa using P)) ?_;refine WL.ö (λw j=>j.weaken UG) ?_;refine æ ?_;intro hr;refine ZW [(7,_)] (Zwc l[k]) Zh rfl (YC.C9 IP rfl rfl) (by simp only[Ā];omega) hr trivial F (λR K t y=>?_);refine WL.nil<|WE.inBlock<|WE.then<|WC.region<|yy (Y0.add rfl rfl) rfl ?_
  rw[Q];rw[ď (xs++H),<-y6 (λm=>fX m 8) g]at y⊢;exact mv rfl rfl<|WL.nil<|WE.gJ (x:=(k,s',G)) (k+1,R,K) ⟨ŉ,Mem.le_trans i t,y⟩ (fc rfl (fc rfl (fc rfl (fc rfl (fc rfl fn))))) (λw j=>j.weaken Uj) (by show l.length-(k+1)<l.length-k;omega)
 have C:k=l.length:=ŉ;subst C;rw[ĥ,ď]at hr⊢;exact WC.exit<|WE.ä<|WE.ä<|WE.Í<|WE.jb<|WE.iL rfl ⟨rfl,s',rfl,hr⟩
theorem Zzb(l:Ŀ (Fin 8->Int))(p:ŀ Addr)(c:Nat):oM 170 (λ_=>[.slice p l.length c]) (λG=>Δ (Rp.vec .i64 8) G (.slice p l.length c) l) (jJ l):=by
 intro j xs s e;refine Ν ?_;intro w0 G0 _ f a g;refine WL.ö (S':=St w0 G0 G0 (hL j s xs.length++[])) (λw i=>i) ?_;refine ZW [] (ZAx l p c) Zh rfl (YC.of IN rfl) e a g (by rw[f];exact qJ a) (λs' G' h d=>?_);exact WL.nil<|WE.jb<|WE.iL rfl ⟨rfl,s',rfl,d⟩
theorem Kh(q:Zc)(p1:ŀ Addr)(p:Nat)(p2:ŀ Addr)(s:Nat)(r:Ĳ)(hr:(A8 q).ω r):Cr 94 #[.agg ([.int .i64 q.kind,.slice p1 q.p.length p,.slice p2 q.o.length s]).toArray] (λG=>Δ Zj G (.slice p1 q.p.length p) q.p/\Δ (Rp.vec .i64 8) G (.slice p2 q.o.length s) q.o) (λG v=>v=.string r):=by
 refine iC.enter (args:=[_]) (N:=16) func94 rfl rfl rfl (λw0 G0 l m=>?_);obtain⟨I,h2⟩:=m;obtain⟨e,hr⟩:=hr;replace hr:_=r:=hr;subst hr;unfold oT at e⊢;simp only[Ā]at e;have C:∀i,w0.L.get i=none:=λi=>by rw[l];rfl
 have B:w0.L.zero:=by rw[l];intro q J;cases J
 refine sr<|WL.box 1 Zh rfl rfl (λH=>?_)
 refine sg rfl rfl<|nx ?_
 refine WC.gA 1 rfl (C _) (λt c y _=>?_);have x:∀j u,([.int .i64 q.kind,.slice p1 q.p.length p,.slice p2 q.o.length s]:Ŀ Value)[j]?=some u->t H (0+j)=some u:=λj u h=>by rw[ņ];exact y j u (by simpa[Value.cells]using h)
 refine WC.ö (S':=St w0 G0 t []) (λw A=>A.weaken ln) ?_;refine sr<|WL.alloc 6000 Zh z212 rfl (λF=>?_)
 refine WL.ö (S':=St w0 G0 t (hL F (none,0,none) ([]:Ŀ Int).length++[])) (λw A=>A.weaken (show Lo.sub [(6000,some ⟨F,.cells #[.slice none 0 0] 212 (0,0),0⟩),(5000,none)] _ from lc rfl (lw ln))) ?_;refine nx ?_;refine æ ?_;refine yy (Y0.ia eC rfl (x 0 _ rfl)) rfl ?_;refine ZW [] (VW q.kind) Zh rfl (YC.of wO rfl) (by simp only[Ā,ĺ];omega) Β.nil trivial B (λR L a f=>?_);refine æ ?_;refine yy (Y0.ia mH rfl (a _ _ _ (x 1 _ rfl))) rfl ?_;refine ZW [] (UF q.p p1 p) Zh rfl (YC.of Ab rfl) (by simp only[Ā,ĺ];omega) f ((I.mono c).mono a) B (λS O d g=>?_);refine æ ?_;refine yy (Y0.ia sW rfl (d _ _ _ (a _ _ _ (x 2 _ rfl)))) rfl ?_;refine ZW [] (Zzb q.o p2 s) Zh rfl (YC.of Iv rfl) (by simp only[Ā,ĺ];omega) g ((h2.mono c).mono (Mem.le_trans a d)) B (λT P D k=>?_);refine æ ?_;refine WL.eO 5000 k rfl (C _) (λK Q E n _=>?_);refine yy (Y0.kQ underlying32 underlying5 underlying9 n rfl) rfl ?_;refine æ ?_;exact WE.ja rfl rfl rfl
instance gt'{c r}:SpcM ((cmp_isNaN_int c)) r (Cr 98 #[i' c] (λG=>True) (λG v=>v=.bool r)):=.mk λhr=>Η
instance Wn{i c r}:SpcM ((Ey i c)) r (Cr 52 #[i' i,i' c] (λG=>True) (λG v=>v=i' r)):=.mk λhr=>Η
instance iB'{c r}:SpcM ((KT c)) r (∀{g f},Cr 51 #[δ g c f] (λG=>sl (Rp.int .i64) G g f c) (λG v=>v=i' r)):=.mk λhr {g f}=>by refine Ν ?_;intro o j _ hr _;refine WC.mA hr [3,6,7] [] [3] [] (λ(h:Int)=>⟨h,[(8,i' h)],tr,[]⟩) (λ(_:Unit)=>⟨(.inr ()),[],tr,[]⟩) 0
end Go.Proofs.YtepbagkffgddlaaGreat

