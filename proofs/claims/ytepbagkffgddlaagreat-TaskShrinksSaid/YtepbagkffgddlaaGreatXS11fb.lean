/- The law TaskShrinks holds for every input: a part of its proof (fC the code does, plain models, and fC they return). No condition. -/
import Derived.Test.YtepbagkffgddlaaGreatXS11f
set_option linter.unusedVariables false
set_option linter.unusedSimpArgs false
namespace Go.Proofs.YtepbagkffgddlaaGreat
open Go.IntKind (i8 i16 i32 i64 u8 u16 u32 u64)
open Go.Proofs.Tryz
open Go Go.EL Go.RowKit Go.Proofs
set_option maxHeartbeats 4000000
set_option maxRecDepth 20000
abbrev su:=@sl Int (Rp.int .u32)
abbrev sq:=@sl (Ŀ Za) (Rp.sl c')
abbrev sv:=@sl (Fin 8->Int) (fV .i64 8)
abbrev Cr:=iM prog
abbrev Cl:=eL prog
abbrev ru:=Ε (Rp.int .u8) 5
instance eR'{k r}:SpcM ((O6 k)) r (Cl 99 #[.slice none 0 0,i' k] [] (λ_=>True) (λG L v=>∃s t f,L=[(7000,f)]/\v=δ s r t/\Ε (Rp.sl c') 50 G (δ s r t) r f)):=.mk λhr=>by
 obtain⟨⟨C,D⟩,hr⟩:=hr;replace hr:[]=r:=hr;subst hr;obtain⟨m,rfl⟩:∃m:Nat,k=m:=⟨k.toNat,ŉ⟩;refine rz (args:=[_,_]) (N:=27) func99 z z z λn e u _=>sr<|Μ z<|o'<|sr<|η z<|ku z<|nx<|qO (by rw[show decide ((m:Int)<0)=false from ċ ŉ];rfl)<|q'<|b'<|o'<|sr<|η z<|η z<|Γ (Y0.BL jT z)<|η z<|Γ (Y0.mE jT z)<|Γ (GI z z)<|Γ (GI z z) ?_
 have y:i64.wrap ((m:Int)-i64.wrap (((0:Nat):Int)-((0:Nat):Int)))=m:=by simp only[ĩ];omega
 rw[y];refine Μ z<|sr<|η z<|Γ (uu z z)<|nx<|WC.eC (p:=(0:Int)<(m:Int)) z (λA=>?_) (λA=>?_)
 .refine Ο ?_;refine Γ (Y0.Oh jT pK z z)<|η z<|WL.r8 (sz:=1) (bytes:=24) (m:=m) 7001 z z jT Bx jA z ĳ ĳ z z ŉ (by simp only[small];omega) λq c g x B=>?_
  refine Ο ?_;refine Γ (Y0.HT (l:=0) (h:=0) (m:=c) (b:=q) (o:=0) jT pK z z ⟨_,z⟩ z (ĉ _) (Ĝ _) (ĉ _)) ?_;simp only[dz,ek,ite_self,aax];refine dE z<|t'<|b'<|sr<|η z<|Μ z<|m'<|mT (S':=St n e e [(7000,ü q g 50)]) (λw d=>?_) (j' z z ⟨_,_,_,z,z,⟨c,[],g,z,z,z,z,B,x,Ĝ _⟩⟩)
  have d:=d.Þ (i:=7001) (j:=7000) z (by rw[u];rfl);exact d.weaken (lc z ln)
 refine Ο ?_;refine mT (S':=St n e e [(7000,none)]) (λw d=>d.weaken (lw ln)) (j' z z ⟨_,_,_,z,z,Ε.nil⟩)
instance fz'{l i r}:SpcM ((yO l i)) r (Cr 130 #[.agg (Ø l).toArray,.agg (Ø i).toArray] (λG=>True) (λG v=>v=i' r)):=.mk λhr=>by refine Ο ?_;intro u g _ k j _ hr _;refine WC.mA hr [2,3] [2,3] [2,3] [2,3] (λ(f:Int)=>⟨f,[(5,i' f)],tr,[]⟩) (λ(s:Int)=>⟨s,[(5,i' s)],tr,[]⟩) 0
instance gw'{l k r}:SpcM ((Pf l k)) r (∀{j h g f i d c e},Cr 129 #[.agg (((Υ l.c j h g f):Ŀ Value)++(Ø l.m)).toArray,.agg (((Υ k.c i d c e):Ŀ Value)++(Ø k.m)).toArray] (λG=>su G j h l.c.num.χ/\su G g f l.c.den.χ/\su G i d k.c.num.χ/\su G c e k.c.den.χ) (λG v=>v=i' r)):=.mk λhr {j h g f i d c e}=>Ι
theorem js':Go.Sort.SWO (Go.Proofs.ltOf (λa b:Za=>Ü b.m a.m)):=⟨λx=>yq.irrefl x.m,λx y z=>yq.trans x.m y.m z.m,λx y z=>yq.ntrans x.m y.m z.m⟩
instance dJ'{l a b i r}:SpcM ((Z1 l a b i)) r (∀{p c n C},Cl 212 #[.slice p n c,i' a,i' b,i' i,.func (.func 129) #[] #[]] [(5000,C)] (λG=>Ε c' 147 G (.slice p n c) l C) (λG L v=>∃s,L=[(5000,s)]/\v=.tuple #[]/\Ε c' 147 G (.slice p n c) r s)):=.mk λhr {p c n C}=>by
 obtain⟨⟨rfl,rfl,⟨R,U⟩,Q⟩,hr⟩:=hr;obtain⟨k,rfl⟩:∃k:Nat,i=k:=⟨i.toNat,ŉ⟩;refine(C6 (r:=c') (sz:=12) z ĳ js' Tryz.Dj z (λ_=>İ) (λ_=>İ) (λx y T S w G O K=>?_) H9 147 p n c l C k ŉ ŉ).mono (λ_ h=>h) (λG L v ⟨E,D,H,P,I,N,J⟩=>?_)
 .obtain⟨M,F⟩:=K;obtain⟨u,B,o,j,rfl,g,d⟩:=Rs M;obtain⟨A,m,t,q,rfl,f,e⟩:=Rs F;exact gw'.h (show(Pf x y).Α (Ü y.m x.m)from⟨_,Ju y.m x.m,z⟩) w G O ⟨g,d,f,e⟩
 have:E=r:=hr E ⟨N,J.imp (λh=>by simpa[Go.Proofs.ltOf]using h)⟩;subst this;exact⟨D,H,P,I⟩
instance dv'{f r}:SpcM ((vh f)) r (∀{d c},Cr 193 #[.agg ((θ f d c)).toArray] (λG=>su G d c f.χ) (λG v=>v=i' r)):=.mk λhr {d c}=>Ι
instance cT'{h r}:SpcM ((ZH h)) r (∀{d c f e},Cr 106 #[.agg ((Υ h d c f e)).toArray] (λG=>su G d c h.num.χ/\su G f e h.den.χ) (λG v=>v=i' r)):=.mk λhr {d c f e}=>Ι
instance zG{h r}:SpcM ((ZZ h)) r (∀{f g},Cr 187 #[δ f h g] (λG=>su G f g h) (fS (Rp.int .u32) r)):=.mk λhr {f g}=>by
 refine Ο ?_;intro q j _ hr e;refine WC.mB hr [0] [] [0] [] (λ(i:Int)=>⟨i,[(3,i' i)],tr,[]⟩) (λ(o:Int)=>⟨o,[(3,i' o)],tr,[]⟩) (h.length:Int) ?_;intro k o hr l _;refine b'<|sr<|η z<|η z<|oA hr λp hr=>WL.qv (r:=(Rp.int .u32)) z z F' tL z (e.mono l) z z p λy v s=>Μ z<|m' ?_
 obtain rfl:_=r:=hr;exact j' z z ⟨_,_,z,s⟩
instance eF'{c r}:SpcM ((As c)) r (Cr 185 #[.int .u64 c] (λG=>True) (fS (Rp.int .u32) r)):=.mk λhr=>by
 refine J' (args:=[_]) (N:=10) func185 z z z λv t i o=>sr<|dE z<|nr<|η z<|Γ (pD tJ uq z)<|η z<|Γ (Wd z z ĳ)<|Γ (pD tJ uq z)<|nb (e:=248) (r:=(Rp.int .u32)) (vs:=#[(0,.int .u32 (u32.wrap c)),(1,.int .u32 (u32.wrap (Int.fdiv c (2 ^ (min (32:Int).toNat u64.bits)))))]) (cs:=[.int .u32 (u32.wrap c)]++([.int .u32 (u32.wrap (Int.fdiv c (2 ^ (min (32:Int).toNat u64.bits))))]++([]))) ([u32.wrap c,u32.wrap (Int.fdiv c (2 ^ (min (32:Int).toNat u64.bits)))]:Ŀ Int) z z z z z ĳ (λ_=>İ) ⟨[.int .u32 (u32.wrap c)],[.int .u32 (u32.wrap (Int.fdiv c (2 ^ (min (32:Int).toNat u64.bits))))]++([]),z,z,⟨[.int .u32 (u32.wrap (Int.fdiv c (2 ^ (min (32:Int).toNat u64.bits))))],[],z,z,z⟩⟩ (key:=999) z (by rw[i];rfl) (λu p k h=>?_)
 refine oE hr λq g hr=>gw z z (x' qE z) (zG.h g) z (h) (λl s j d=>?_);obtain⟨n,m,rfl,f⟩:=d;refine Μ z<|m' ?_
 obtain rfl:_=r:=hr;exact j' z z ⟨_,_,z,f⟩
instance cp'{c d r}:SpcM ((ZS c d)) r (∀{f e},Cr 184 #[.bool c,δ f d e] (λG=>su G f e d) (Ï r)):=.mk λhr {f e}=>Ι
instance eI'{u r}:SpcM ((yV u)) r (Cr 102 #[i' u] (λG=>True) (Ï r)):=.mk λhr=>Ι
instance dx'{g r}:SpcM ((wY g)) r (∀{e d},Cr 251 #[.agg ((θ g e d)).toArray] (λG=>su G e d g.χ) (λG v=>v=.bool r)):=.mk λhr {e d}=>by
 refine J' (args:=[_]) (N:=19) func251 z z z (λm o k h=>?_);have c:=h;refine sr<|jO 1 z z z λl=>dE z<|nr<|Γ (BG z)<|Ð hr z (lB (n' 1 q6 z z z) (đ Value.bool (me _))) z (λi hr=>?_) (λi hr=>?_)
 .exact Ι
 exact Ι
instance G8{c d r}:SpcM ((Pq c d)) r (∀{t o s u},Cr 192 #[δ t c o,δ s d u] (λG=>su G t o c/\su G s u d) (fS (Rp.int .u32) r)):=.mk λhr {t o s u}=>by
 refine Ο ?_;intro Y L _ P _ _ J af an hr _;refine WC.mD hr [0,1,5,18] [] [5] [] (λ(⟨E,j,f⟩:(Ŀ Int)×ŀ Ow×Int)=>⟨(E,f),[(19,i' f)],λx=>Ε (Rp.int .u32) 248 x (.slice J (i64.wrap ((c.length:Int)+(d.length:Int))).toNat ((i64.wrap ((c.length:Int)+(d.length:Int))).toNat)) E j,[(4016,j)]⟩) (λ(⟨K,D⟩:(Ŀ Int)×ŀ Ow)=>⟨K,[],λQ=>Ε (Rp.int .u32) 248 Q (.slice J (i64.wrap ((c.length:Int)+(d.length:Int))).toNat ((i64.wrap ((c.length:Int)+(d.length:Int))).toNat)) K D,[(4016,D)]⟩) ⟨(List.replicate (i64.wrap ((c.length:Int)+(d.length:Int))).toNat 0),af,0⟩ ?_ ?_
 .rintro _ x ⟨E,j,f⟩ h O hr;refine Ο ?_;intro _ T _ hr _;refine WC.mC hr [0,1,5,6,8,18,19,28] [] [0,1,5,6,18,19] [] (λ(⟨B,q,k,l⟩:(Ŀ Int)×ŀ Ow×Int×Int)=>⟨(B,k,l),[(7,.int .u64 k),(29,i' l)],λF=>Ε (Rp.int .u32) 248 F (.slice J (i64.wrap ((c.length:Int)+(d.length:Int))).toNat ((i64.wrap ((c.length:Int)+(d.length:Int))).toNat)) B q,[(4016,q)]⟩) (λ(⟨H,C,v⟩:(Ŀ Int)×ŀ Ow×Int)=>⟨(H,v),[(7,.int .u64 v)],λI=>Ε (Rp.int .u32) 248 I (.slice J (i64.wrap ((c.length:Int)+(d.length:Int))).toNat ((i64.wrap ((c.length:Int)+(d.length:Int))).toNat)) H C,[(4016,C)]⟩) ⟨E,j,0,0⟩ ?_;rintro _ F ⟨B,q,k,l⟩ y m hr;refine sr<|ku z<|nx<|o'<|I' hr z (λN hr=>?_) (λN hr=>?_)
  .refine q'<|b'<|o'<|Y'<|sr<|η z<|Μ z<|o'<|fN [ff,ff,ff,ff,ff,ff,ff,ff,ff,ff,ff,ff,ff,ff,ff,ff] eP İ λX=>fO z<|fO z<|fO z ?_
   refine é ?_;intro V _ hr _;exact oE hr λU a hr=>cn (λ_ g=>pJ F' tL (m.mono g) z z a)<|cn (λ_ g=>Y0.loadT V2 (m.mono g) (key:=4016) z z (zA (oq m a)))<|cn (λ_ g=>pD uq tJ z)<|cn (λ_ g=>V' z z)<|fO z<|pF X<|iT z<|dE z<|t'<|Κ<|b'<|sr<|η z<|η z<|η z<|iT z<|η z<|Γ (pD tJ uq z)<|oE hr λx5 n hr=>Γ (pJ F' tL m z z n)<|zL (r:=(Rp.int .u32)) (e:=248) (cs':=[.int .u32 (u32.wrap (u64.wrap ((u64.wrap ((u64.wrap ((u64.wrap T)*(u64.wrap V)))+(u64.wrap U)))+k)))]) (i:=i64.wrap (f+l)) (z':=u32.wrap (u64.wrap ((u64.wrap ((u64.wrap ((u64.wrap T)*(u64.wrap V)))+(u64.wrap U)))+k))) 4016 z tL z m z z z z z n λao ah=>nx<|w'<|η z<|Γ (Wd z z ĳ)<|Ι
  exact Ι
 rintro Q ⟨K,D⟩ hr ar W;refine b'<|sr<|η z<|pS (r:=(Rp.int .u32)) (e:=248) 4016 W z (by rw[P];rfl) (λaC aB aw S au=>?_)
 refine oE hr λaD A hr=>gw z z (x' qE z) (zG.h A) (by rw[qT S]) ((rF S)) (λay aE av R=>?_);obtain⟨Z,az,rfl,p⟩:=R;refine Μ z<|m' ?_
 obtain rfl:_=r:=hr;exact j' z z ⟨_,_,z,p⟩
instance gJ'{A t r}:SpcM ((EK A t)) r (∀{j f g e},Cr 105 #[.agg ((θ A j f)).toArray,.agg ((θ t g e)).toArray] (λG=>su G j f A.χ/\su G g e t.χ) (Ï r)):=.mk λhr {j f g e}=>Ι
instance xT{H r}:SpcM ((vm H)) r (∀{F E},Cr 229 #[δ F H E] (λG=>sl nJ G F E H) (Ï r)):=.mk λhr {F E}=>by refine Ο ?_;intro w0 W _ _ K V D _ s t y M hr _;refine WC.mA hr [2,3,7,8] [2] [2,3] [2] (λ(⟨j,m,d,c⟩:Int×Zg×ŀ Addr×Nat)=>⟨(j,m),[(9,i' j)],λk=>su k d c m.χ,[(3,ü M (θ m d c) 118)]⟩) (λ(⟨o,g,h⟩:Zg×ŀ Addr×Nat)=>⟨o,[],λp=>su p g h o.χ,[(3,ü M (θ o g h) 118)]⟩) ⟨0,V,s,t⟩
instance ek'{m o r}:SpcM ((Au m o)) r (∀{j n h l},Cr 252 #[δ j m n,δ h o l] (λG=>su G j n m/\su G h l o) (λG v=>v=i' r)):=.mk λhr {j n h l}=>by refine Ο ?_;intro D i _ _ _ _ hr _;refine WC.mA hr [0,1] [] [] [] (λ(p:Int)=>⟨p,[(5,i' p)],tr,[]⟩) (λ(_:Unit)=>⟨(.inr ()),[],tr,[]⟩) (i64.wrap ((m.length:Int)-1))
instance in'{o k r}:SpcM ((Rz o k)) r (∀{h f g e},Cr 228 #[.agg ((θ o h f)).toArray,.agg ((θ k g e)).toArray] (λG=>su G h f o.χ/\su G g e k.χ) (λG v=>v=i' r)):=.mk λhr {h f g e}=>Ι
instance fB'{q p r}:SpcM ((vi q p)) r (∀{m l j i n k c g},Cr 151 #[.agg ((Υ q m l j i)).toArray,.agg ((Υ p n k c g)).toArray] (λG=>su G m l q.num.χ/\su G j i q.den.χ/\su G n k p.num.χ/\su G c g p.den.χ) (λG v=>v=i' r)):=.mk λhr {m l j i n k c g}=>by
 refine é ?_;intro _ _ y _ _ A _ t _ x _ _ N _ _ _ hr _;refine I' hr z (λa hr=>?_) (λa hr=>?_)
 .exact Ι
 refine q'<|b'<|o'<|fN [ff,ff,ff,ff,ff,ff,ff,ff,ff,ff,ff] eP İ λN=>?_
 refine é ?_;intro hr;refine tN (r:=nJ) (e:=118) ([q.num,p.den]:Ŀ Zg) (λ_=>z) z ĳ (λu L o X=>?_) ?_
 .exact⟨#[(0,.agg ((θ q.num m l)).toArray),(1,.agg ((θ p.den c g)).toArray)],(θ q.num m l)++((θ p.den c g)++([])),z,z,λ_=>by kernel_rfl,⟨(θ q.num m l),(θ p.den c g)++([]),z,⟨[.bool q.num.neg],[δ m q.num.χ l],z,z,⟨_,z,(A.mono o)⟩⟩,⟨(θ p.den c g),[],z,⟨[.bool p.den.neg],[δ c p.den.χ g],z,z,⟨_,z,(y.mono o)⟩⟩,z⟩⟩⟩
 refine oE hr λP U hr=>mo (f:=229) (φ:=Ï P) (λ_=>z) (λv S Y o h=>?_) (λu L o X=>?_) ?_
 .obtain⟨E,K,rfl,s⟩:=h;exact⟨_,_,z,s.mono o⟩
 .obtain⟨⟨C,B,O,R⟩,_⟩:=(show(λG v=>∃C B,v=.slice C 2 2/\jy nJ G (.slice C 2 2) B [q.num,p.den]) L.m (u 21)/\True from X);exact⟨_,_,_,λ_=>x' ox z,xT.h U,(by simp only[O]<;>rfl),R⟩
 refine Ο ?_;intro hr;refine tN (r:=nJ) (e:=118) ([p.num,q.den]:Ŀ Zg) (λ_=>z) z ĳ (λu L o X=>?_) ?_
 .exact⟨#[(0,.agg ((θ p.num n k)).toArray),(1,.agg ((θ q.den j i)).toArray)],(θ p.num n k)++((θ q.den j i)++([])),z,z,λ_=>by kernel_rfl,⟨(θ p.num n k),(θ q.den j i)++([]),z,⟨[.bool p.num.neg],[δ n p.num.χ k],z,z,⟨_,z,(x.mono o)⟩⟩,⟨(θ q.den j i),[],z,⟨[.bool q.den.neg],[δ j q.den.χ i],z,z,⟨_,z,(t.mono o)⟩⟩,z⟩⟩⟩
 refine zO (d:=27) (post:=λG v=>∃T Q,v=.slice T 2 2/\jy nJ G (.slice T 2 2) Q [p.num,q.den]) (d':=22) (post':=Ï P) (d'':=21) (post'':=λG v=>∃C B,v=.slice C 2 2/\jy nJ G (.slice C 2 2) B [q.num,p.den]) (λaj ai ak ao ag D I H=>?_);obtain⟨T,Q,rfl,af⟩:=D;obtain⟨E,K,rfl,s⟩:=I;obtain⟨C,B,rfl,R⟩:=H;refine oE hr λan V hr=>gw z z (x' ox z) (xT.h V) z (af) (λah ap M J=>?_);obtain⟨Z,ab,rfl,F⟩:=J;refine oE hr λar W hr=>H' z z (x' IC z) (in'.h W) z (⟨(s.mono M),F⟩)<|dE z<|t'<|Κ<|b'<|m' (Å hr z z)
instance gM'{l k r}:SpcM ((Ea l k)) r (∀{e i c d g j h f},Cr 201 #[.agg (((Υ l.c e i c d):Ŀ Value)++(Ø l.m)).toArray,.agg (((Υ k.c g j h f):Ŀ Value)++(Ø k.m)).toArray] (λG=>su G e i l.c.num.χ/\su G c d l.c.den.χ/\su G g j k.c.num.χ/\su G h f k.c.den.χ) (λG v=>v=i' r)):=.mk λhr {e i c d g j h f}=>Ι
instance cV'{l F r}:SpcM ((ZB l F)) r (∀{m o y A},Cr 200 #[δ m l o,δ y F A,.func (.func 201) #[] #[]] (λG=>sl c' G m o l/\sl c' G y A F) (λG v=>v=i' r)):=.mk λhr {m o y A}=>by refine Ο ?_;intro U J _ _ _ hr _;refine WC.mA hr [0,1,2,11,12] [] [0,1] [] (λ(t:Int)=>⟨t,[(13,i' t)],tr,[]⟩) (λ(_:Unit)=>⟨(.inr ()),[],tr,[]⟩) 0
theorem Pn(g:(Ŀ Za))(i:(Ŀ Za))(e:ŀ Addr)(d:Nat)(c:ŀ Addr)(f:Nat)(r:Int)(hr:(Eh g i).Α r):Cr 114 #[δ e g d,δ c i f] (λG=>sl c' G e d g/\sl c' G c f i) (λG v=>v=i' r):=by exact Ι
instance {g:(Ŀ Za)}{i:(Ŀ Za)}{r:Int}:SpcM ((Eh g i)) r (∀{e:ŀ Addr}{d:Nat}{c:ŀ Addr}{f:Nat},Cr 114 #[δ e g d,δ c i f] (λG=>sl c' G e d g/\sl c' G c f i) (λG v=>v=i' r)):=⟨λa {e d c f}=>Pn _ _ e d c f _ a⟩
theorem Za5(l:Ŀ (Ŀ Za))(a b d:Int)(p:ŀ Addr)(c n:Nat)(tk:ŀ Ow)(r:Ŀ (Ŀ Za))(hr:(O8 l a b d).Α r):Cl 259 #[.slice p n c,.int .i64 a,.int .i64 b,.int .i64 d,.func (.func 114) #[] #[]] [(5000,tk)] (λG=>Ε (Rp.sl Zk) 50 G (.slice p n c) l tk) (λG L v=>∃g,L=[(5000,g)]/\v=.tuple #[]/\Ε (Rp.sl Zk) 50 G (.slice p n c) r g):=by
 obtain⟨⟨rfl,rfl,⟨F,i⟩,h2,h3⟩,hr⟩:=hr;replace hr:_=r:=hr;subst hr;obtain⟨k,rfl⟩:∃k:Nat,d=k:=⟨d.toNat,ŉ⟩;obtain⟨l',rfl⟩:∃l':Ŀ mK,l'.map Subtype.val=l:=⟨l.attach.map λq=>⟨q.1,Ć.1 h3 _ q.2⟩,by rw[aaa];exact List.attach_map_subtype_val l⟩;have f:l'.length=(l'.map Subtype.val).length:=by rw[ć]
 have t:∀(x y:mK) (u v:Value),Cr 114 #[u,v] (λG=>((Rp.sl Zk).via (Subtype.val:mK->_)).eZ G [u] x/\((Rp.sl Zk).via (Subtype.val:mK->_)).eZ G [v] y) (λ_ v=>v=.int .i64 (ë x.1 y.1)):=λx y u v w G hi hp=>by obtain⟨⟨u',m,i⟩,⟨I,s,h2⟩⟩:=hp;cases m;cases s;obtain⟨p1,D,rfl⟩:=i.form;obtain⟨p2,E,rfl⟩:=h2.form;exact Pn _ _ _ _ _ _ _ (Tb x.2 y.2) w G hi ⟨i,h2⟩
 have H:=Om (r:=(Rp.sl Zk).via (Subtype.val:mK->_)) rfl Ou Tryz.Dk rfl t H4 50 p n c l' tk k ŉ ŉ;rw[f]at H;refine H.mono (λG h=>Ε.via.2 h) (λG L v h=>?_);obtain⟨ys,j,A,B,C,q4,q5⟩:=h;refine⟨j,A,B,?_⟩;have e:jF (l'.map Subtype.val)=ys.map Subtype.val:=by refine Q3 ((vu _).trans (q4.map Subtype.val).symm) (λp hp=>Ć.1 h3 _ ((vu _).mem_iff.1 hp)) (Kf _) ?_;rw[Ÿ];refine q5.imp (λ{a b} h=>?_);simp only[Go.Proofs.ltOf,aar,aaH]at h;have:=qH a.1 b.1;omega
 rw[e];exact Ε.via.1 C
instance gD'{l k r}:SpcM ((D' l k)) r (∀{e i c d g j h f},Cr 150 #[.agg (((Υ l.c e i c d):Ŀ Value)++(Ø l.m)).toArray,.agg (((Υ k.c g j h f):Ŀ Value)++(Ø k.m)).toArray] (λG=>su G e i l.c.num.χ/\su G c d l.c.den.χ/\su G g j k.c.num.χ/\su G h f k.c.den.χ) (λG v=>v=.bool r)):=.mk λhr {e i c d g j h f}=>Ι
instance cW'{s H r}:SpcM ((ZC s H)) r (∀{B C D E},Cr 149 #[δ B s C,δ D H E,.func (.func 150) #[] #[]] (λG=>sl c' G B C s/\sl c' G D E H) (λG v=>v=.bool r)):=.mk λhr {B C D E}=>by refine Ο ?_;intro S I _ _ _ _ hr _;refine WC.mA hr [1,2,15,16] [] [] [] (λ(p:Int)=>⟨p,[(17,i' p)],tr,[]⟩) (λ(_:Unit)=>⟨(.inr ()),[],tr,[]⟩) 0
theorem Jg(g:(Ŀ Za))(i:(Ŀ Za))(e:ŀ Addr)(d:Nat)(c:ŀ Addr)(f:Nat)(r:Bool)(hr:(ZU g i).Α r):Cr 84 #[δ e g d,δ c i f] (λG=>sl c' G e d g/\sl c' G c f i) (λG v=>v=.bool r):=by exact Ι
instance {g:(Ŀ Za)}{i:(Ŀ Za)}{r:Bool}:SpcM ((ZU g i)) r (∀{e:ŀ Addr}{d:Nat}{c:ŀ Addr}{f:Nat},Cr 84 #[δ e g d,δ c i f] (λG=>sl c' G e d g/\sl c' G c f i) (λG v=>v=.bool r)):=⟨λa {e d c f}=>Jg _ _ e d c f _ a⟩
instance hg'{n r}:SpcM ((Pr n)) r (Cr 180 #[.int .u64 n] (λG=>True) (λG v=>v=i' r)):=.mk λhr=>Ι
instance fo'{d r}:SpcM ((tW d)) r (Cr 97 #[.int .u64 d] (λG=>True) (λG v=>v=i' r)):=.mk λhr=>Ι
theorem Z2(t:(Ŀ (Ŀ Za)))(f:ŀ Addr)(e:Nat)(j:Nat)(h:ŀ Ow)(r:(Ŀ (Ŀ Za)))(hr:(ZQ t).Α r):Cl 198 #[.slice f j e,.func (.func 114) #[] #[]] [(5000,h)] (λG=>Ε (Rp.sl c') 50 G (.slice f j e) t h) (λG L v=>∃k,L=[(5000,k)]/\v=.tuple #[]/\Ε (Rp.sl c') 50 G (.slice f j e) r k):=by
 refine rz (args:=[_,_]) (N:=14) func198 z z z (λq A u m=>?_);have d:=m;have a:q.L.zero:=by rw[u];intro p o x B;simp only[Ď,ĝ,ţ]at o;subst o;exact BY d B
 refine sr<|η z<|Γ (B3 jT d z)<|Μ z<|w' ?_
 refine é ?_;intro _ hr _;refine oE hr λE l hr=>mU z z (x' IK z) (Za5 _ _ _ _ _ _ _ _ _ l) z (d) (lc z ln) a (λD s C y c=>?_);obtain⟨i,rfl,rfl,g⟩:=c;refine t'<|WE.je ?_
 obtain rfl:_=r:=hr;refine mT (S':=St q A s [(5000,i)]) (w1 z)<|WE.iK z  ⟨_,z,z,g⟩
instance {t:(Ŀ (Ŀ Za))}{r:(Ŀ (Ŀ Za))}:SpcM ((ZQ t)) r (∀{f:ŀ Addr}{e:Nat}{j:Nat}{h:ŀ Ow},Cl 198 #[.slice f j e,.func (.func 114) #[] #[]] [(5000,h)] (λG=>Ε (Rp.sl c') 50 G (.slice f j e) t h) (λG L v=>∃k,L=[(5000,k)]/\v=.tuple #[]/\Ε (Rp.sl c') 50 G (.slice f j e) r k)):=⟨λa {f e j h}=>Z2 _ f e j h _ a⟩
abbrev RP:Rp (Ŀ Za):=Rp.sl Zk
theorem ZwU(l:Ŀ (Ŀ Za))(p:ŀ Addr)(n c:Nat):Cr 113 #[.slice p n c] (λG=>Η RP G (.slice p n c) l) (λG v=>∃b,v=.func (.func 199) #[] #[.pointer (some ⟨b,0,none⟩)]/\G b 0=some (.slice p n c)/\Η RP G (.slice p n c) l):=by
 refine iM.enter (args:=[_]) (N:=4) func113 rfl rfl rfl (λw0 G0 a e=>?_);refine sr<|WL.ic 1 rfl Zh rfl rfl (λb=>?_)
 refine sg rfl rfl<|WL.nil<|WE.then ?_
 refine WC.gx 1 rfl (by rw[a];rfl) (λg d f _=>?_);refine sr<|yy (Y0.makeFunc rfl rfl) rfl<|sg rfl rfl<|nx<|WC.ret ?_
 exact WE.jX rfl rfl ⟨_,rfl,f 0 _ rfl,e.mono d⟩
def EP(l:Ŀ (Ŀ Za))(j:Nat)(u:Value)(G:Mem):Prop:=∃x,l[j]?=some x/\∃p c,u=.slice p x.length c/\Η Zk G u x
theorem Zvr(b:Nat)(l:Ŀ (Ŀ Za))(p:ŀ Addr)(n c:Nat):rP prog 199 #[.pointer (some ⟨b,0,none⟩)] l.length (EP l) (λG=>G b 0=some (.slice p n c)/\Η RP G (.slice p n c) l):=by
 intro σ W I K pre F v L V t Q;refine eL.enter (args:=[_,_]) (N:=16) func199 rfl rfl rfl (λw0 G0 u hp=>?_);obtain⟨⟨D,a⟩,m⟩:=hp;have B:w0.L.zero:=by rw[u];exact Q
 have E:l.length<=9223372036854775807:=by obtain⟨_,_,_,_,h,_⟩:=a;omega
 rw[a.eqv]at D;have a:=a.XS;refine sr<|yy (Y0.hU jY rfl D) rfl ?_
 refine Ο ?_;refine WC.block ?_;refine WC.gZ (X:=Nat×σ×Mem) (λe=>match e with|⟨k,_,_⟩=>[(0,.func (.yield W) #[] #[]),(5,.slice p l.length c),(6,.int .i64 (l.length:Int)),(7,.int .i64 (k:Int))])
  (λe=>match e with|⟨k,s,G⟩=>k<=l.length/\Mem.le G0 G/\I k s/\pre s G)
  (λe=>match e with|⟨_,s,G⟩=>St w0 G0 G (K s)) (λe=>l.length-e.1) ⟨0,V,G0⟩ (fc rfl (fc rfl (fc rfl (fc rfl fn)))) ⟨Ĝ _,Mem.le_refl _,t,m⟩ (λw A=>A) ?_
 rintro⟨k,s,G⟩ ⟨Z,d,C,hp⟩;refine é ?_;refine WC.eC (p:=(k:Int)<(l.length:Int)) rfl (λO=>?_) (λO=>?_)
 .have f:k<l.length:=ŉ;have H:(0:Int)<=(k:Int)/\l[(k:Int).toNat]?=some l[k]:=⟨ŉ,by simp[f]⟩;obtain⟨q,S,T,U⟩:=AtK.sl (Η.at a H);have P:i64.wrap ((k:Int)+1)=((k+1:Nat):Int):=by rw[ĩ];omega
  refine WC.skip<|WE.then<|WC.seq<|WC.block<|sr<|yy (Y0.lS underlying46 kW (a.mono d) rfl rfl H) rfl<|yy (Y0.hU mH rfl (d _ _ _ T)) rfl<|sg rfl rfl<|nx<|WC.seq<|WC.qp<|l9.y0 Zh (Y0.move rfl) (λc h=>by cases h) rfl<|l9.y0 Zh (Y0.move rfl) (λc h=>by cases h) rfl ?_
  refine l9.vR (R:=[]) Zh rfl rfl rfl (L k _ s f C) ⟨hp,l[k],by simp[f],q,S,rfl,U.mono d⟩ B (λi hi=>by cases hi) (λb J Y j g=>?_);obtain⟨rfl,s',r,rfl,y⟩:=g;refine l9.y0 Zh (Y0.not rfl) (λc h=>by cases h) rfl<|l9.nil<|WE.then<|WC.pQ rfl<|WC.skip ?_
  refine WE.inBlock<|WE.then<|WC.region<|yy (Y0.add rfl rfl) rfl ?_
  rw[P];exact mv rfl rfl<|WL.nil<|WE.gH (x:=(k,s,G)) (k+1,s',J) ⟨ŉ,Mem.le_trans d j,r,y⟩ (fc rfl (fc rfl (fc rfl (fc rfl fn)))) (λw A=>A) (by show l.length-(k+1)<l.length-k;omega)
 have:k=l.length:=ŉ;subst this;refine WC.exit<|WE.å<|WE.å<|WE.Í<|WE.je ?_
 exact WE.iK rfl ⟨rfl,s,C,rfl,hp⟩
theorem ZwS(b:Nat)(l:Ŀ (Ŀ Za))(p:ŀ Addr)(n c:Nat)(hl:l.length<=1000000):Cl 258 #[.slice none 0 0,.func (.func 199) #[] #[.pointer (some ⟨b,0,none⟩)]] [] (λG=>G b 0=some (.slice p n c)/\Η RP G (.slice p n c) l)
  (λG L v=>∃q E tk,L=[(7000,tk)]/\v=.slice q l.length E/\Ε RP 50 G v l tk):=by
 refine eL.sx (args:=[_,_]) (N:=13) func258 rfl rfl rfl (λw0 G0 H B=>?_)
 refine é ?_
 intro b2
 refine WC.n5 (t:=7) (f:=199) rfl Iu (λac d Z r ha S O U P has J=>?_)
 let m:Nat×ŀ Addr×Nat×ŀ Ow->Lo:=λs=>[(8001,some ⟨Z,.loop r,0⟩),(8002,some ⟨d,.deferred (some []),0⟩),(2,some ⟨b2,.cells #[.slice s.2.1 s.1 s.2.2.1] 46 (0,0),0⟩),(7000,s.2.2.2)]
 refine⟨_,m (0,none,0,none),_,lc rfl (lc rfl (lc rfl (lw ln))),λi _=>by rw[H];rfl,
  Zvr b l p n c Z (λj s=>s.1=j/\j<=l.length) m (λs G=>Ε RP 50 G (.slice s.2.1 s.1 s.2.2.1) (l.take s.1) s.2.2.2) (λs i hi=>?_) (λG G' s y h=>h.mono y) (λj u s hj hI=>?_) _ ⟨rfl,Ĝ _⟩ ?_,⟨B,Ε.nil⟩,λG' L' v y g=>?_⟩
 .simp only[m]
  rw[Lo.Zp,ā ŉ,Lo.Zp,ā ŉ,Lo.Zp,ā ŉ,Lo.Zp,ā ŉ];rfl
 .obtain⟨k,q,E,tk⟩:=s
  obtain⟨rfl,hk⟩:=hI
  dsimp only at hj hk⊢
  refine qG.To (N:=13) rfl S O P (by rw[U];exact ha.round ĳ) (λad G aa hG=>?_)
  obtain⟨a,x,V,up,uc,rfl,ab⟩:=hG
  refine GC has ?_
  refine ga.region RC rfl (sg rfl rfl<|WL.nil (λa1 v1 I Q=>⟨_,_,_,I,Q,rfl,?_⟩))
  refine GC J ?_
  refine ga.block<|ga.region (xn xr) rfl<|yy (Y0.Ô 2 jY rfl rfl rfl) rfl<|mv rfl rfl ?_
  refine é ?_
  intro _ _ A h1
  have C:(l.take k).length=k:=by rw[Č];omega
  have T:l.take k++[x]=l.take (k+1):=by obtain⟨K,rfl⟩:=Ċ.1 V;exact(č K).symm
  refine WL.iW (r:=RP) (e:=50) (xs:=l.take k) (ys:=[x]) 7000 Zh rfl underlying46 jA rfl ĳ rfl rfl (a.mono A) rfl h1 (by rw[Ā,C];show k+1<=small;simp only[small];omega) (λp2 W D h2=>?_)
  rw[show(l.take k++[x]).length=k+1 by rw[Ā,C];rfl]at h2⊢
  rw[T]at h2
  refine é ?_
  exact λa2 w2 _ R=>⟨_,_,m (k+1,p2,W,D),R,rfl,lc rfl (lc rfl (lc rfl (lc rfl ln))),rfl,(k+1,p2,W,D),⟨rfl,ŉ⟩,rfl,h2⟩
 .intro q Y x V
  simp only[m,Ď,ĝ,ţ]at Y
  rcases Y with rfl|rfl|rfl|rfl<;>cases V<;>rfl
 obtain⟨rfl,⟨k,q,E,tk⟩,⟨rfl,_⟩,rfl,a⟩:=g
 dsimp only at a
 rw[Ĥ]at a
 refine⟨rfl,mO.seq<|mO.region<|yy (Y0.Ô 2 jY rfl rfl rfl) rfl<|sg rfl rfl<|WL.nil<|mO.then<|mO.ret ?_⟩
 refine WE.Dc (rvs:=[.tmp 4]) [(7000,tk)] [.slice q l.length E] rfl rfl rfl (λi rv v F X=>?_) (lc rfl ln) ⟨_,_,_,rfl,rfl,a⟩
 match i with
 |0=>simp at F X;subst F X;rfl
 |i+1=>simp at F
theorem Zvp(xs:Ŀ (Ŀ Za))(hg:xs.all Ó=true)(am:xs.length<=1000000)(p:ŀ Addr)(c n:Nat)(tk:ŀ Ow):Cl 115 #[.slice p n c,.func (.func 84) #[] #[]] [(5000,tk)] (λG=>Ε RP 50 G (.slice p n c) xs tk)
  (λG L v=>∃zk q V,L=[(5000,zk)]/\v=.slice q (gh xs).length V/\Ε RP 50 G (.slice q (gh xs).length V) (gh xs) zk):=by
 refine eL.enter (args:=[_,_]) (N:=66) func115 rfl rfl rfl (λw0 G0 an d=>?_)
 obtain rfl:n=xs.length:=(abF d.eqv).2.1
 refine sr<|sg rfl rfl<|nx<|WC.seq<|sr<|mv rfl rfl<|yy (Y0.mE underlying46 rfl) rfl<|yy (Y0.lss rfl rfl) rfl<|nx ?_
 refine WC.eC (p:=(xs.length:Int)<2) rfl (λhc=>?_) (λhc=>?_)
 .refine Ο ?_
  have e:=RW (xs:=xs) ŉ
  exact WE.jX rfl rfl ⟨tk,p,c,rfl,by rw[e],by rw[e];exact d⟩
 have J:∀{G:Mem}{ys:Ŀ (Ŀ Za)}{zk:ŀ Ow},Ε RP 50 G (.slice p ys.length c) ys zk->∀i (hi:i<ys.length),∃q V,mJ zk (i*1) (.slice q ys[i].length V)/\Η Zk G (.slice q ys[i].length V) ys[i]:=λ{G ys zk} h i hi=>by have:=AtK.sl (Ε.at h (i:=(i:Int)) (x:=ys[i]) ⟨ŉ,by simp[hi]⟩);rw[ē]at this;exact this
 have gp:∀i (hi:i<xs.length),Ó xs[i]=true:=λi hi=>Ć.1 hg _ (ă hi)
 obtain⟨b,rfl⟩:∃b,p=some ⟨b,0,none⟩:=by
  cases tk with
  |none=>obtain⟨rfl,_⟩:=d;simp at hc
  |some y=>obtain⟨cap,cs,rest,Z,_⟩:=d;exact⟨y.b,(abF Z).1⟩
 have R:xs.length<=c:=by
  cases tk with
  |none=>obtain⟨rfl,_⟩:=d;simp at hc
  |some y=>obtain⟨cap,cs,rest,Z,_,_,_,_,_,h7⟩:=d;rw[(abF Z).2.2];exact h7
 refine WC.skip<|WE.then<|WC.seq<|sr<|sg rfl rfl<|nx<|WC.block ?_
 refine WC.gZ (X:=Nat×Mem) (λA=>match A with|⟨k,_⟩=>[(0,.slice (some ⟨b,0,none⟩) xs.length c),(1,.func (.func 84) #[] #[]),(5,.int .i64 (k:Int))])
  (λA=>match A with|⟨k,G⟩=>1<=k/\k<=xs.length/\Mem.le G0 G/\gh (xs.take k)=xs.take k)
  (λA=>match A with|⟨_,G⟩=>St w0 G0 G [(5000,tk)]) (λA=>xs.length-A.1) ⟨1,G0⟩ (fc rfl (fc rfl (fc rfl fn))) ⟨ĉ _,ŉ,Mem.le_refl _,RW (by rw[Č];omega)⟩ (λw H=>H) ?_
 rintro⟨k,G⟩ ⟨Q,Y,a,s⟩
 dsimp only at Q Y a s⊢
 have d:=d.mono a
 refine WC.seq ?_
 refine é ?_
 refine WC.eC (p:=(k:Int)<(xs.length:Int)) rfl (λab=>?_) (λab=>?_)
 .have D:k<xs.length:=ŉ
  have ag:i64.wrap ((k:Int)-1)=((k-1:Nat):Int):=by rw[ĩ];omega
  have ah:i64.wrap ((k:Int)+1)=((k+1:Nat):Int):=by rw[ĩ];omega
  obtain⟨q1,c1,e1,s1⟩:=J d k D
  obtain⟨q2,c2,e2,s2⟩:=J d (k-1) ŉ
  have f:=SM Q D
  refine WC.skip<|WE.then<|WC.seq<|WC.block<|WC.seq ?_
  refine WC.drawn [false,false,false,false,false,false,false,false,false,false] eP İ (λhb=>?_)
  refine cn (λ_ a=>Y0.move rfl)<|cn (λ_ a=>Y0.move rfl)<|cn (λ_ a=>Y0.move rfl)<|cn (λ_ a=>Y0.iX underlying46 kW rfl rfl D)<|cn (λ_ a=>Y0.loadT mH (d.mono a) (key:=5000) rfl rfl (by simpa using e1)) ?_
  refine cn (λ_ a=>Y0.move rfl)<|cn (λ_ a=>Y0.move rfl)<|cn (λ_ a=>Y0.eq (Y0.sub rfl rfl) (đ (Value.int .i64) ag))<|cn (λ_ a=>Y0.iX underlying46 kW rfl rfl (show k-1<xs.length by omega))<|cn (λ_ a=>Y0.loadT mH (d.mono a) (key:=5000) rfl rfl (by simpa using e2)) ?_
  refine γ.na hb<|WL.gT Zh rfl (YC.yh O2 rfl rfl) (Jg _ _ _ _ _ _ _ (Fc (gp k D) (gp (k-1) ŉ))) rfl ⟨s1,s2⟩ ?_
  refine é ?_
  refine WC.eC (p:=ë xs[k] xs[k-1]=0) rfl (λO=>?_) (λO=>?_)
  .rw[ą O,s]at f
   by_cases ad:c=k
   .omega
   refine Ο ?_
   refine yy (Y0.Oq underlying46 kW rfl rfl Y R ad) rfl ?_
   refine Ο ?_
   refine WC.block ?_
   refine WC.gZ (X:=Nat×Ŀ (Ŀ Za)×ŀ Ow×Mem) (λA=>match A with|⟨m,_,_,_⟩=>[(0,.slice (some ⟨b,0,none⟩) xs.length c),(1,.func (.func 84) #[] #[]),(5,.int .i64 ((gh (xs.take (k+m))).length:Int)),(6,.slice (some ⟨b,k*1,none⟩) (xs.length-k) (c-k)),(7,.int .i64 (m:Int))])
    (λA=>match A with|⟨m,ys,zk,G'⟩=>1<=m/\k+m<=xs.length/\Mem.le G G'/\Ε RP 50 G' (.slice (some ⟨b,0,none⟩) xs.length c) ys zk/\ys.length=xs.length/\ys.take (gh (xs.take (k+m))).length=gh (xs.take (k+m))/\(gh (xs.take (k+m))).length<=k+m-1/\∀t,k+m-1<=t->ys[t]?=xs[t]?)
    (λA=>match A with|⟨_,_,zk,G'⟩=>St w0 G0 G' [(5000,zk)]) (λA=>xs.length-(k+A.1)) ⟨1,xs,tk,G⟩ (fc rfl (fc rfl (fc (by rw[f,Č,ż Y];rfl) (fc rfl (fc rfl fn))))) ⟨ĉ _,ŉ,Mem.le_refl _,d,rfl,by rw[f,Č,ż Y],by rw[f,Č];omega,λ_ _=>rfl⟩ (λw H=>H) ?_
   rintro⟨m,ys,zk,G'⟩ ⟨aa,hm,E,l,C,I,S,g⟩
   dsimp only at aa hm E l C I S g⊢
   refine WC.seq<|sr ?_
   refine é ?_
   refine WC.eC (p:=(m:Int)<((xs.length-k:Nat):Int)) rfl (λac=>?_) (λac=>?_)
   .have T:k+m<xs.length:=ŉ
    have ai:i64.wrap ((m:Int)-1)=((m-1:Nat):Int):=by rw[ĩ];omega
    have U:i64.wrap ((m:Int)+1)=((m+1:Nat):Int):=by rw[ĩ];omega
    have K:Ε RP 50 G' (.slice (some ⟨b,0,none⟩) ys.length c) ys zk:=by rw[C];exact l
    have y1:ys[k+m]'ŉ=xs[k+m]:=by have:=g (k+m) ŉ;rw[Ą ŉ,Ą ŉ]at this;exact Ŧ this
    have y2:ys[k+m-1]'ŉ=xs[k+m-1]'ŉ:=by have:=g (k+m-1) ŉ;rw[Ą ŉ,Ą ŉ]at this;exact Ŧ this
    obtain⟨q3,c3,e3,s3⟩:=J K (k+m) ŉ
    obtain⟨q4,c4,e4,s4⟩:=J K (k+m-1) ŉ
    rw[y1]at e3 s3
    rw[y2]at e4 s4
    have a3:mJ zk (k*1+m*1) (.slice q3 xs[k+m].length c3):=by rw[<-ŋ];exact e3
    have a4:mJ zk (k*1+(m-1)*1) (.slice q4 (xs[k+m-1]'ŉ).length c4):=by rw[<-ŋ,show k+(m-1)=k+m-1 by omega];exact e4
    have B:=SM (xs:=xs) (j:=k+m) ŉ T
    refine WC.skip<|WE.then<|WC.seq<|WC.block<|WC.seq ?_
    refine WC.drawn [false,false,false,false,false,false,false,false,false,false] eP İ (λhb=>?_)
    refine cn (λ_ a=>Y0.move rfl)<|cn (λ_ a=>Y0.move rfl)<|cn (λ_ a=>Y0.move rfl)<|cn (λ_ a=>Y0.iX underlying46 kW rfl rfl (show m<xs.length-k by omega))<|cn (λ_ a=>Y0.loadT mH (l.mono a) (key:=5000) rfl rfl a3) ?_
    refine cn (λ_ a=>Y0.move rfl)<|cn (λ_ a=>Y0.move rfl)<|cn (λ_ a=>Y0.eq (Y0.sub rfl rfl) (đ (Value.int .i64) ai))<|cn (λ_ a=>Y0.iX underlying46 kW rfl rfl (show m-1<xs.length-k by omega))<|cn (λ_ a=>Y0.loadT mH (l.mono a) (key:=5000) rfl rfl a4) ?_
    refine γ.na hb<|WL.gT Zh rfl (YC.yh O2 rfl rfl) (Jg _ _ _ _ _ _ _ (Fc (gp (k+m) T) (gp (k+m-1) ŉ))) rfl ⟨s3,s4⟩<|yy (Y0.CV rfl) rfl<|WL.nil<|WE.nx<|WE.then ?_
    refine WC.eC (p:=¬ë xs[k+m] (xs[k+m-1]'ŉ)=0) rfl (λP=>?_) (λP=>?_)
    .rw[ā P]at B
     have F:(gh (xs.take (k+(m+1)))).length=(gh (xs.take (k+m))).length+1:=by rw[<-š,B,Ā];rfl
     have aj:i64.wrap (((gh (xs.take (k+m))).length:Int)+1)=(((gh (xs.take (k+m))).length+1:Nat):Int):=by rw[ĩ];omega
     refine sr<|mv rfl rfl<|mv rfl rfl<|mv rfl rfl<|mv rfl rfl<|yy (Y0.iX underlying46 kW rfl rfl (show m<xs.length-k by omega)) rfl<|yy (Y0.loadT mH l (key:=5000) rfl rfl a3) rfl ?_
     have hz:(0:Int)<=((gh (xs.take (k+m))).length:Int)/\ys[((gh (xs.take (k+m))).length:Int).toNat]?=some (ys[(gh (xs.take (k+m))).length]'ŉ):=⟨ŉ,by rw[ē,Ą]⟩
     refine yy (Y0.oR underlying46 kW l rfl rfl hz) rfl ?_
     refine WL.storeT (r:=RP) (e:=50) (cs':=[.slice q3 xs[k+m].length c3]) (i:=((gh (xs.take (k+m))).length:Int)) (z':=xs[k+m]) 5000 Zh kW rfl l rfl rfl rfl rfl ⟨_,rfl,s3⟩ hz (λak h3=>?_)
     rw[ē]at h3
     refine nx<|WC.region<|mv rfl rfl<|yy (Y0.add rfl rfl) rfl ?_
     rw[aj]
     refine sg rfl rfl<|WL.nil<|WE.inBlock<|WE.then<|WC.region<|mv rfl rfl<|yy (Y0.add rfl rfl) rfl ?_
     rw[U]
     refine sg rfl rfl<|WL.nil<|WE.gH (x:=(m,ys,zk,G')) (m+1,ys.set (gh (xs.take (k+m))).length xs[k+m],ak,G') ⟨ŉ,ŉ,E,h3,by rw[ŗ];exact C,?_,by show(gh (xs.take (k+(m+1)))).length<=k+(m+1)-1;omega,λt ht=>?_⟩ (fc rfl (fc rfl (fc (by rw[F];rfl) (fc rfl (fc rfl fn))))) (λw H=>H.weaken (lc rfl ln)) (by show xs.length-(k+(m+1))<xs.length-(k+m);omega)
     .rw[F,<-š,B,č (by rw[ŗ];omega),List.getElem_set_self]
      rw[List.take_set_of_le (ĉ _),I]
     rw[List.getElem?_set_ne ŉ]
     exact g t ŉ
    rw[ą (abg.1 P)]at B
    refine WC.skip<|WE.inBlock<|WE.then<|WC.region<|mv rfl rfl<|yy (Y0.add rfl rfl) rfl ?_
    rw[U]
    exact sg rfl rfl<|WL.nil<|WE.gH (x:=(m,ys,zk,G')) (m+1,ys,zk,G') ⟨ŉ,ŉ,E,l,C,by rw[<-š,B];exact I,by rw[<-š,B];omega,λt ht=>g t ŉ⟩ (fc rfl (fc rfl (fc (by rw[<-š,B];rfl) (fc rfl (fc rfl fn))))) (λw H=>H) (by show xs.length-(k+(m+1))<xs.length-(k+m);omega)
   have u:k+m=xs.length:=ŉ
   rw[u,Ĥ]at I S
   refine WC.exit<|WE.å<|WE.å<|WE.Í<|WE.then<|sr<|mv rfl rfl<|mv rfl rfl ?_
   rw[<-C]at l
   refine WL.qS (r:=RP) (e:=50) (xs:=ys) (lo:=((gh (xs.take (k+m))).length:Int)) (zx:=([]:Ŀ Za)) 5000 rfl underlying46 jA rfl rfl (Ć.1 rfl) ĳ ⟨_,rfl,Η.nil _ _⟩ l rfl (by rw[C];rfl) rfl (by rw[u,Ĥ];omega) (λv5 W h5=>?_)
   rw[u,Ĥ,ē,I]at h5
   rw[C]at h5
   have al:=TV (xs:=xs)
   refine nx<|sr<|mv rfl rfl<|mv rfl rfl ?_
   refine WL.u5 (r:=RP) (e:=50) (hi:=((gh (xs.take (k+m))).length:Int)) Zh rfl underlying46 kW rfl h5 rfl rfl ⟨ŉ,ŉ,by rw[u,Ĥ,Ā,Ĺ];omega⟩ (λh6=>?_)
   rw[u,Ĥ,ē,abL]at h6
   rw[ē]
   refine sg rfl rfl<|nx<|WC.ret<|WE.gu<|WE.hL<|WE.hL<|WE.gu<|WE.hL ?_
   refine WE.ø (S':=St w0 G0 G' [(5000,W)]) (λw H=>H.weaken (lc rfl ln)) (WE.jX rfl rfl ⟨W,_,c,rfl,?_,h6⟩)
   rw[u,Ĥ]
  rw[ā O,s]at f
  refine WC.skip<|WE.inBlock<|WE.then<|WC.region<|mv rfl rfl<|yy (Y0.add rfl rfl) rfl ?_
  rw[ah]
  exact sg rfl rfl<|WL.nil<|WE.gH (x:=(k,G)) (k+1,G) ⟨ŉ,ŉ,a,by rw[f];exact(č D).symm⟩ (fc rfl (fc rfl (fc rfl fn))) (λw H=>H) (by show xs.length-(k+1)<xs.length-k;omega)
 have ae:k=xs.length:=ŉ
 subst ae
 rw[Ĥ]at s
 refine WC.exit<|WE.å<|WE.å<|WE.Í<|WE.then<|sr<|mv rfl rfl<|sg rfl rfl<|nx<|WC.ret ?_
 exact WE.jX rfl rfl ⟨tk,_,c,rfl,by rw[s],by rw[s];exact d⟩
theorem ZpG(b:Nat)(l:Ŀ (Ŀ Za))(K:l.all Ó=true)(O:l.length<=100)(p:ŀ Addr)(n c:Nat):Cl 112 #[.func (.func 199) #[] #[.pointer (some ⟨b,0,none⟩)],.func (.func 114) #[] #[]] [] (λG=>G b 0=some (.slice p n c)/\Η RP G (.slice p n c) l)
  (λG L v=>∃q m tk,L=[(5000,tk)]/\v=.slice q (jF l).length m/\Ε RP 50 G v (jF l) tk):=by
 refine eL.enter (args:=[_,_]) (N:=12) func112 rfl rfl rfl (λw0 G0 r t=>?_)
 have D:w0.L.zero:=by rw[r];intro p hp;cases hp
 have I:∀i,w0.L.get i=none:=λi=>by rw[r];rfl
 have k:(ZQ l).Α (jF l):=by obtain⟨v,J,h2,h3⟩:=TR O;exact⟨v,J,jF l,⟨⟨rfl,rfl,⟨h2,h3⟩,ŉ,K⟩,rfl⟩,rfl⟩
 have g:(jF l).length=l.length:=(vu l).length_eq
 have d:Cl 197 #[.func (.func 199) #[] #[.pointer (some ⟨b,0,none⟩)]] [] (λG=>G b 0=some (.slice p n c)/\Η RP G (.slice p n c) l)
   (λG L v=>∃q m tk,L=[(7000,tk)]/\v=.slice q l.length m/\Ε RP 50 G v l tk):=by
  refine eL.enter (args:=[_]) (N:=5) func197 rfl rfl rfl (λw1 E y h=>?_)
  have A:w1.L.zero:=by rw[y];intro p hp;cases hp
  refine sr<|sg rfl rfl<|nx<|sr<|mv rfl rfl ?_
  refine WL.kf Zh rfl (YC.of IJ rfl) (ZwS b l p n c ŉ) rfl h (Lo.Zw _) A (λv B H s a=>?_)
  obtain⟨q,m,tk,rfl,rfl,e⟩:=a
  refine sg rfl rfl<|nx<|WC.ret ?_
  exact WE.ø (S':=St w1 E B [(7000,tk)]) (λw u=>u.weaken (lc rfl ln)) (WE.jX rfl rfl ⟨q,m,tk,rfl,rfl,e⟩)
 refine sr<|sg rfl rfl<|nx<|sr<|mv rfl rfl ?_
 refine WL.kf Zh rfl (YC.of Is rfl) d rfl t (Lo.Zw _) D (λv B H s a=>?_)
 obtain⟨q,m,tk,rfl,rfl,e⟩:=a
 refine é ?_
 refine WL.ø (λw u=>u.Þ (i:=7000) (j:=5000) rfl (I _)) ?_
 refine WL.kf Zh rfl (YC.of It rfl) (Z2 _ _ _ _ _ _ k) rfl e (lc rfl ln) D (λv F P C a=>?_)
 obtain⟨x,rfl,rfl,f⟩:=a
 refine nx<|sr<|mv rfl rfl<|sg rfl rfl<|nx<|WC.ret ?_
 rw[<-g]at f
 refine WE.ø (S':=St w0 G0 F [(5000,x)]) (λw u=>u.weaken (lc rfl ln)) (WE.jX rfl rfl ⟨q,m,x,rfl,?_,?_⟩)
 .rw[g]
 rw[<-g];exact f
theorem PA(l:Ŀ (Ŀ Za))(p:ŀ Addr)(c:Nat)(r:Ŀ (Ŀ Za))(hr:(Eb l).Α r):Cr 60 #[.slice p l.length c] (λG=>Η RP G (.slice p l.length c) l) (λG v=>∃q j,v=.slice q r.length j/\Η RP G (.slice q r.length j) r):=by
 obtain⟨⟨C,n⟩,hr⟩:=hr;replace hr:_=r:=hr;subst hr;have A:∀{w0:Bs},w0.L=[]->w0.L.zero:=λh=>by rw[h];intro p hp;cases hp
 have D:(jF l).length=l.length:=(vu l).length_eq;have k:(jF l).all Ó=true:=Ć.2 λx E=>Ć.1 n x ((vu l).mem_iff.1 E);refine iM.enter (args:=[_]) (N:=9) func60 rfl rfl rfl (λw0 G0 d m=>?_);refine sr<|sg rfl rfl<|nx<|sr<|mv rfl rfl ?_
 refine WL.call Zh rfl (YC.of H3 rfl) (ZwU l p l.length c) rfl m (λv J s a=>?_);obtain⟨b,rfl,B,g⟩:=a;refine WL.kf Zh rfl (YC.of H2 rfl) (ZpG b l n C p l.length c) rfl ⟨B,g⟩ (Lo.Zw _) (A d) (λv K P t a=>?_);obtain⟨q,j,tk,rfl,rfl,f⟩:=a;refine sg rfl rfl ?_;refine é ?_;refine WL.kf Zh rfl (YC.of H5 rfl) (Zvp (jF l) k ŉ q j _ tk) rfl f (lc rfl ln) (A d) (λv L Q u a=>?_);obtain⟨H,R,F,rfl,rfl,e⟩:=a;refine sg rfl rfl<|nx<|WC.ret ?_
 refine WE.jP 5000 e rfl (by rw[d];rfl) (λI O y i _=>?_);exact WE.jX rfl rfl ⟨_,_,rfl,i⟩
instance eG'{e r}:SpcM ((Ar e)) r (∀{c d},Cr 186 #[δ c e d] (λG=>su G c d e) (fS (Rp.int .u32) r)):=.mk λhr {c d}=>by
 refine Ο ?_;intro _ _ i hr h;refine oA hr λf hr=>jU (r:=(Rp.int .u32)) 2004 z z F' vX z ĳ z z (X' (Rp.int .u32) _) z (by rw[i];rfl) la h f λp n l o k j m=>Μ z<|m' ?_
 obtain rfl:_=r:=hr;exact j' z z ⟨_,_,z,j⟩
instance gr'{k r}:SpcM ((J1 k)) r (∀{i l},Cr 188 #[δ i k l] (λG=>su G i l k) (λG v=>v=.int .u64 r)):=.mk λhr {i l}=>by refine Ο ?_;intro q h _ hr _;refine WC.mA hr [0,6] [] [] [] (λ(⟨g,d⟩:Int×Int)=>⟨(g,d),[(3,.int .u64 g),(7,i' d)],tr,[]⟩) (λ(n:Int)=>⟨n,[(3,.int .u64 n)],tr,[]⟩) ⟨0,0⟩
instance gB'{c k r}:SpcM ((Pd c k)) r (∀{x A},Cr 253 #[δ x c A,.int .u64 k] (λG=>su G x A c) (λG v=>∃u s,v=.tuple #[δ u r.1 s,.int .u64 r.2]/\su G u s r.1)):=.mk λhr {x A}=>by
 refine Ο ?_;intro U q _ V D K W hr _;refine WC.mB hr [0,1,6] [] [6] [] (λ(⟨C,h,d,p⟩:(Ŀ Int)×ŀ Ow×Int×Int)=>⟨(C,d,p),[(7,.int .u64 d),(8,i' p)],λg=>Ε (Rp.int .u32) 248 g (.slice D (c.length:Int).toNat ((c.length:Int).toNat)) C h,[(4012,h)]⟩) (λ(⟨I,j,t⟩:(Ŀ Int)×ŀ Ow×Int)=>⟨(I,t),[(7,.int .u64 t)],λm=>Ε (Rp.int .u32) 248 m (.slice D (c.length:Int).toNat ((c.length:Int).toNat)) I j,[(4012,j)]⟩) ⟨(List.replicate (c.length:Int).toNat 0),K,0,i64.wrap ((c.length:Int)-1)⟩ ?_;rintro m ⟨I,j,t⟩ hr Z T;refine b'<|sr<|η z<|pS (r:=(Rp.int .u32)) (e:=248) 4012 T z (by rw[V];rfl) (λE y i B a=>?_)
 refine oE hr λF M hr=>gw z z (x' qE z) (zG.h M) (by rw[qT B]) ((rF B)) (λl H f o=>?_);obtain⟨af,n,rfl,J⟩:=o;refine η z<|dE z<|Μ z<|m' ?_
 obtain rfl:_=r:=hr;exact ur z z z ⟨_,_,z,J⟩
instance gg'{f g r}:SpcM ((JL f g)) r (∀{j h i k},Cr 189 #[δ j f h,δ i g k] (λG=>su G j h f/\su G i k g) (λG v=>∃u t s x,v=.tuple #[δ u r.1 t,δ s r.2 x]/\su G u t r.1/\su G s x r.2)):=.mk λhr {j h i k}=>Ι
instance ff'{a1 a r}:SpcM ((xl a1 a)) r (∀{H D K I},Cr 103 #[.agg ((θ a1 H D)).toArray,.agg ((θ a K I)).toArray] (λG=>su G H D a1.χ/\su G K I a.χ) (Ï r)):=.mk λhr {H D K I}=>by
 refine J' (args:=[_,_]) (N:=53) func103 z z z (λw0 G0 bI aY=>?_);obtain⟨au,ar⟩:=aY;refine sr<|jO 2 z z z λb2=>jO 3 z z z λb3=>W' 4 z vP z λt=>nx<|o'<|fN [ff,ff,ff,ff,ff,ff] eP İ λhb=>cn (λ_ g=>aI' z)<|cn (λ_ g=>n' 2 bo' z z z)<|oE hr λQ aM hr=>qK (post:=fS (Rp.int .u32) Q) (λ_=>z) (λ_ _=>x' qE z) (zG.h aM) z (λG' g=>(au.mono g)) (λv Z G2 g h=>?_) ?_
 .obtain⟨ax,ai,rfl,B⟩:=h;exact⟨_,_,z,B.mono g⟩
 refine oE hr λC aN hr=>mo (f:=186) (φ:=fS (Rp.int .u32) C) (λ_=>z) (λv Z G2 g h=>?_) (λu G' g hu=>?_) ?_
 .obtain⟨O,i,rfl,R⟩:=h;exact⟨_,_,z,R.mono g⟩
 .obtain⟨⟨ax,ai,aA,B⟩,_⟩:=(show(fS (Rp.int .u32) Q) G'.m (u 13)/\True from hu);exact⟨_,_,_,λ_=>x' Ip z,eG'.h aN,(by simp only[aA]<;>rfl),B⟩
 refine Ο ?_;intro _ _ O i R _ _ _ _ _ _ az _ _ _ ba al aD aT aR aP hr _;refine WC.mC hr [4] [] [4] [] (λ(⟨P,J,E,o,q,p,k,e,c⟩:(Ŀ Int)×ŀ Addr×Nat×(Ŀ Int)×ŀ Addr×Nat×Zg×ŀ Addr×Nat)=>⟨(P,o,k),[(5,δ J P E),(6,δ q o p)],λl=>su l J E P/\su l q p o/\su l e c k.χ,[(4,ü t (θ k e c) 118)]⟩) (λ(⟨d,F,U,V,m,n⟩:(Ŀ Int)×ŀ Addr×Nat×Zg×ŀ Addr×Nat)=>⟨(.inr (d,V)),[(5,δ F d U)],λL=>su L F U d/\su L m n V.χ,[(4,ü t (θ V m n) 118)]⟩) ⟨C,O,i,ba,aT,aR,(Zg.mk false []),none,0⟩ ?_;rintro _ l ⟨P,J,E,o,q,p,k,e,c⟩ T ⟨S,s,y⟩ hr;refine o' ?_;refine é ?_;intro hr;refine I' hr z (λbi hr=>?_) (λbi hr=>?_)
 .refine q'<|b'<|Y'<|o'<|WC.nB hr [4,5,6] [4] (λ(A:Bool)=>⟨[(29,.bool A)],JK P o k A,tr,[]⟩) ?_
  intro x A hr j _;refine Ο ?_;intro _ bf _ a9 hr _;refine WC.mA hr [4] [4] [4] [4] (λ(⟨X,Y⟩:Int×Int)=>⟨(X,Y),[(7,.int .u64 X),(8,.int .u64 Y)],tr,[]⟩) (λ(W:Int)=>⟨W,[(7,.int .u64 W)],tr,[]⟩) ⟨bf,a9⟩
 exact Ι
instance gs'{g r}:SpcM ((JI g)) r (∀{e d},Cr 250 #[.agg ((θ g e d)).toArray] (λG=>su G e d g.χ) (λG v=>v=.bool r)):=.mk λhr {e d}=>Ι
instance ex'{g r}:SpcM ((Z0 g)) r (∀{f e d c},Cr 181 #[.agg ((Υ g f e d c)).toArray] (λG=>su G f e g.num.χ/\su G d c g.den.χ) (λG v=>v=.bool r)):=.mk λhr {f e d c}=>Ι
instance gh'{i r}:SpcM ((Ef i)) r (Cr 182 #[.agg (Ø i).toArray] (λG=>True) (λG v=>v=.bool r)):=.mk λhr=>by refine Ο ?_;intro k f _ _ hr _;refine WC.mA hr [5] [] [] [] (λ(c:Int)=>⟨c,[(6,i' c)],tr,[]⟩) (λ(_:Unit)=>⟨(.inr ()),[],tr,[]⟩) 0
instance eL'{o r}:SpcM ((Ap o)) r (∀{q p},Cr 100 #[δ q o p] (λG=>sl c' G q p o) (λG v=>v=.bool r)):=.mk λhr {q p}=>by refine Ο ?_;intro H y _ hr _;refine WC.mA hr [0,5,6] [] [] [] (λ(l:Int)=>⟨l,[(7,i' l)],tr,[]⟩) (λ(_:Unit)=>⟨(.inr ()),[],tr,[]⟩) 0
instance gP'{j r}:SpcM ((Jv j)) r (Cr 183 #[.agg (Ø j).toArray] (λG=>True) (λG v=>v=.int .u8 r)):=.mk λhr=>by refine Ο ?_;intro n g _ _ hr _;refine WC.mA hr [6] [] [] [] (λ(⟨f,c⟩:Int×Int)=>⟨(f,c),[(3,.int .u8 f),(7,i' c)],tr,[]⟩) (λ(k:Int)=>⟨k,[(3,.int .u8 k)],tr,[]⟩) ⟨0,0⟩
instance fc'{o r}:SpcM ((Av o)) r (∀{q p},Cr 101 #[δ q o p] (λG=>sl c' G q p o) (λG v=>v=.int .u8 r)):=.mk λhr {q p}=>by refine Ο ?_;intro E n _ hr _;refine WC.mA hr [6,7] [] [] [] (λ(⟨m,l⟩:Int×Int)=>⟨(m,l),[(3,.int .u8 m),(8,i' l)],tr,[]⟩) (λ(A:Int)=>⟨A,[(3,.int .u8 A)],tr,[]⟩) ⟨0,0⟩
instance kE{i r}:SpcM ((Jq i)) r (Cr 111 #[.agg (Ø i).toArray] (λG=>True) (λG v=>v=i' r)):=.mk λhr=>by refine Ο ?_;intro l h _ _ hr _;refine WC.mA hr [6] [] [] [] (λ(⟨f,c⟩:Int×Int)=>⟨(f,c),[(3,i' f),(7,i' c)],tr,[]⟩) (λ(k:Int)=>⟨k,[(3,i' k)],tr,[]⟩) ⟨0,0⟩
instance du'{o r}:SpcM ((wZ o)) r (∀{q p},Cr 59 #[δ q o p] (λG=>sl c' G q p o) (λG v=>v=i' r)):=.mk λhr {q p}=>by refine Ο ?_;intro E n _ hr _;refine WC.mA hr [6,7] [] [] [] (λ(⟨m,l⟩:Int×Int)=>⟨(m,l),[(3,i' m),(8,i' l)],tr,[]⟩) (λ(B:Int)=>⟨B,[(3,i' B)],tr,[]⟩) ⟨(-1),0⟩
instance cN'{h p x r}:SpcM ((ç h p x)) r (∀{g f d e k j},Cr 221 #[.agg ((ñ h.k g f d e)).toArray,δ k p j,i' x] (λG=>sq G g f h.k.eqs/\sq G d e h.k.ε/\sl c' G k j p) (λG v=>v=.bool r)):=.mk λhr {g f d e k j}=>Ι
instance fi'{C B r}:SpcM ((Ay C B)) r (∀{d c f e},Cr 104 #[.agg ((θ C d c)).toArray,.agg ((θ B f e)).toArray] (λG=>su G d c C.χ/\su G f e B.χ) (λG v=>∃k l j h,v=.tuple #[.agg ((θ r.1 k l)).toArray,.agg ((θ r.2.1 j h)).toArray,i' r.2.2]/\su G k l r.1.χ/\su G j h r.2.1.χ)):=.mk λhr {d c f e}=>Ι
instance M4{q p r}:SpcM ((Aw q p)) r (∀{e c f d},Cr 194 #[.agg ((θ q e c)).toArray,.agg ((θ p f d)).toArray] (λG=>su G e c q.χ/\su G f d p.χ) (er r)):=.mk λhr {e c f d}=>Ι
instance hR'{v t r}:SpcM ((Eu v t)) r (∀{h f j g},Cr 108 #[.agg ((θ v h f)).toArray,.agg ((θ t j g)).toArray] (λG=>su G h f v.χ/\su G j g t.χ) (iA r)):=.mk λhr {h f j g}=>Ι
instance hS'{q k r}:SpcM ((JU q k)) r (Cr 195 #[.agg (Ø q).toArray,.agg (Ø k).toArray] (λG=>True) (λG v=>v=.tuple #[.agg (Ø r.1).toArray,i' r.2])):=.mk λhr=>by refine Ο ?_;intro A l _ m t n hr _;refine WC.mA hr [2,3,4] [3,4] [2,4] [4] (λ(⟨c,d⟩:Int×(Fin 8->Int))=>⟨(c,d),[(7,i' c)],tr,[(2,ü m (Ø d) 145)]⟩) (λ(e:(Fin 8->Int))=>⟨e,[],tr,[(2,ü m (Ø e) 145)]⟩) ⟨0,q⟩
instance fD'{K J r}:SpcM ((Z9 K J)) r (∀{t C x D s A y B},Cr 196 #[.agg ((Υ K t C x D)).toArray,.agg ((Υ J s A y B)).toArray] (λG=>su G t C K.num.χ/\su G x D K.den.χ/\su G s A J.num.χ/\su G y B J.den.χ) (er r)):=.mk λhr {t C x D s A y B}=>by
 refine J' (args:=[_,_]) (N:=30) func196 z z z (λw0 G0 aH aw=>?_);obtain⟨T,W,U,V⟩:=aw;refine sr<|jO 2 z z z λb2=>jO 3 z z z λb3=>W' 4 z rE z λb4=>nr<|Γ (xO z)<|Γ (R' ((θ K.num t C)).toArray 2 mP z z z (jh ([]) ((θ K.num t C)) ((θ K.den x D))))<|Γ (BH z)<|Γ (R' ((θ J.den y B)).toArray 3 mP z z z (jh ((θ J.num s A)) ((θ J.den y B)) ([])))<|oE hr λq ar hr=>gw z z (x' wO z) (M4.h ar) z (⟨T,V⟩) (λaE aJ aa ac=>?_)
 obtain⟨o,n,l,m,rfl,P,O⟩:=ac;refine W' 5 z rE z λb5=>fY 5 ke z<|nr<|Γ (xO z)<|Γ (R' ((θ J.num s A)).toArray 3 mP z z z (jh ([]) ((θ J.num s A)) ((θ J.den y B))))<|Γ (BH z)<|Γ (R' ((θ K.den x D)).toArray 2 mP z z z (jh ((θ K.num t C)) ((θ K.den x D)) ([])))<|oE hr λp au hr=>gw z z (x' wO z) (M4.h au) z (⟨(U.mono aa),(W.mono aa)⟩) (λaD aG Z ah=>?_)
 obtain⟨c,j,g,k,rfl,R,Q⟩:=ah;refine W' 6 z rE z λb6=>fY 6 ke z<|nx<|o'<|fN [ff,ff,ff,ff,ff,ff,ff,ff,ff,ff,ff] eP İ λhb=>cn (λ_ E=>xO z)<|cn (λ_ E=>R' ((θ q.num o n)).toArray 5 mP z z z (jh ([]) ((θ q.num o n)) ((θ q.den l m))))<|cn (λ_ E=>xO z) ?_
 refine é ?_;intro hr;refine tN (r:=nJ) (e:=118) ([q.num,p.num]:Ŀ Zg) (λ_=>z) z ĳ (λu G' E hu=>?_) ?_
 .exact⟨#[(0,.agg ((θ q.num o n)).toArray),(1,.agg ((θ p.num c j)).toArray)],(θ q.num o n)++((θ p.num c j)++([])),z,z,λ_=>by kernel_rfl,⟨(θ q.num o n),(θ p.num c j)++([]),z,⟨[.bool q.num.neg],[δ o q.num.χ n],z,z,⟨_,z,((P.mono Z).mono E)⟩⟩,⟨(θ p.num c j),[],z,⟨[.bool p.num.neg],[δ c p.num.χ j],z,z,⟨_,z,(R.mono E)⟩⟩,z⟩⟩⟩
 refine oE hr λS ap hr=>mo (f:=229) (φ:=Ï S) (λ_=>z) (λv G1 G2 E h=>?_) (λu G' E hu=>?_) ?_
 .obtain⟨H,I,rfl,F⟩:=h;exact⟨_,_,z,F.mono E⟩
 .obtain⟨⟨Y,X,aj,al⟩,_⟩:=(show(λG v=>∃Y X,v=.slice Y 2 2/\jy nJ G (.slice Y 2 2) X [q.num,p.num]) G'.m (u 21)/\True from hu);exact⟨_,_,_,λ_=>x' ox z,xT.h ap,(by simp only[aj]<;>rfl),al⟩
 refine Ο ?_;intro hr;refine tN (r:=nJ) (e:=118) ([q.den,p.den]:Ŀ Zg) (λ_=>z) z ĳ (λu G' E hu=>?_) ?_
 .exact⟨#[(0,.agg ((θ q.den l m)).toArray),(1,.agg ((θ p.den g k)).toArray)],(θ q.den l m)++((θ p.den g k)++([])),z,z,λ_=>by kernel_rfl,⟨(θ q.den l m),(θ p.den g k)++([]),z,⟨[.bool q.den.neg],[δ l q.den.χ m],z,z,⟨_,z,((O.mono Z).mono E)⟩⟩,⟨(θ p.den g k),[],z,⟨[.bool p.den.neg],[δ g p.den.χ k],z,z,⟨_,z,(Q.mono E)⟩⟩,z⟩⟩⟩
 refine zO (d:=27) (post:=λG v=>∃p2 am,v=.slice p2 2 2/\jy nJ G (.slice p2 2 2) am [q.den,p.den]) (d':=22) (post':=Ï S) (d'':=21) (post'':=λG v=>∃Y X,v=.slice Y 2 2/\jy nJ G (.slice Y 2 2) X [q.num,p.num]) (λaA aC aB aI ay ae ad ag=>?_);obtain⟨p2,am,rfl,ax⟩:=ae;obtain⟨H,I,rfl,F⟩:=ad;obtain⟨Y,X,rfl,al⟩:=ag;refine oE hr λa aq hr=>gw z z (x' ox z) (xT.h aq) z (ax) (λaz aF ak ab=>?_);obtain⟨L,M,rfl,af⟩:=ab;refine Γ (ma (vs:=#[(0,.agg ((θ S H I)).toArray),(1,.agg ((θ a L M)).toArray)]) (v:=.agg ([.bool S.neg,δ H S.χ I,.bool a.neg,δ L a.χ M]).toArray) z z (λ_=>İ))<|fY 4 ke z<|t'<|Κ<|b'<|m' ?_
 obtain rfl:_=r:=hr;exact j' z (kL (i:=4) mn z z z) ⟨_,_,_,_,z,(F.mono ak),af⟩
instance gQ'{a k p1 r}:SpcM ((Jw a k p1)) r (∀{A C y D d f},Cr 109 #[.agg ((Υ a A C y D)).toArray,.agg (Ø k).toArray,δ d p1 f] (λG=>su G A C a.num.χ/\su G y D a.den.χ/\sl c' G d f p1) (iB c' r)):=.mk λhr {A C y D d f}=>by
 refine Ο ?_;intro w0 G0 ac Z _ _ _ _ p s _ _ hr _;refine oA hr λv hr=>WL.wj (r:=c') (e:=147) (n:=(p1.length:Int)) 4018 z z Q' lf z ĳ z z v λp2 N aY K=>pS (r:=c') (e:=147) 4018 K z (by rw[Z];rfl) λu g I ay ao=>Μ z<|o'<|sr<|η z<|Γ (P' Q' (ac.mono I) z)<|η z<|nx<|nG (X:=(Ŀ Za)×ŀ Addr×Nat×ŀ Ow×Int×Mem) hr (λ⟨M,S,R,P,Q,T⟩=>⟨(M,Q),[(3,iJ p),(4,iJ s),(8,δ S M R),(19,δ d p1 f),(20,i' (p1.length:Int)),(21,i' Q)],Mem.le g T/\sl c' T S R M/\Tok 12 147 (δ S M R) M.length P,St w0 G0 T [(3,ü p (Υ a A C y D) 120),(4,ü s (Ø k) 145),(1008,P)]⟩) (λ(⟨U,Y,W,V,c⟩:(Ŀ Za)×ŀ Addr×Nat×ŀ Ow×Mem)=>⟨(.inr U),[(8,δ Y U W)],Mem.le g c/\sl c' c Y W U/\Tok 12 147 (δ Y U W) U.length V,St w0 G0 c [(1008,V)]⟩) ⟨([]:Ŀ Za),p2,N,u,0,g⟩ z (Ç z) ⟨mr,ay,ao⟩ ?_ ?_ ?_
 .intro w h;have h:=h.Þ (i:=4018) (j:=1008) z (by rw[Z];rfl);exact h.weaken (lc z (lc z (lc z ln)))
 .rintro _ ⟨M,S,R,P,Q,T⟩ ⟨F,aj,aa⟩ hr;refine sr<|ku z<|nx<|o'<|I' hr z (λE hr=>?_) (λE hr=>?_)
  .refine é ?_;intro _ _ _ _ _ _ _ _ _ _ _ _ _ _ _ _ H _ hr _;refine o'<|sr<|η z<|Γ (pI z z)<|nx<|I' hr z (λL hr=>?_) (λL hr=>?_)
   .exact Ι
   refine q'<|b'<|fN [tt,ff,ff,ff,ff,ff] eP İ λhb=>uA z (k' z) ?_
   refine é ?_;intro q _ m _ _ _ _ _ _ _ _ l J hr _;refine oA hr λar hr=>jU (r:=c') 1008 z z Q' lf z ĳ z z (aj.mono (mx m l)) z (by rw[Z];rfl) aa J ar λp4 B t O an x aq=>dE z<|t'<|Κ<|E'<|b'<|w'<|iT z<|η z<|t'<|N' ⟨(M++[(Za.mk q H.1)]),p4,B,t,i64.wrap (Q+1),O⟩ hr ⟨(mx (mx (mx F m) l) an),x,aq⟩ (Ç z) (w3 z z z)
  exact Ι
 rintro⟨U,Y,W,V,c⟩ ⟨hr,aU,aA,aT⟩;exact Ι
instance fg'{t r}:SpcM ((yH t)) r (∀{f e},Cr 107 #[.agg ((θ t f e)).toArray] (λG=>su G f e t.χ) (Ï r)):=.mk λhr {f e}=>Ι
instance fV'{k r}:SpcM ((AD k)) r (∀{p B},Cr 56 #[δ p k B] (λG=>sl c' G p B k) (fS c' r)):=.mk λhr {p B}=>by refine Ο ?_;intro w0 G0 _ _ _ v _ _ _ g j A u x i f h C d e hr _;refine WC.mA hr [0,3,4,20,21] [] [0,3,4] [] (λ(⟨K,a,q,t,Z,y,l⟩:Int×Zg×ŀ Addr×Nat×Zg×ŀ Addr×Nat)=>⟨(K,a,Z),[(22,i' K)],λL=>su L q t a.χ/\su L y l Z.χ,[(3,ü d (θ a q t) 118),(4,ü e (θ Z y l) 118)]⟩) (λ(⟨R,m,n,c,s,o⟩:Zg×ŀ Addr×Nat×Zg×ŀ Addr×Nat)=>⟨(R,c),[],λO=>su O m n R.χ/\su O s o c.χ,[(3,ü d (θ R m n) 118),(4,ü e (θ c s o) 118)]⟩) ⟨0,v,g,j,u,f,h⟩
instance dU'{l u j r}:SpcM ((Á l u j)) r (∀{h g d e s q},Cr 210 #[.agg ((ñ l.k h g d e)).toArray,δ s u q,i' j] (λG=>sq G h g l.k.eqs/\sq G d e l.k.ε/\sq G s q u) (λG v=>v=.bool r)):=.mk λhr {h g d e s q}=>by refine Ο ?_;intro S x _ _ _ _ _ L _ hr k;refine WC.mA hr [1,2,3,12,13] [3] [] [] (λ(i:Int)=>⟨i,[(14,i' i)],tr,[]⟩) (λ(_:Unit)=>⟨(.inr ()),[],tr,[]⟩) 0
instance ec'{i r}:SpcM ((Ä i)) r (∀{h g e f},Cr 125 #[.agg ((ñ i.k h g e f)).toArray] (λG=>sq G h g i.k.eqs/\sq G e f i.k.ε) (λG v=>v=.bool r)):=.mk λhr {h g e f}=>Ι
theorem P1(g:Zb)(e:ŀ Addr)(f:Nat)(d:ŀ Addr)(c:Nat)(r:Bool)(hr:(vk g).Α r):Cr 67 #[.agg ((ñ g e f d c)).toArray] (λG=>sq G e f g.eqs/\sq G d c g.ε) (λG v=>v=.bool r):=by refine Ο ?_;intro _ _ _ _ _ _ _ _;refine Γ (ma (vs:=#[(0,.agg ((ñ g e f d c)).toArray)]) (v:=.agg ((ñ g e f d c)).toArray) z z (λ_=>İ)) ?_;exact Ι
instance {g:Zb}{r:Bool}:SpcM ((vk g)) r (∀{e:ŀ Addr}{f:Nat}{d:ŀ Addr}{c:Nat},Cr 67 #[.agg ((ñ g e f d c)).toArray] (λG=>sq G e f g.eqs/\sq G d c g.ε) (λG v=>v=.bool r)):=⟨λa {e f d c}=>P1 _ e f d c _ a⟩
def hC(a:Nat)(s:ŀ Addr×Nat×ŀ Ow)(n:Nat):Lo:=[(6000,some ⟨a,.cells #[.slice s.1 n s.2.1] 212 (0,0),0⟩),(5000,s.2.2)]
abbrev rh(G:Mem)(s:ŀ Addr×Nat×ŀ Ow)(xs:Ŀ Int):Prop:=ru G (.slice s.1 xs.length s.2.1) xs s.2.2
def oz(f:Nat)(args:Nat->Ŀ Value)(pre:Mem->Prop)(a:Ŀ Int):Prop:=∀(c:Nat) (xs:Ŀ Int) (s:ŀ Addr×Nat×ŀ Ow),(xs++a).length<=1000000->
 Cl f (Value.pointer (some ⟨c,0,none⟩)::args c).toArray (hC c s xs.length) (λG=>rh G s xs/\pre G) (λG L v=>v=.tuple #[]/\∃s',L=hC c s' (xs++a).length/\rh G s' (xs++a))
section
variable {N:Nat}{Q:ï}{fr:Fr}{ops:Array Oper}{l:Ŀ Oper}{dst:ŀ Nat}{ty:TypeId}{pos:String}{af:Array Edge}{g:ŀ (Nat×Bool)}{w0:Bs}{G0 G:Mem}
theorem qI{d:Nat}{s:ŀ Addr×Nat×ŀ Ow}{n:Nat}{xs:Ŀ Int}(h:rh G s xs):(hC d s n).zero:=by
 intro q a x c;simp only[hC,Ď,ĝ,ţ]at a;rcases a with rfl|rfl
 .cases c;rfl
 exact h.zero c
theorem ZV{op:Op}{f:Nat}{args:Nat->Ŀ Value}{pre:Mem->Prop}{a xs:Ŀ Int}{j:Nat}{s:ŀ Addr×Nat×ŀ Ow}(R:Lo)(r:oz f args pre a)(y:ς ops fr ⟨dst,op,ty,pos,af,g⟩ true)(u:Ω N dst)
  (t:YC prog N ⟨dst,op,ty,pos,af,g⟩ fr (St w0 G0 G (hC j s xs.length++R)) f (Value.pointer (some ⟨j,0,none⟩)::args j).toArray) (n:(xs++a).length<=1000000) (p:rh G s xs) (hp:pre G) (B:w0.L.zero)
  (k:∀s' G',Mem.le G G'->rh G' s' (xs++a)->WL prog N ops Q l (ο dst (.tuple #[]) fr) (St w0 G0 G' (hC j s' (xs++a).length++R))):WL prog N ops Q (⟨dst,op,ty,pos,af,g⟩::l) fr (St w0 G0 G (hC j s xs.length++R)):=by
 refine WL.kf y u t (r j xs s n) rfl ⟨p,hp⟩ (lc rfl (lc rfl ln)) B (λv G' L' q c=>?_)
 obtain⟨rfl,s',rfl,d⟩:=c
 refine WL.ø (λw A=>A.weaken (λi x h=>?_)) (k s' G' q d)
 simp only[hC,Lo.gn,ġ,Œ,ĸ,ļ,Lo.Zp]at h⊢
 split at h
 .rename_i e;rw[ą e];exact h
 rename_i e
 rw[ā e]
 split at h
 .rename_i m;rw[ą m];exact h
 rename_i m;rw[ā m,ā e,ā m,ā e,ā m];exact h
end
theorem ph(n:Int):0<=u64.wrap n/\u64.wrap n<18446744073709551616:=by rw[abr];omega
theorem xi(i:Int)(E:0<=i/\i<18446744073709551616):oz 240 (λ_=>[.int .u64 i]) (λ_=>True) (fw i):=by
 intro D xs J m;refine Ο ?_;intro w0 G0 _ l h _;refine WC.block ?_;refine WC.gZ (X:=Nat×Ŀ Int×Int×(ŀ Addr×Nat×ŀ Ow)×Mem) (λd=>match d with|⟨_,_,n,_,_⟩=>[(0,.pointer (some ⟨D,0,none⟩)),(1,.int .u64 n)])
  (λd=>match d with|⟨f,ys,n,s,G⟩=>0<=n/\n<128*128 ^ f/\n<18446744073709551616/\ys++iH f n=xs++fw i/\rh G s ys)
  (λd=>match d with|⟨_,ys,_,s,G⟩=>St w0 G0 G (hC D s ys.length)) (λd=>d.1) ⟨10,xs,i,J,G0⟩ (fc rfl (fc rfl fn)) ⟨E.1,ŉ,E.2,rfl,h⟩ (λw q=>q) ?_
 rintro⟨f,ys,n,s,G⟩ ⟨F,h2,H,h3,y⟩;dsimp only at F h2 h3 y H⊢;refine WC.seq<|sr ?_
 refine é ?_;have c:(ys++iH f n).length<=1000000:=by rw[h3];exact m
 refine WC.eC (p:=(128:Int)<=n) rfl (λB=>?_) (λB=>?_)
 .obtain⟨f,rfl⟩:∃j,f=j+1:=by
   cases f with
   |zero=>have:(128:Int)*128 ^ 0=128:=rfl;omega
   |succ j=>exact⟨j,rfl⟩
  have g:iH (f+1) n=u8.wrap (u8.wrap (Int.tmod n 128)+128)::iH f (u64.wrap (Int.tdiv n 128)):=by show(if(128:Int)<=n then _ else _)=_;rw[ą B]
  rw[g]at h3 c;refine WC.skip<|WE.then<|WC.block<|sr<|mv rfl rfl<|mv rfl rfl<|yy (Y0.nilCheck rfl) rfl<|yy (Y0.zm rfl) rfl<|yy (Y0.Ô 6000 sW rfl rfl rfl) rfl<|mv rfl rfl<|yy (Y0.rem rfl rfl ĳ) rfl<|yy (Y0.conv underlying250 underlying5 rfl) rfl<|yy (Y0.add rfl rfl) rfl ?_
  refine WL.qY (e:=5) (r:=Rp.int .u8) (vs:=#[(0,.int .u8 (u8.wrap (u8.wrap (Int.tmod n 128)+128)))]) (cs:=[.int .u8 (u8.wrap (u8.wrap (Int.tmod n 128)+128))]) ([u8.wrap (u8.wrap (Int.tmod n 128)+128)]:Ŀ Int) Zh rfl rfl rfl rfl ĳ (λ_=>İ) ⟨[_],[],rfl,rfl,rfl⟩ (key:=999) rfl (by rw[l];rfl) (λp1 u a C=>?_);refine WL.iW (r:=Rp.int .u8) (e:=5) 5000 Zh rfl underlying32 GS rfl ĳ rfl rfl (y.mono a) rfl C (by simp only[Ā,Ě,Ļ]at c⊢;show _<=small;simp only[small];omega) (λp2 v k t=>?_);refine Ο ?_;have I:u64.wrap (Int.tdiv n 128)=n / 128:=by rw[aa8 F,abr];omega
  have hp:(128:Int)*128 ^ (f+1)=128*(128*128 ^ f):=by rw[Int.pow_succ];omega
  have A:0<=u64.wrap (Int.tdiv n 128)/\u64.wrap (Int.tdiv n 128)<128*128 ^ f/\u64.wrap (Int.tdiv n 128)<18446744073709551616:=by rw[I];omega
  refine WE.gH (x:=(f+1,ys,n,s,G)) (f,ys++[u8.wrap (u8.wrap (Int.tmod n 128)+128)],u64.wrap (Int.tdiv n 128),(p2,v,k),u) ⟨A.1,A.2.1,A.2.2,by show(_++[_])++_=_;rw[Đ];exact h3,t⟩ (fc rfl (fc rfl fn)) (λw q=>q.weaken (lc rfl (lc rfl ln))) (ů f)
 have g:iH f n=[u8.wrap n]:=by cases f with|zero=>rfl|succ f=>show(if(128:Int)<=n then _ else _)=_;rw[ā B]
 rw[g]at h3 c;refine WC.exit<|WE.å<|WE.å<|WE.Í<|WE.then<|WC.region<|mv rfl rfl<|mv rfl rfl<|yy (Y0.nilCheck rfl) rfl<|yy (Y0.zm rfl) rfl<|yy (Y0.Ô 6000 sW rfl rfl rfl) rfl<|mv rfl rfl<|yy (Y0.conv underlying250 underlying5 rfl) rfl ?_
 refine WL.qY (e:=5) (r:=Rp.int .u8) (vs:=#[(0,.int .u8 (u8.wrap n))]) (cs:=[.int .u8 (u8.wrap n)]) ([u8.wrap n]:Ŀ Int) Zh rfl rfl rfl rfl ĳ (λ_=>İ) ⟨[_],[],rfl,rfl,rfl⟩ (key:=999) rfl (by rw[l];rfl) (λp1 u a C=>?_);refine WL.iW (r:=Rp.int .u8) (e:=5) 5000 Zh rfl underlying32 GS rfl ĳ rfl rfl (y.mono a) rfl C (by simp only[Ā,Ě,Ļ]at c⊢;show _<=small;simp only[small];omega) (λp2 v k t=>?_);refine Ο ?_;rw[h3]at t⊢;exact WE.ø (S':=St w0 G0 u (hC D (p2,v,k) (xs++fw i).length)) (λw q=>q.weaken (lc rfl (lc rfl ln))) (WE.iK rfl ⟨rfl,_,rfl,t⟩)
theorem Th(n:Int)(h:0<=n):oz 168 (λ_=>[.int .i64 n]) (λ_=>True) (lz n):=by
 intro j xs s d;refine Ο ?_;intro w0 G0 _ e a _;refine WC.eC (p:=(0:Int)<=n) rfl (λf=>?_) (λf=>absurd h f);refine Ο ?_;refine WL.ø (S':=St w0 G0 G0 (hC j s xs.length++[])) (λw i=>i) ?_;refine ZV [] (xi _ (ph _)) Zh rfl (YC.of oy rfl) d a trivial (by rw[e];exact qI a) (λs' G' g c=>?_);exact WL.nil<|WE.je<|WE.iK rfl ⟨rfl,s',rfl,c⟩
theorem Y0.kU{N:Nat}{fr:Fr}{w0:Bs}{G0 G:Mem}{L:Lo}{dst:ŀ Nat}{ty:TypeId}{pos:String}{af:Array Edge}{g:ŀ (Nat×Bool)}{α:Type}{r:Rp α}{t:TypeId}{x:Operand}{b off:Nat}{cs:Ŀ Value}{a:α}(c:ft prog t r.size)(e:fr.ev x=some (.pointer (some ⟨b,off,none⟩)))
  (hr:r.eZ G cs a) (d:∀j u,cs[j]?=some u->G b (off+j)=some u):Y0 prog N ⟨dst,.load t x,ty,pos,af,g⟩ fr (St w0 G0 G L) (.agg cs.toArray):=
 Y0.jE cs.toArray c e (by rw[Ĭ];exact r.len hr) (λj v h=>d j v (by rw[ğ]at h;exact h))
theorem Gs{a n:Nat}{s:ŀ Addr×Nat×ŀ Ow}{x y:ŀ Ow}:Lo.sub (hC a s n++[]) ((3,x)::(3,y)::hC a s n):=
 show Lo.sub [(6000,some ⟨a,.cells #[.slice s.1 n s.2.1] 212 (0,0),0⟩),(5000,s.2.2)] _ from lc rfl (lc rfl ln)
theorem Sl(a:Zg)(cs:Ŀ Value):oz 324 (λ_=>[.agg cs.toArray]) (λG=>rY.eZ G cs a) (lx a):=by
 intro v xs s f;refine eL.enter (args:=[_,_]) (N:=47) func324 rfl rfl rfl (λw0 G0 t C=>?_);obtain⟨n,D⟩:=C;have hz:w0.L.zero:=by rw[t];exact qI n
 refine sr<|WL.box 3 Zh rfl rfl (λR=>nx ?_)
 refine WC.gx 3 rfl (by rw[t];rfl) (λI i J _=>?_);have y:At rY I R 0 a:=At.box J rfl (rY.mono i D);obtain⟨mp,mc,T,E⟩:=KC y;refine WC.ø (S':=St w0 G0 I (hC v s xs.length++[])) (λw h=>h.weaken Gs) ?_;refine sr<|yy (Y0.Gj rfl) rfl<|yy (Y0.hU qt rfl (T 1 _ rfl)) rfl ?_
 refine é ?_;refine WC.uY (X:=Unit) (λ_=>[(0,.pointer (some ⟨v,0,none⟩)),(3,.pointer (some ⟨R,0,none⟩)),(4,.int .u64 (if a.neg=true then u64.wrap (u64.wrap (2*u64.wrap (a.χ.length:Int))+1)else u64.wrap (2*u64.wrap (a.χ.length:Int))))]) (λ_=>True) (λ_=>St w0 G0 I (hC v s xs.length++[])) ?_ (λ_ _=>?_)
 .refine Ο ?_;refine WC.cond (b:=a.neg) rfl (λA=>?_) (λA=>?_)
  .refine Ο ?_;refine WE.oU () trivial (fc rfl (fc rfl (fc (by rw[A];rfl) fn))) (λw h=>h)
  refine WC.skip<|WE.oU () trivial (fc rfl (fc rfl (fc (by rw[A];rfl) fn))) (λw h=>h)
 have L:∀c:Bool,0<=(if c=true then u64.wrap (u64.wrap (2*u64.wrap (a.χ.length:Int))+1)else u64.wrap (2*u64.wrap (a.χ.length:Int)))/\(if c=true then u64.wrap (u64.wrap (2*u64.wrap (a.χ.length:Int))+1)else u64.wrap (2*u64.wrap (a.χ.length:Int)))<18446744073709551616:=λc=>by split<;>exact ph _
 unfold lx at f⊢;generalize hH:fw (if a.neg=true then u64.wrap (u64.wrap (2*u64.wrap (a.χ.length:Int))+1)else u64.wrap (2*u64.wrap (a.χ.length:Int)))=H at f⊢;have F:∀l:Ŀ Int,(l.flatMap fF).length=4*l.length:=λl=>by
  induction l with
  |nil=>rfl
  |cons d l ih=>rw[ř,Ā,ih];show 4+_=_;rw[Ě];omega
 rw[Ā,Ā,F]at f;refine sr<|mv rfl rfl<|mv rfl rfl ?_
 refine ZV [] (xi _ (L a.neg)) Zh rfl (YC.of oy rfl) (by rw[hH,Ā];omega) (n.mono i) trivial hz (λY Z j g=>?_);rw[hH]at g⊢;refine nx<|sr<|yy (Y0.Gj rfl) rfl<|yy (Y0.hU qt rfl (j _ _ _ (T 1 _ rfl))) rfl<|yy (Y0.mE underlying116 rfl) rfl<|mv rfl rfl<|nx<|WC.block ?_
 refine WC.gZ (X:=Nat×(ŀ Addr×Nat×ŀ Ow)×Mem) (λq=>match q with|⟨k,_,_⟩=>[(0,.pointer (some ⟨v,0,none⟩)),(20,.slice mp a.χ.length mc),(21,.int .i64 (a.χ.length:Int)),(22,.int .i64 (k:Int))])
  (λq=>match q with|⟨k,s',G⟩=>k<=a.χ.length/\Mem.le I G/\rh G s' (xs++H++(a.χ.take k).flatMap fF))
  (λq=>match q with|⟨k,s',G⟩=>St w0 G0 G (hC v s' (xs++H++(a.χ.take k).flatMap fF).length)) (λq=>a.χ.length-q.1) ⟨0,Y,Z⟩ (fc rfl (fc rfl (fc rfl (fc rfl fn)))) ⟨Ĝ _,j,by rw[Ś,Ű,ę];exact g⟩ (λw h=>by show St _ _ _ (hC v Y (xs++H++(a.χ.take 0).flatMap fF).length) _;rw[Ś,Ű,ę];exact h) ?_
 rintro⟨k,s',G⟩ ⟨U,u,hr⟩;refine é ?_;intro hr;refine WC.eC (p:=(k:Int)<(a.χ.length:Int)) rfl (λA=>?_) (λA=>?_)
 .have B:k<a.χ.length:=ŉ;have V:(0:Int)<=(k:Int)/\a.χ[(k:Int).toNat]?=some a.χ[k]:=⟨ŉ,by simp[B]⟩;have hw:i64.wrap ((k:Int)+1)=((k+1:Nat):Int):=by rw[ĩ];omega
  have P:(a.χ.take (k+1)).flatMap fF=(a.χ.take k).flatMap fF++fF a.χ[k]:=by rw[č B,du];simp
  have O:(xs++H++(a.χ.take k).flatMap fF++fF a.χ[k]).length<=small:=by simp only[Ā,F,Č];show _+_+_+4<=small;simp only[small];omega
  refine WC.skip<|WE.then<|WC.seq<|WC.block<|sr<|yy (Y0.lS underlying116 tf (E.mono u) rfl rfl V) rfl<|yy (Y0.hU sV rfl (AtK.int (At.mono (Η.at E V) u))) rfl<|sg rfl rfl<|nx<|WC.region<|mv rfl rfl<|mv rfl rfl<|yy (Y0.nilCheck rfl) rfl<|yy (Y0.zm rfl) rfl<|yy (Y0.Ô 6000 sW rfl rfl rfl) rfl ?_
  refine mv rfl rfl<|yy (Y0.shr rfl rfl ĳ) rfl<|yy (Y0.conv underlying248 underlying5 rfl) rfl<|mv rfl rfl<|yy (Y0.shr rfl rfl ĳ) rfl<|yy (Y0.conv underlying248 underlying5 rfl) rfl<|mv rfl rfl<|yy (Y0.shr rfl rfl ĳ) rfl<|yy (Y0.conv underlying248 underlying5 rfl) rfl<|mv rfl rfl<|yy (Y0.conv underlying248 underlying5 rfl) rfl ?_
  refine WL.qY (e:=5) (r:=Rp.int .u8) (vs:=#[(0,.int .u8 (u8.wrap (Int.fdiv a.χ[k] (2 ^ (min (24:Int).toNat u32.bits))))),(1,.int .u8 (u8.wrap (Int.fdiv a.χ[k] (2 ^ (min (16:Int).toNat u32.bits))))),(2,.int .u8 (u8.wrap (Int.fdiv a.χ[k] (2 ^ (min (8:Int).toNat u32.bits))))),(3,.int .u8 (u8.wrap a.χ[k]))]) (cs:=(fF a.χ[k]).map (Value.int .u8)) (fF a.χ[k]) Zh rfl rfl rfl rfl ĳ (λ_=>İ) (À.CW _) (key:=999) rfl (by rw[t];rfl) (λp1 G3 m q1=>?_);refine WL.iW (r:=Rp.int .u8) (e:=5) 5000 Zh rfl underlying32 GS rfl ĳ rfl rfl (hr.mono m) rfl q1 O (λp2 S Q W=>?_);refine yy (Y0.nilCheck rfl) rfl<|yy (Y0.zm rfl) rfl<|WL.fL 6000 #[.slice p2 (xs++H++(a.χ.take k).flatMap fF++fF a.χ[k]).length S] Zh Dw rfl rfl rfl aaP rfl rfl ?_
  refine WL.nil<|WE.inBlock<|WE.then<|WC.region<|yy (Y0.add rfl rfl) rfl ?_
  rw[hw];rw[Đ (xs++H),<-P]at W⊢;exact mv rfl rfl<|WL.nil<|WE.gH (x:=(k,s',G)) (k+1,(p2,S,Q),G3) ⟨ŉ,Mem.le_trans u m,W⟩ (fc rfl (fc rfl (fc rfl (fc rfl fn)))) (λw h=>h.weaken (lc rfl (lc rfl ln))) (by show a.χ.length-(k+1)<a.χ.length-k;omega)
 have K:k=a.χ.length:=ŉ;subst K;rw[Ĥ,Đ]at hr⊢;refine WC.exit<|WE.å<|WE.å<|WE.Í<|WE.je ?_
 exact WE.iK rfl ⟨rfl,s',rfl,hr⟩
theorem ZtL(a:Zf)(cs:Ŀ Value):oz 294 (λ_=>[.agg cs.toArray]) (λG=>tA.eZ G cs a) (mG a):=by
 intro F xs s g;refine eL.enter (args:=[_,_]) (N:=12) func294 rfl rfl rfl (λw0 G0 l m=>?_);obtain⟨i,n⟩:=m;have t:w0.L.zero:=by rw[l];exact qI i
 unfold mG at g⊢;rw[Ā,Ā]at g;refine sr<|WL.box 3 Zh rfl rfl (λy=>nx ?_)
 refine WC.gx 3 rfl (by rw[l];rfl) (λq f p _=>?_);have e:At tA q y 0 a:=At.box p rfl (tA.mono f n);obtain⟨A,v,D⟩:=AtK.fst (AtK.via e);obtain⟨B,x,k2⟩:=AtK.snd (AtK.via e);refine WC.ø (S':=St w0 G0 q (hC F s xs.length++[])) (λw C=>C.weaken Gs) ?_;refine é ?_;refine yy (Y0.kU pE rfl v D) rfl ?_;refine ZV [] (Sl a.num A) Zh rfl (YC.of Ah rfl) (by rw[Ā];omega) (i.mono f) v t (λJ H c k=>?_);refine é ?_;refine yy (Y0.kU pE rfl (rY.mono c x) (λj u h=>c _ _ _ (k2 j u h))) rfl ?_;refine ZV [] (Sl a.den B) Zh rfl (YC.of Ah rfl) (by rw[Ā,Ā];omega) k (rY.mono c x) t (λE I r d=>?_);rw[Đ]at d⊢;exact WL.nil<|WE.je<|WE.iK rfl ⟨rfl,E,rfl,d⟩
theorem ZAn(t:Za)(cs:Ŀ Value):oz 242 (λ_=>[.agg cs.toArray]) (λG=>Zk.eZ G cs t) (fU t):=by
 intro A xs s a;refine eL.enter (args:=[_,_]) (N:=20) func242 rfl rfl rfl (λw0 G0 m r=>?_);obtain⟨g,y⟩:=r;have F:w0.L.zero:=by rw[m];exact qI g
 unfold fU at a⊢;generalize hH:mG t.c=H at a⊢;rw[Ā,Ā]at a;refine sr<|WL.box 3 Zh rfl rfl (λO=>nx ?_)
 refine WC.gx 3 rfl (by rw[m];rfl) (λD f B _=>?_);have d:At Zk D O 0 t:=At.box B rfl (Zk.mono f y);obtain⟨P,I,W⟩:=AtK.fst (AtK.via d);have S:=AtK.vec (AtK.snd (AtK.via d));refine WC.ø (S':=St w0 G0 D (hC A s xs.length++[])) (λw l=>l.weaken Gs) ?_;refine sr<|mv rfl rfl<|yy (Y0.Mc rfl) rfl<|yy (Y0.kU rZ rfl I W) rfl ?_
 refine ZV [] (ZtL t.c P) Zh rfl (YC.of IX rfl) (by rw[hH,Ā];omega) (g.mono f) I F (λJ K n c=>?_);rw[hH]at c⊢;refine nx ?_;refine é ?_;refine yy (Y0.jE _ r0 rfl (Zy _ _ _) (λj v h=>n _ _ _ (S j v h))) rfl<|mv rfl rfl<|nx<|WC.block ?_
 refine WC.gZ (X:=Nat×(ŀ Addr×Nat×ŀ Ow)×Mem) (λi=>match i with|⟨k,_,_⟩=>[(0,.pointer (some ⟨A,0,none⟩)),(11,.agg (ö (Value.int .i64) 8 t.m).toArray),(12,.int .i64 (k:Int))])
  (λi=>match i with|⟨k,s',G⟩=>k<=8/\rh G s' (xs++H++iG t.m k))
  (λi=>match i with|⟨k,s',G⟩=>St w0 G0 G (hC A s' (xs++H++iG t.m k).length)) (λi=>8-i.1) ⟨0,J,K⟩ (fc rfl (fc rfl (fc rfl fn))) ⟨ŉ,by rw[show iG t.m 0=[]from rfl,ę];exact c⟩ (λw l=>by show St _ _ _ (hC A J (xs++H++iG t.m 0).length) _;rw[show iG t.m 0=[]from rfl,ę];exact l) ?_
 rintro⟨k,s',G⟩ ⟨R,hr⟩;dsimp only at R hr⊢;have q:∀k j,k<=j->(iG t.m k).length<=(iG t.m j).length:=λk j h=>by
  induction j with
  |zero=>rw[show k=0 by omega];exact ĉ _
  |succ j V=>
   by_cases e:k=j+1
   .rw[e];exact ĉ _
   refine ň (V ŉ) ?_;show _<=(iG t.m j++_).length;rw[Ā];omega
 refine sr<|yy (Y0.lss rfl rfl) rfl<|nx<|WC.seq ?_
 refine WC.eC (p:=(k:Int)<8) rfl (λQ=>?_) (λQ=>?_)
 .have U:i64.wrap ((k:Int)+1)=((k+1:Nat):Int):=by rw[ĩ];omega
  have hi:(0:Int)<=(k:Int)/\(k:Int)<(8:Nat):=⟨ŉ,ŉ⟩;have Z:=q (k+1) 8 ŉ;have T:(iG t.m (k+1)).length=(iG t.m k).length+(fw (u64.wrap (Θ t.m (k:Int)))).length:=Ā;refine WC.skip<|WE.then<|WC.seq<|WC.block<|sr<|yy (Y0.index underlying145 dN jZ rfl rfl hi (tF _ _ _ hi)) rfl ?_
  refine Ο ?_;intro hr;refine WL.ø (S':=St w0 G0 G (hC A s' (xs++H++iG t.m k).length++[])) (λw l=>l) ?_;refine ZV [] (xi _ (ph _)) Zh rfl (YC.of oy rfl) (by rw[Ā,Ā,Ā];omega) hr trivial F (λY L E u=>?_);refine WL.nil<|WE.inBlock<|WE.then<|WC.region<|yy (Y0.add rfl rfl) rfl ?_
  rw[U];rw[Đ (xs++H)]at u⊢;exact mv rfl rfl<|WL.nil<|WE.gH (x:=(k,s',G)) (k+1,Y,L) ⟨ŉ,u⟩ (fc rfl (fc rfl (fc rfl fn))) (λw l=>l) (by show 8-(k+1)<8-k;omega)
 have C:k=8:=ŉ;subst C;rw[Đ]at hr⊢;exact WC.exit<|WE.å<|WE.å<|WE.Í<|WE.je<|WE.iK rfl ⟨rfl,s',rfl,hr⟩
theorem UX{a n:Nat}{s:ŀ Addr×Nat×ŀ Ow}{x:Ow}{y:ŀ Ow}:Lo.sub (hC a s n++[(7,some x)]) ((7,some x)::(7,y)::(hC a s n++[])):=
 show Lo.sub [(6000,some ⟨a,.cells #[.slice s.1 n s.2.1] 212 (0,0),0⟩),(5000,s.2.2),(7,some x)] _ from lc rfl (lc rfl (lc rfl ln))
theorem T3{a n:Nat}{s:ŀ Addr×Nat×ŀ Ow}{x:ŀ Ow}:Lo.sub (hC a s n) (hC a s n++[(7,x)]):=
 show Lo.sub [(6000,some ⟨a,.cells #[.slice s.1 n s.2.1] 212 (0,0),0⟩),(5000,s.2.2)] _ from lc rfl (lc rfl ln)
theorem Md{α:Type}(f:α->Ŀ Int)(l:Ŀ α)(k:Nat):((l.take k).flatMap f).length<=(l.flatMap f).length:=by have:=đ List.length (đ (List.flatMap f) (Ń k l));rw[du,Ā]at this;omega
theorem y4{α:Type}(f:α->Ŀ Int){l:Ŀ α}{k:Nat}(h:k<l.length):(l.take (k+1)).flatMap f=(l.take k).flatMap f++f l[k]:=by rw[č h,du];simp
theorem Zy2(l:Ŀ Za)(p:ŀ Addr)(c:Nat):oz 241 (λn=>[.slice p l.length c,.func (.func 242) #[.pointer (some ⟨n,0,none⟩)] #[]]) (λG=>Η Zk G (.slice p l.length c) l) (fE l):=by
 intro n xs s a;refine eL.enter (args:=[_,_,_]) (N:=23) func241 rfl rfl rfl (λw0 G0 A t=>?_);obtain⟨e,m⟩:=t;have F:w0.L.zero:=by rw[A];exact qI e
 have O:l.length<=9223372036854775807:=by obtain⟨_,_,_,_,h,_⟩:=m;omega
 unfold fE at a⊢;generalize hH:fw (u64.wrap (l.length:Int))=H at a⊢;rw[Ā,Ā]at a;refine sr<|mv rfl rfl<|mv rfl rfl<|yy (Y0.mE underlying49 rfl) rfl<|yy (Y0.conv underlying3 underlying250 rfl) rfl ?_
 refine WL.ø (S':=St w0 G0 G0 (hC n s xs.length++[])) (λw j=>j) ?_;refine ZV [] (xi _ (ph _)) Zh rfl (YC.of oy rfl) (by rw[hH,Ā];omega) e trivial F (λI J q d=>?_);rw[hH]at d⊢;refine nx<|sr<|mv rfl rfl<|yy (Y0.mE underlying49 rfl) rfl<|mv rfl rfl<|nx<|WC.block ?_
 refine WC.gZ (X:=Nat×(ŀ Addr×Nat×ŀ Ow)×Mem) (λf=>match f with|⟨k,_,_⟩=>[(0,.pointer (some ⟨n,0,none⟩)),(2,.func (.func 242) #[.pointer (some ⟨n,0,none⟩)] #[]),(13,.slice p l.length c),(14,.int .i64 (l.length:Int)),(15,.int .i64 (k:Int))])
  (λf=>match f with|⟨k,s',G⟩=>k<=l.length/\Mem.le G0 G/\rh G s' (xs++H++(l.take k).flatMap fU))
  (λf=>match f with|⟨k,s',G⟩=>St w0 G0 G (hC n s' (xs++H++(l.take k).flatMap fU).length)) (λf=>l.length-f.1) ⟨0,I,J⟩ (fc rfl (fc rfl (fc rfl (fc rfl (fc rfl fn))))) ⟨Ĝ _,q,by rw[Ś,Ű,ę];exact d⟩ (λw j=>by show St _ _ _ (hC n I (xs++H++(l.take 0).flatMap fU).length) _;rw[Ś,Ű,ę];exact j) ?_
 rintro⟨k,s',G⟩ ⟨D,i,hr⟩;refine é ?_;intro hr;refine WC.eC (p:=(k:Int)<(l.length:Int)) rfl (λL=>?_) (λL=>?_)
 .have g:k<l.length:=ŉ;have E:(0:Int)<=(k:Int)/\l[(k:Int).toNat]?=some l[k]:=⟨ŉ,by simp[g]⟩;have Q:i64.wrap ((k:Int)+1)=((k+1:Nat):Int):=by rw[ĩ];omega
  have B:=Md fU l (k+1);rw[y4 fU g,Ā]at B;obtain⟨ct,y,kt⟩:=Η.at (m.mono i) E;refine WC.skip<|WE.then<|WC.seq<|WC.block<|sr<|yy (Y0.lS underlying49 qz (m.mono i) rfl rfl E) rfl<|yy (Y0.kU r5 rfl y kt) rfl ?_
  refine é ?_;intro _ hr;refine WL.fq 7 Zh qz rfl rfl rfl rfl (by rw[Ĭ];exact Zk.len y) (λu P=>Zk.one y u (by simpa using P)) ?_;refine WL.ø (λw j=>j.weaken UX) ?_;refine nx<|WC.region<|mv rfl rfl<|yy (Y0.eR 7 r5 rfl rfl (by rw[Ĭ];exact Zk.len y)) rfl ?_
  refine ZV [(7,_)] (ZAn l[k] ct) Zh rfl (YC.CX IG rfl rfl) (by simp only[Ā];omega) hr y F (λR K r v=>?_);refine WL.nil<|WE.inBlock<|WE.then<|WC.region<|yy (Y0.add rfl rfl) rfl ?_
  rw[Q];rw[Đ (xs++H),<-y4 fU g]at v⊢;exact mv rfl rfl<|WL.nil<|WE.gH (x:=(k,s',G)) (k+1,R,K) ⟨ŉ,Mem.le_trans i r,v⟩ (fc rfl (fc rfl (fc rfl (fc rfl (fc rfl fn))))) (λw j=>j.weaken T3) (by show l.length-(k+1)<l.length-k;omega)
 have C:k=l.length:=ŉ;subst C;rw[Ĥ,Đ]at hr⊢;exact WC.exit<|WE.å<|WE.å<|WE.Í<|WE.je<|WE.iK rfl ⟨rfl,s',rfl,hr⟩
theorem UW(l:Ŀ Za)(p:ŀ Addr)(c:Nat):oz 169 (λ_=>[.slice p l.length c]) (λG=>Η Zk G (.slice p l.length c) l) (fE l):=by
 intro j xs s e;refine Ο ?_;intro w0 G0 _ f a g;refine WL.ø (S':=St w0 G0 G0 (hC j s xs.length++[])) (λw i=>i) ?_;refine ZV [] (Zy2 l p c) Zh rfl (YC.of IF rfl) e a g (by rw[f];exact qI a) (λs' G' h d=>?_);exact WL.nil<|WE.je<|WE.iK rfl ⟨rfl,s',rfl,d⟩
theorem Zy0(l:Ŀ (Ŀ Za))(p:ŀ Addr)(c:Nat):oz 283 (λf=>[.slice p l.length c,.func (.func 169) #[.pointer (some ⟨f,0,none⟩)] #[]]) (λG=>Η RP G (.slice p l.length c) l) (fR l):=by
 intro f xs s a;refine eL.enter (args:=[_,_,_]) (N:=23) func283 rfl rfl rfl (λw0 G0 y u=>?_);obtain⟨e,n⟩:=u;have E:w0.L.zero:=by rw[y];exact qI e
 have L:l.length<=9223372036854775807:=by obtain⟨_,_,_,_,h,_⟩:=n;omega
 unfold fR at a⊢;generalize hH:fw (u64.wrap (l.length:Int))=H at a⊢;rw[Ā,Ā]at a;refine sr<|mv rfl rfl<|mv rfl rfl<|yy (Y0.mE underlying46 rfl) rfl<|yy (Y0.conv underlying3 underlying250 rfl) rfl ?_
 refine WL.ø (S':=St w0 G0 G0 (hC f s xs.length++[])) (λw m=>m) ?_;refine ZV [] (xi _ (ph _)) Zh rfl (YC.of oy rfl) (by rw[hH,Ā];omega) e trivial E (λF I r d=>?_);rw[hH]at d⊢;refine nx<|sr<|mv rfl rfl<|yy (Y0.mE underlying46 rfl) rfl<|mv rfl rfl<|nx<|WC.block ?_
 refine WC.gZ (X:=Nat×(ŀ Addr×Nat×ŀ Ow)×Mem) (λg=>match g with|⟨k,_,_⟩=>[(0,.pointer (some ⟨f,0,none⟩)),(2,.func (.func 169) #[.pointer (some ⟨f,0,none⟩)] #[]),(13,.slice p l.length c),(14,.int .i64 (l.length:Int)),(15,.int .i64 (k:Int))])
  (λg=>match g with|⟨k,s',G⟩=>k<=l.length/\Mem.le G0 G/\rh G s' (xs++H++(l.take k).flatMap fE))
  (λg=>match g with|⟨k,s',G⟩=>St w0 G0 G (hC f s' (xs++H++(l.take k).flatMap fE).length)) (λg=>l.length-g.1) ⟨0,F,I⟩ (fc rfl (fc rfl (fc rfl (fc rfl (fc rfl fn))))) ⟨Ĝ _,r,by rw[Ś,Ű,ę];exact d⟩ (λw m=>by show St _ _ _ (hC f F (xs++H++(l.take 0).flatMap fE).length) _;rw[Ś,Ű,ę];exact m) ?_
 rintro⟨k,s',G⟩ ⟨C,j,hr⟩;refine é ?_;intro hr;refine WC.eC (p:=(k:Int)<(l.length:Int)) rfl (λK=>?_) (λK=>?_)
 .have i:k<l.length:=ŉ;have D:(0:Int)<=(k:Int)/\l[(k:Int).toNat]?=some l[k]:=⟨ŉ,by simp[i]⟩;have O:i64.wrap ((k:Int)+1)=((k+1:Nat):Int):=by rw[ĩ];omega
  have A:=Md fE l (k+1);rw[y4 fE i,Ā]at A;obtain⟨q,P,Q,R⟩:=AtK.sl (Η.at (n.mono j) D);refine WC.skip<|WE.then<|WC.seq<|WC.block<|sr<|yy (Y0.lS underlying46 kW (n.mono j) rfl rfl D) rfl<|yy (Y0.hU mH rfl Q) rfl ?_
  refine é ?_;intro hr;refine WL.ø (S':=St w0 G0 G (hC f s' (xs++H++(l.take k).flatMap fE).length++[])) (λw m=>m) ?_;refine ZV [] (UW l[k] q P) Zh rfl (YC.CX z8 rfl rfl) (by simp only[Ā];omega) hr R E (λS J t v=>?_);refine WL.nil<|WE.inBlock<|WE.then<|WC.region<|yy (Y0.add rfl rfl) rfl ?_
  rw[O];rw[Đ (xs++H),<-y4 fE i]at v⊢;exact mv rfl rfl<|WL.nil<|WE.gH (x:=(k,s',G)) (k+1,S,J) ⟨ŉ,Mem.le_trans j t,v⟩ (fc rfl (fc rfl (fc rfl (fc rfl (fc rfl fn))))) (λw m=>m) (by show l.length-(k+1)<l.length-k;omega)
 have B:k=l.length:=ŉ;subst B;rw[Ĥ,Đ]at hr⊢;exact WC.exit<|WE.å<|WE.å<|WE.Í<|WE.je<|WE.iK rfl ⟨rfl,s',rfl,hr⟩
theorem T4(l:Ŀ (Ŀ Za))(p:ŀ Addr)(c:Nat):oz 216 (λ_=>[.slice p l.length c]) (λG=>Η RP G (.slice p l.length c) l) (fR l):=by
 intro j xs s e;refine Ο ?_;intro w0 G0 _ f a g;refine WL.ø (S':=St w0 G0 G0 (hC j s xs.length++[])) (λw i=>i) ?_;refine ZV [] (Zy0 l p c) Zh rfl (YC.of IT rfl) e a g (by rw[f];exact qI a) (λs' G' h d=>?_);exact WL.nil<|WE.je<|WE.iK rfl ⟨rfl,s',rfl,d⟩
theorem ZAl(k:Zb)(B:0<=k.n)(cs:Ŀ Value):oz 137 (λ_=>[.agg cs.toArray]) (λG=>tU.eZ G cs k) (gW k):=by
 intro E xs s f;refine eL.enter (args:=[_,_]) (N:=16) func137 rfl rfl rfl (λw0 G0 j n=>?_);obtain⟨g,p⟩:=n;have r:w0.L.zero:=by rw[j];exact qI g
 unfold gW at f⊢;simp only[Ā]at f;refine sr<|WL.box 3 Zh rfl rfl (λv=>nx ?_)
 refine WC.gx 3 rfl (by rw[j];rfl) (λt c q _=>?_);have l:At tU t v 0 k:=At.box q rfl (tU.mono c p);obtain⟨p1,x,p2,y,J,A,h2⟩:=Rm l;refine WC.ø (S':=St w0 G0 t (hC E s xs.length++[])) (λw C=>C.weaken Gs) ?_;refine sr ?_;refine é ?_;refine ZV [] (Th k.n B) Zh rfl (YC.of wN rfl) (by simp only[Ā];omega) (g.mono c) trivial r (λK F d h=>?_);refine é ?_;refine ZV [] (T4 k.eqs p1 x) Zh rfl (YC.of Ab rfl) (by simp only[Ā];omega) h (A.mono d) r (λL H m i=>?_);refine é ?_;refine ZV [] (T4 k.ε p2 y) Zh rfl (YC.of Ab rfl) (by simp only[Ā];omega) i (h2.mono (Mem.le_trans d m)) r (λD I u a=>?_);have e:xs++lz k.n++fR k.eqs++fR k.ε=xs++(lz k.n++fR k.eqs++fR k.ε):=by simp only[Đ]
 rw[e]at a⊢;exact WL.nil<|WE.je<|WE.iK rfl ⟨rfl,D,rfl,a⟩
theorem yF(k:Zb)(p1:ŀ Addr)(p:Nat)(p2:ŀ Addr)(s:Nat)(r:Ĳ)(hr:(vp k).Α r):Cr 77 #[.agg ([.int .i64 k.n,.slice p1 k.eqs.length p,.slice p2 k.ε.length s]).toArray] (λG=>Η RP G (.slice p1 k.eqs.length p) k.eqs/\Η RP G (.slice p2 k.ε.length s) k.ε) (λG v=>v=.string r):=by
 refine iM.enter (args:=[_]) (N:=12) func77 rfl rfl rfl (λw0 G0 e g=>?_);obtain⟨A,h2⟩:=g;obtain⟨v,K,hr⟩:=hr;have y:∀i,w0.L.get i=none:=λi=>by rw[e];rfl
 have L:w0.L.zero:=by rw[e];intro q J;cases J
 refine sr<|WL.box 1 Zh rfl rfl (λE=>?_)
 refine sg rfl rfl<|nx ?_
 refine WC.gx 1 rfl (y _) (λn a t _=>?_);have c:tU.eZ n [.int .i64 k.n,.slice p1 k.eqs.length p,.slice p2 k.ε.length s] k:=⟨[_],[_,_],rfl,rfl,⟨[_],[_],rfl,⟨_,rfl,A.mono a⟩,⟨_,rfl,h2.mono a⟩⟩⟩;have B:∀j u,([.int .i64 k.n,.slice p1 k.eqs.length p,.slice p2 k.ε.length s]:Ŀ Value)[j]?=some u->n E (0+j)=some u:=λj u h=>by rw[Ň];exact t j u (by simpa[Value.cells]using h)
 refine WC.ø (S':=St w0 G0 n []) (λw x=>x.weaken ln) ?_;refine WC.seq<|sr<|yy (Y0.kU lK rfl c B) rfl ?_
 refine WL.gT Zh rfl (YC.of Yl rfl) (P1 _ _ _ _ _ _ K) rfl ⟨A.mono a,h2.mono a⟩ ?_;refine é ?_;intro hr;refine WC.cond (b:=!v) rfl (λF=>?_) (λF=>?_)
 .have d:v=false:=by cases v<;>simp_all
  subst d;replace hr:_=r:=hr;subst hr;exact sr<|sg rfl rfl<|nx<|WC.ret<|WE.hL<|WE.jX rfl rfl rfl
 have d:v=true:=by cases v<;>simp_all
 subst d;obtain⟨⟨I,f⟩,hr⟩:=hr;replace hr:_=r:=hr;subst hr;refine WC.skip<|WE.then<|sr<|WL.alloc 6000 Zh z212 rfl (λD=>?_)
 refine WL.ø (S':=St w0 G0 n (hC D (none,0,none) ([]:Ŀ Int).length++[])) (λw x=>x.weaken (show Lo.sub [(6000,some ⟨D,.cells #[.slice none 0 0] 212 (0,0),0⟩),(5000,none)] _ from lc rfl (lw ln))) ?_;refine nx<|sr<|yy (Y0.kU lK rfl c B) rfl ?_
 refine ZV [] (ZAl k I _) Zh rfl (YC.of Ie rfl) f Ε.nil c L (λs' G' H l=>?_);refine nx<|sr<|yy (Y0.zm rfl) rfl<|yy (Y0.Ô 6000 sW rfl rfl rfl) rfl ?_
 refine WL.jP 5000 l rfl (y _) (λO P C m _=>?_);refine yy (Y0.kR underlying32 underlying5 underlying9 m rfl) rfl<|sg rfl rfl<|nx<|WC.ret ?_
 exact WE.jX rfl rfl rfl
instance dy'{t r}:SpcM ((ZK t)) r (∀{f e j h},Cl 128 #[.slice f j e,.func (.func 129) #[] #[]] [(5000,h)] (λG=>Ε c' 147 G (.slice f j e) t h) (λG L v=>∃k,L=[(5000,k)]/\v=.tuple #[]/\Ε c' 147 G (.slice f j e) r k)):=.mk λhr {f e j h}=>by
 refine rz (args:=[_,_]) (N:=14) func128 z z z (λq A u m=>?_);have d:=m;have a:q.L.zero:=by rw[u];intro p o x B;simp only[Ď,ĝ,ţ]at o;subst o;exact BY d B
 refine sr<|η z<|Γ (B3 Q' d z)<|Μ z<|w' ?_
 refine é ?_;intro _ hr _;refine oE hr λE l hr=>mU z z (x' Iy z) (dJ'.h l) z (d) (lc z ln) a (λD s C y c=>?_);obtain⟨i,rfl,rfl,g⟩:=c;refine t'<|WE.je ?_
 obtain rfl:_=r:=hr;refine mT (S':=St q A s [(5000,i)]) (w1 z)<|WE.iK z  ⟨_,z,z,g⟩
instance gN'{o r}:SpcM ((Jl o)) r (∀{l h},Cl 72 #[.map (some l)] [(5500,h)] (λG=>Ù n0 (py ik G) (.map (some l)) o h) (λG L v=>L=[(5500,h)]/\(∃zp zc,v=δ zp r zc/\sl c' G zp zc r))):=.mk λhr {l h}=>by
 refine rz (args:=[_]) (N:=28) func72 z z z (λw0 T D ak=>?_);have q:=ak;have hz:w0.L.zero:=by rw[D];intro p hp x hx;simp only[Ď,ĝ,ţ]at hp;subst hp;exact Ù.zero q hx
 refine sr<|dE z<|nr<|η z<|Γ (Y0.Oa 5500 Na q z z)<|oA hr λal hr=>WL.wj (r:=c') (e:=147) (n:=(o.length:Int)) 4008 z z Q' lf z ĳ z z al λp1 aB ae av=>Μ z<|o'<|sr<|η z<|WL.yk 5500 4010 z z Na q z z λab Z ag=>nx<|nG (X:=(Ŀ Za)×ŀ Addr×Nat×ŀ Ow×Ŀ ((Fin 8->Int)×Zf)×ŀ Ow×Mem) hr (λ⟨s,C,B,m,a,P,A⟩=>⟨(s,a),[(3,δ C s B),(0,.map (some l)),(10,ab)],Mem.le T A/\Ε c' 147 A (δ C s B) s m/\fT n0 (py ik A) h ab a none P,St w0 T A [(4003,m),(5500,h),(4010,P)]⟩) (λ(⟨I,K,J,E,R⟩:(Ŀ Za)×ŀ Addr×Nat×ŀ Ow×Mem)=>⟨I,[(3,δ K I J),(0,.map (some l))],Mem.le T R/\Ε c' 147 R (δ K I J) I E,St w0 T R [(4003,E),(5500,h)]⟩) ⟨([]:Ŀ Za),p1,aB,ae,o,Z,T⟩ z (Ç z) ⟨mr,av,(fT.forget ag)⟩ ?_ ?_ ?_
 .intro w O;have O:=O.Þ (i:=4008) (j:=4003) z (by rw[D];rfl);exact O.weaken (lc z (lc z (lc z ln)))
 .rintro _ ⟨s,C,B,m,a,P,A⟩ ⟨F,M,am⟩ hr;refine sr<|WL.CU 5500 4010 z z am z z z (λRa k Rb U Y Q aN aP=>?_) (λY=>?_)
  .replace hr:=hr.2 _ _ _ Y;generalize Ra++Rb=R2 at hr Q;refine kr z<|nx<|o'<|kC z<|q'<|b'<|Y'<|sr<|WL.xZ 5500 4010 z z Q z z z (λu1 az aS=>?_)
   obtain⟨aW,rfl,aC⟩:=az;obtain⟨c,g,f,d,rfl,y,t⟩:=Zvi aC;refine kr z<|kr z<|W' 4 z z145 z λb1=>W' 5 z rE z λb2=>A' 4 z wE z z z (U' _ _ _) (U' _ _ _) (λu hu=>Rp.one (fV .i64 8) (G:=A) (x:=k.1) (cs:=Ø k.1) z u (by first|simpa using hu|simpa[Value.cells]using hu))<|fY 5 ke z ?_
   refine é ?_;intro _ hr _;refine I' hr z (λaD hr=>?_) (λaD hr=>?_)
   .refine w'<|η z<|Γ (y' 5 mn z z z)<|Γ (y' 4 GH z z (U' _ _ _))<|Γ (ma (vs:=#[(0,.agg ((Υ k.2 c g f d)).toArray),(1,.agg (Ø k.1).toArray)]) (v:=.agg (((Υ k.2 c g f d):Ŀ Value)++(Ø k.1)).toArray) z z (λ_=>İ))<|nb (e:=147) (r:=c') (vs:=#[(0,.agg (((Υ k.2 c g f d):Ŀ Value)++(Ø k.1)).toArray)]) (cs:=(((Υ k.2 c g f d):Ŀ Value)++(Ø k.1))++([])) ([(Za.mk k.2 k.1)]:Ŀ Za) z z z z z ĳ (λ_=>İ) ⟨((Υ k.2 c g f d):Ŀ Value)++(Ø k.1),[],z,⟨(Υ k.2 c g f d),Ø k.1,z,⟨(θ k.2.num c g),(θ k.2.den f d),z,⟨[.bool k.2.num.neg],[δ c k.2.num.χ g],z,z,⟨_,z,y⟩⟩,⟨[.bool k.2.den.neg],[δ f k.2.den.χ d],z,z,⟨_,z,t⟩⟩⟩,z⟩,z⟩ (key:=999) z (by rw[D];rfl) (λp2 an H ax=>?_)
    refine oA hr λaf hr=>GR (r:=c') (e:=147) 4003 z z Q' lf z ĳ z z (M.mono H) z ax af λp3 ar ac aw=>dE z<|t'<|E'<|N' ⟨(s++[(Za.mk k.2 k.1)]),p3,ar,ac,R2,U,an⟩ hr ⟨(mx F H),aw,(fT.forget (fT.qc Q H))⟩ (Ç z) (w3 z z z)
   refine q'<|E'<|N' ⟨s,C,B,m,R2,U,A⟩ hr ⟨F,M,(fT.forget Q)⟩ (Ç z) (w3 z z z)
  replace hr:=hr.1 Y;refine kr z<|nx<|o'<|qO z<|nH<|p'<|p'<|K'<|oj ⟨s,C,B,m,A⟩ ⟨hr,F,M⟩ (Ç z) (w2 z z)
 rintro⟨I,K,J,E,R⟩ ⟨hr,aF,aj⟩;refine b'<|sr<|η z<|oE hr λaV ah hr=>mz (λw O=>O.Þ (i:=4003) (j:=5000) z (by rw[D];rfl))<|mU z z (x' H8 z) (dy'.h ah) z (aj) (lc z ln) hz (λaO aU aL aH S=>?_)
 obtain⟨au,rfl,rfl,V⟩:=S;refine mz (λw O=>O.Þ (i:=5000) (j:=4003) z (by rw[D];rfl))<|nr<|η z<|Μ z<|m' ?_
 obtain rfl:_=r:=hr;refine uB (r:=c') (e:=147) 4003 V z (by rw[D];rfl) λaR ao aE W aG=>mT (S':=St w0 T ao [(5500,h)]) (w1 z)<|j' z z ⟨z,⟨_,_,(qT W),(rF W)⟩⟩
instance dp'{C l r}:SpcM ((D9 C l)) r (∀{B D},Cr 29 #[δ B C D,.agg (Ø l).toArray] (λG=>sl c' G B D C) (iB c' r)):=.mk λhr {B D}=>by
 refine Ο ?_;intro T L u F b2 hr _;have hz:=tS (w0:=T);refine WC.mB hr [0,3,6,15] [3] [0,3] [3] (λ(⟨o,R⟩:Int×(Fin 8->Bool))=>⟨(o,R),[(16,i' o)],tr,[(6,ü b2 (ö Value.bool 8 R) 143)]⟩) (λ(_:Unit)=>⟨(.inr ()),[],tr,[]⟩) ⟨0,(λ_=>false)⟩ ?_;intro E _ hr K _;refine b'<|sr<|WL.makeMap (ky:=n0) (Rv:=py ik E) 4033 z z λH S al=>?_
 refine Ο ?_;intro hr;refine WC.mD hr [3,34,35,9] [3] [9] [] (λ(⟨n,P,q⟩:Int×(Ŀ ((Fin 8->Int)×Zf))×ŀ Ow)=>⟨(n,P),[(36,i' n)],λs=>Ù n0 (py ik s) (.map (some H)) P q,[(4033,q)]⟩) (λ(⟨a,J⟩:(Ŀ ((Fin 8->Int)×Zf))×ŀ Ow)=>⟨a,[],λW=>Ù n0 (py ik W) (.map (some H)) a J,[(4033,J)]⟩) ⟨0,[],S⟩ ?_ ?_
 .rintro _ s ⟨n,P,q⟩ y Z hr;refine Ο ?_;intro _ g _ _ c _ e _ f _ d _ _ _ t b3 x hr v;refine WC.mB hr [3,11,12,34,35,36,41,9] [3,11,4033] [3,11,12,34,35,36,9] [3,11,4033] (λ(⟨m,I⟩:Int×(Fin 8->Int))=>⟨(m,I),[(42,i' m)],tr,[(12,ü x (Ø I) 145)]⟩) (λ(Q:(Fin 8->Int))=>⟨Q,[],tr,[(12,ü x (Ø Q) 145)]⟩) ⟨0,(λ_=>0)⟩ ?_;intro O Q hr A _;refine Ο ?_;intro hr;obtain⟨⟨N,av⟩,hr⟩:=hr;exact WL.lT (Rv':=py ik O) (k:=Q) (z:=g.c) 4033 z Na (Ù.qc Z A) z z z z N ⟨(Υ g.c c e f d),z,⟨(θ g.c.num c e),(θ g.c.den f d),z,⟨[.bool g.c.num.neg],[δ c g.c.num.χ e],z,z,⟨_,z,(t.mono A)⟩⟩,⟨[.bool g.c.den.neg],[δ f g.c.den.χ d],z,z,⟨_,z,(v.mono A)⟩⟩⟩⟩ (λ_ _ _ _ h=>h) av λaw ar=>Ι
 rintro W ⟨a,J⟩ hr aK V;refine b'<|sr<|η z<|oE hr λaR U hr=>mz (λw p=>p.Þ (i:=4033) (j:=5500) z (by rw[u];rfl))<|WL.lO z z (x' Yn z) (gN'.h U) z (V) (lc z ln) (λi hi=>by simp only[ġ,Œ,Ď,ĝ,ţ]at hi;subst hi;exact z) hz (λaN aQ aL Y=>?_)
 obtain⟨aP,aM,rfl,X⟩:=Y;refine mz (λw p=>p.Þ (i:=5500) (j:=4033) z (by rw[u];rfl))<|dE z<|Μ z<|m' ?_
 obtain rfl:_=r:=hr;exact ur z z z ⟨_,_,z,X⟩
theorem Jh(d:(Ŀ (Ŀ Za)))(k:(Fin 8->Int))(D:ŀ Addr)(C:Nat)(r:(Ŀ (Ŀ Za)))(hr:(Ax d k).Α r):Cr 76 #[δ D d C,.agg (Ø k).toArray] (λG=>sq G D C d) (fS (Rp.sl c') r):=by
 refine Ο ?_;intro R A _ W O E J T hr _;refine WC.mD hr [3,5,11,12] [3] [5] [] (λ(⟨m,f,c⟩:(Ŀ (Ŀ Za))×ŀ Ow×Int)=>⟨(m,c),[(13,i' c)],λl=>Ε (Rp.sl c') 50 l (.slice E (d.length:Int).toNat ((d.length:Int).toNat)) m f,[(4010,f)]⟩) (λ(⟨B,h⟩:(Ŀ (Ŀ Za))×ŀ Ow)=>⟨B,[],λq=>Ε (Rp.sl c') 50 q (.slice E (d.length:Int).toNat ((d.length:Int).toNat)) B h,[(4010,h)]⟩) ⟨(List.replicate (d.length:Int).toNat []),J,0⟩ ?_ ?_
 .rintro _ l ⟨m,f,c⟩ g o hr;refine Ο ?_;intro _ _ _ _ _ _ _ _ _ _ y _ U j v t x _ hr F;exact zL (r:=(Rp.sl c')) (e:=50) (cs':=[δ v y.1 t]) (i:=c) (z':=y.1) 4010 z pK z (o.mono j) z z z z ⟨_,z,x⟩ F λQ M=>Ι
 rintro q ⟨B,h⟩ hr Z I;refine Ο ?_;intro hr;obtain rfl:_=r:=hr;refine uB (r:=(Rp.sl c')) (e:=50) 4010 I z (by rw[W];rfl) λs p n u a=>j' z z ⟨_,_,(qT u),(rF u)⟩
instance {d:(Ŀ (Ŀ Za))}{k:(Fin 8->Int)}{r:(Ŀ (Ŀ Za))}:SpcM ((Ax d k)) r (∀{D:ŀ Addr}{C:Nat},Cr 76 #[δ D d C,.agg (Ø k).toArray] (λG=>sq G D C d) (fS (Rp.sl c') r)):=⟨λa {D C}=>Jh _ _ D C _ a⟩
instance fe'{c r}:SpcM ((Jc c)) r (∀{f h},Cr 54 #[δ f c h] (λG=>Η (Rp.sl (Rp.sl c')) G (δ f c h) c) (fS (Rp.sl c') r)):=.mk λhr {f h}=>by
 refine Ο ?_;intro O I K hr _;have p:=tS (w0:=O);refine WC.mB hr [0,9,10] [] [0] [] (λ(⟨t,y⟩:Int×Int)=>⟨(t,y),[(3,i' t),(11,i' y)],tr,[]⟩) (λ(D:Int)=>⟨D,[(3,i' D)],tr,[]⟩) ⟨0,0⟩ ?_;intro P D hr C _;refine b'<|sr<|η z<|oE hr λg a hr=>mU z z (x' Yw z) (eR'.h a) z trivial ln p (λZ M T F L=>?_)
 obtain⟨Y,W,R,rfl,rfl,V⟩:=L;refine mz (λw Q=>Q.Þ (i:=7000) (j:=4024) z (by rw[K];rfl))<|Μ z ?_
 refine é ?_;intro hr;refine nG (X:=(Ŀ (Ŀ Za))×ŀ Addr×Nat×ŀ Ow×Int×Mem) hr (λ⟨d,m,n,k,v,B⟩=>⟨(d,v),[(6,δ m d n),(25,δ f c h),(26,i' (c.length:Int)),(27,i' v)],Mem.le M B/\Ε (Rp.sl c') 50 B (δ m d n) d k,St O I B [(4006,k)]⟩) (λ(⟨l,q,s,o,J⟩:(Ŀ (Ŀ Za))×ŀ Addr×Nat×ŀ Ow×Mem)=>⟨l,[(6,δ q l s)],Mem.le M J/\Ε (Rp.sl c') 50 J (δ q l s) l o,St O I J [(4006,o)]⟩) ⟨g,Y,W,R,0,M⟩ z (Ç z) ⟨mr,V⟩ ?_ ?_ ?_
 .intro w Q;have Q:=Q.Þ (i:=4024) (j:=4006) z (by rw[K];rfl);exact Q.weaken (lc z ln)
 .rintro _ ⟨d,m,n,k,v,B⟩ ⟨x,u⟩ hr;exact Ι
 rintro⟨l,q,s,o,J⟩ ⟨hr,S,E⟩;refine Ο ?_;intro hr;obtain rfl:_=r:=hr;refine uB (r:=(Rp.sl c')) (e:=50) 4006 E z (by rw[K];rfl) λay A N U H=>j' z z ⟨_,_,z,U⟩
instance hy'{m r}:SpcM ((PT m)) r (∀{e c},Cr 110 #[.agg ((θ m e c)).toArray] (λG=>su G e c m.χ) (er r)):=.mk λhr {e c}=>Ι
instance fj'{q r}:SpcM ((wX q)) r (Cr 58 #[i' q] (λG=>True) (er r)):=.mk λhr=>Ι
instance fl'{h r}:SpcM ((D2 h)) r (∀{g c d f},Cr 57 #[.agg ((Υ h g c d f)).toArray] (λG=>su G g c h.num.χ/\su G d f h.den.χ) (fS c' r)):=.mk λhr {g c d f}=>Ι
instance ip'{h m r}:SpcM ((KD h m)) r (∀{e d},Cr 55 #[δ e h d,i' m] (λG=>sl c' G e d h) (λG v=>v=.bool r)):=.mk λhr {e d}=>Ι
theorem Pz(o:Int)(j:(Ŀ (Ŀ Za)))(c:(Ŀ (Ŀ Za)))(p:ŀ Addr)(q:Nat)(d:ŀ Addr)(f:Nat)(r:Zb×Int)(hr:(Ep o j c).Α r):Cr 23 #[i' o,δ p j q,δ d c f] (λG=>sq G p q j/\sq G d f c) (l8 r):=by
 refine é ?_;intro w0 G0 _ X aw b1 hr av;refine WC.nB hr [0,1,2,6] [] (λ(⟨a,ac,aa,Q,P⟩:Zb×ŀ Addr×Nat×ŀ Addr×Nat)=>⟨[],Py o j c a,λaX=>sq aX ac aa a.eqs/\sq aX Q P a.ε,[(6,ü b1 (ñ a ac aa Q P) 48)]⟩) ?_;rintro aX ⟨a,ac,aa,Q,P⟩ hr F ⟨bf,a1⟩;refine o'<|sr<|η z<|η z<|nb (e:=46) (r:=(Rp.sl (Rp.sl c'))) (vs:=#[(0,δ p j q),(1,δ d c f)]) (cs:=[δ p j q]++([δ d c f]++([]))) ([j,c]:Ŀ (Ŀ (Ŀ Za))) z z z z z ĳ (λ_=>İ) ⟨[δ p j q],[δ d c f]++([]),z,⟨_,z,(aw.mono F)⟩,⟨[δ d c f],[],z,⟨_,z,(av.mono F)⟩,z⟩⟩ (key:=999) z (by rw[X];rfl) (λp1 c1 H cv=>?_)
 refine oE hr λbG bV hr=>gw z z (x' Yh z) (fe'.h bV) z (cv) (λcR bl E ba=>?_);obtain⟨b6,bL,rfl,a2⟩:=ba;refine Γ (P' jT a2 z)<|η z<|nx<|WC.mB (hH:=by exact⟨(bf.mono (mx H E)),(a1.mono (mx H E))⟩) hr [0,1,2,6,27,28] [] [0,1,2,6] [] (λ(⟨au,aF,M,I,C,A⟩:Int×Zb×ŀ Addr×Nat×ŀ Addr×Nat)=>⟨(au,aF),[(29,i' au)],λaE=>sq aE M I aF.eqs/\sq aE C A aF.ε,[(6,ü b1 (ñ aF M I C A) 48)]⟩) (λ(⟨N,l,k,g,h⟩:Zb×ŀ Addr×Nat×ŀ Addr×Nat)=>⟨(.inr N),[],λar=>sq ar l k N.eqs/\sq ar g h N.ε,[(6,ü b1 (ñ N l k g h) 48)]⟩) ⟨0,a,ac,aa,Q,P⟩ ?_
 rintro ar ⟨N,l,k,g,h⟩ hr U ⟨cd,cc⟩;refine Ο ?_;intro hr;refine WC.mD (hH:=by exact⟨(X' _ _),la⟩) hr [0,2,6,11,39,40] [6] [0,2,6,11] [6] (λ(⟨s,K,L,J,am⟩:(Ŀ (Ŀ Za))×ŀ Addr×Nat×ŀ Ow×Int)=>⟨(s,am),[(10,δ K s L),(41,i' am)],λaJ=>sq aJ K L s/\Tok 1 50 (δ K s L) s.length J,[(1010,J)]⟩) (λ(⟨O,S,R,ab⟩:(Ŀ (Ŀ Za))×ŀ Addr×Nat×ŀ Ow)=>⟨O,[(10,δ S O R)],λaB=>sq aB S R O/\Tok 1 50 (δ S O R) O.length ab,[(1010,ab)]⟩) ⟨[],none,0,none,0⟩ ?_ ?_
 .rintro _ aJ ⟨s,K,L,J,am⟩ ak ⟨aC,ap⟩ hr;refine Ο ?_;intro _ _ _ _ _ _ _ _ _ _ _ aR _ aU _ _ _ _ _ aY cg hr _;refine oA hr λbS hr=>jU (r:=(Rp.sl c')) 1010 z z jT jA z ĳ z z (aC.mono (mx aU aY)) z (by rw[X];rfl) ap cg bS λp9 cp bP bZ bq ci bX=>dE z<|t'<|E'<|b'<|w'<|iT z<|η z<|t'<|N' ⟨bZ,(s++[aR]),p9,cp,bP,i64.wrap (am+1)⟩ hr ⟨(mx (mx (mx ak aU) aY) bq),ci,bX⟩ (Ç z) (w2 z z)
 rintro aB ⟨O,S,R,ab⟩ hr aL ⟨br,bd⟩;refine Ο ?_;intro hr;refine WC.mD (hH:=by exact⟨br,bd,(X' _ _),la⟩) hr [0,6,54,55] [6] [0,6] [6] (λ(⟨n,B,D,t,m,y,x,u,Z⟩:(Ŀ (Ŀ Za))×ŀ Addr×Nat×ŀ Ow×(Ŀ (Ŀ Za))×ŀ Addr×Nat×ŀ Ow×Int)=>⟨(n,m,Z),[(10,δ B n D),(11,δ y m x),(56,i' Z)],λaz=>sq az B D n/\Tok 1 50 (δ B n D) n.length t/\sq az y x m/\Tok 1 50 (δ y m x) m.length u,[(1010,t),(1011,u)]⟩) (λ(⟨V,aj,ai,aq,i,ah,al,ao⟩:(Ŀ (Ŀ Za))×ŀ Addr×Nat×ŀ Ow×(Ŀ (Ŀ Za))×ŀ Addr×Nat×ŀ Ow)=>⟨(V,i),[(10,δ aj V ai),(11,δ ah i al)],λaT=>sq aT aj ai V/\Tok 1 50 (δ aj V ai) V.length aq/\sq aT ah al i/\Tok 1 50 (δ ah i al) i.length ao,[(1010,aq),(1011,ao)]⟩) ⟨O,S,R,ab,[],none,0,none,0⟩ ?_ ?_
 .rintro _ az ⟨n,B,D,t,m,y,x,u,Z⟩ Y ⟨af,W,ae,T⟩ hr;refine sr<|ku z<|nx<|o'<|I' hr z (λct hr=>?_) (λct hr=>?_)
  .refine é ?_;intro _ _ _ _ _ _ _ _ hr _;refine I' hr z (λcz hr=>?_) (λcz hr=>?_)
   .refine Ο ?_;intro _ _ _ aN _ _ _ _ _ _ aW _ aO _ _ _ _ _ aK cy hr _;refine oA hr λbN hr=>jU (r:=(Rp.sl c')) 1010 z z jT jA z ĳ z z (af.mono (mx (mx aN aO) aK)) z (by rw[X];rfl) W cy bN λp4 cn cb co a8 cm bK=>dE z<|t'<|E'<|E'<|b'<|w'<|iT z<|η z<|t'<|N' ⟨co,(n++[aW]),p4,cn,cb,m,y,x,u,i64.wrap (Z+1)⟩ hr ⟨(mx (mx (mx (mx Y aN) aO) aK) a8),cm,bK,(ae.mono (mx (mx (mx aN aO) aK) a8)),T⟩ (Ç z) (w3 z z z)
   refine Ο ?_;intro _ _ _ aV _ ay _ _ _ _ _ aG cB hr _;refine oA hr λbY hr=>jU (r:=(Rp.sl c')) 1011 z z jT jA z ĳ z z (ae.mono (mx ay aG)) z (by rw[X];rfl) T cB bY λp6 ck bR b3 aS ch bM=>dE z<|t'<|E'<|E'<|b'<|w'<|iT z<|η z<|t'<|N' ⟨b3,n,B,D,t,(m++[aV]),p6,ck,bR,i64.wrap (Z+1)⟩ hr ⟨(mx (mx (mx Y ay) aG) aS),(af.mono (mx (mx ay aG) aS)),W,ch,bM⟩ (Ç z) (w3 z z z)
  exact Ι
 rintro aT ⟨V,aj,ai,aq,i,ah,al,ao⟩ hr cF ⟨bm,ce,bs,cf⟩;refine b'<|sr<|η z<|η z<|oE hr λbE bW hr=>gw z z (x' OY z) (PA _ _ _ _ bW) z (bm) (λcQ c0 bA bi=>?_)
 obtain⟨bp,bj,rfl,bu⟩:=bi;refine η z<|oE hr λbF b5 hr=>gw z z (x' OY z) (PA _ _ _ _ b5) z ((bs.mono bA)) (λcK cX a9 bg=>?_)
 obtain⟨bk,bt,rfl,bn⟩:=bg;refine Γ (ma (vs:=#[(0,i' o),(1,δ bp bE bj),(2,δ bk bF bt)]) (v:=.agg ([i' o,δ bp bE bj,δ bk bF bt]).toArray) z z (λ_=>İ))<|W' 16 z rM z λb2=>fY 16 tM z<|nx<|o'<|sr<|Γ (Nc z)<|Γ (n' 16 jY z z z)<|Γ (P' jT (bu.mono a9) z)<|Ð hr z (uu z z) z (λcD hr=>?_) (λcD hr=>?_)
 .exact Ι
 exact Ι
instance {o:Int}{j:(Ŀ (Ŀ Za))}{c:(Ŀ (Ŀ Za))}{r:Zb×Int}:SpcM ((Ep o j c)) r (∀{p:ŀ Addr}{q:Nat}{d:ŀ Addr}{f:Nat},Cr 23 #[i' o,δ p j q,δ d c f] (λG=>sq G p q j/\sq G d f c) (l8 r)):=⟨λa {p q d f}=>Pz _ _ _ p q d f _ a⟩
abbrev lY(f:Fin 8->Int):Array Value:=(ö (Value.int .i64) 8 f).toArray
theorem vJ(f:Fin 8->Int){k:Nat}(h:k<8):(lY f)[k]?=some (.int .i64 (Θ f (k:Int))):=tF (Value.int .i64) 8 f (i:=(k:Int)) ⟨ŉ,ŉ⟩
theorem Zvq(b lo len cap:Nat)(f:Fin 8->Int)(h:lo+len<=8):Cl 136 #[.slice (some ⟨b,lo,none⟩) len cap] [(9003,some ⟨b,.cells (lY f) 71 (0,0),0⟩)] (λ_=>True)
  (λ_ L v=>v=.tuple #[]/\L=[(9003,some ⟨b,.cells (lY (oZ f lo len (len / 2))) 71 (0,0),0⟩)]):=by
 refine eL.enter (args:=[_]) (N:=28) func136 rfl rfl rfl (λw0 G0 l _=>?_)
 have d:i64.wrap ((len:Int)-1)=(len:Int)-1-((0:Nat):Int):=by rw[ĩ];omega
 refine sr<|mv rfl rfl<|yy (Y0.mE underlying44 rfl) rfl<|yy (Y0.sub rfl rfl) rfl<|sg rfl rfl<|sg rfl rfl<|nx<|WC.block ?_
 refine WC.gZ (X:=Nat) (λk=>[(0,.slice (some ⟨b,lo,none⟩) len cap),(2,.int .i64 (k:Int)),(3,.int .i64 ((len:Int)-1-(k:Int)))])
  (λk=>k<=len / 2) (λk=>St w0 G0 G0 [(9003,some ⟨b,.cells (lY (oZ f lo len k)) 71 (0,0),0⟩)]) (λk=>len-k) 0 (fc rfl (fc rfl (fc (by show some (Value.int .i64 (i64.wrap ((len:Int)-1)))=_;rw[d]) fn))) (Ĝ _) (λw c=>c) ?_
 intro k r
 refine WC.seq<|sr<|mv rfl rfl ?_
 refine é ?_
 refine WC.eC (p:=(k:Int)<(len:Int)-1-(k:Int)) rfl (λn=>?_) (λn=>?_)
 .have j:(len:Int)-1-(k:Int)=((len-1-k:Nat):Int):=ŉ
  have e:i64.wrap ((k:Int)+1)=((k+1:Nat):Int):=by rw[ĩ];omega
  have i:i64.wrap (((len-1-k:Nat):Int)-1)=(len:Int)-1-((k+1:Nat):Int):=by rw[ĩ];omega
  rw[j]
  generalize q:oZ f lo len k=g
  refine WC.skip<|WE.then<|WC.seq<|WC.block ?_
  refine WC.drawn [false,false,true,true,false,false,false,false,false,false,false,false,false] eP İ (λm=>?_)
  refine cn (λ_ a=>Y0.move rfl)<|cn (λ_ a=>Y0.move rfl) ?_
  refine é ?_
  refine cn (λ_ a=>Y0.iX underlying44 jZ rfl rfl (show len-1-k<len by omega))<|cn (λ_ a=>Y0.Ô 9003 dN rfl rfl (by rw[x5];exact vJ g (show lo+(len-1-k)<8 by omega))) ?_
  refine é ?_
  refine cn (λ_ a=>Y0.iX underlying44 jZ rfl rfl (show k<len by omega))<|cn (λ_ a=>Y0.Ô 9003 dN rfl rfl (by rw[x5];exact vJ g (show lo+k<8 by omega))) ?_
  refine cn (λ_ a=>Y0.iX underlying44 jZ rfl rfl (show k<len by omega))<|γ.na m ?_
  refine WL.fL 9003 (lY (ζ g (lo+k) (Θ g ((lo+(len-1-k):Nat):Int)))) Zh jZ rfl rfl rfl (by rw[x5,Zy];omega) rfl (by rw[x5];exact vD _ _ _ _ _) ?_
  refine yy (Y0.iX underlying44 jZ rfl rfl (show len-1-k<len by omega)) rfl ?_
  refine WL.fL 9003 (lY (yp g (lo+k) (lo+(len-1-k)))) Zh jZ rfl rfl rfl (by rw[x5,Zy];omega) rfl (by rw[x5];exact vD _ _ _ _ _) ?_
  refine WL.nil<|WE.nx<|WE.inBlock<|WE.then<|WC.region<|mv rfl rfl<|yy (Y0.add rfl rfl) rfl<|mv rfl rfl<|yy (Y0.sub rfl rfl) rfl ?_
  rw[e,i]
  refine sg rfl rfl<|sg rfl rfl<|WL.nil<|WE.gH (x:=k) (k+1) ŉ (fc rfl (fc rfl (fc rfl fn))) (λw c=>c.weaken ?_) (by show len-(k+1)<len-k;omega)
  show Lo.sub [(9003,some ⟨b,.cells (lY (yp (oZ f lo len k) (lo+k) (lo+(len-1-k)))) 71 (0,0),0⟩)] _
  rw[q]
  exact lc rfl ln
 have:k=len / 2:=ŉ
 subst this
 exact WC.exit<|WE.å<|WE.å<|WE.Í<|WE.je<|WE.iK rfl ⟨rfl,rfl⟩
theorem Zyh(n:Int):Cr 75 #[.int .i64 n] (λ_=>True) (λG v=>∃b,v=.func (.func 135) #[] #[.pointer (some ⟨b,0,none⟩)]/\G b 0=some (.int .i64 n)):=by
 refine iM.enter (args:=[_]) (N:=4) func75 rfl rfl rfl (λw0 G0 a _=>?_);refine sr<|WL.ic 1 rfl Zh rfl rfl (λb=>?_)
 refine sg rfl rfl<|WL.nil<|WE.then ?_
 refine WC.gx 1 rfl (by rw[a];rfl) (λe d c _=>?_);refine sr<|yy (Y0.makeFunc rfl rfl) rfl<|sg rfl rfl<|nx<|WC.ret ?_
 exact WE.jX rfl rfl ⟨_,rfl,c 0 _ rfl⟩
theorem ZvG{n:Nat}(d:1<=n)(e:n<=4){j:Nat}{p:Fin 8->Int}(h:(Δ n)[j]?=some p):(Δ n)[j+1]?=n2 n p:=by
 have key:∀n:Fin 4,∀j:Fin 24,(match(Δ (n.val+1))[j.val]? with|some p=>decide ((Δ (n.val+1))[j.val+1]?=n2 (n.val+1) p)|none=>true)=true:=by decide +kernel
 have c:∀n:Fin 4,(Δ (n.val+1)).length<=24:=by decide +kernel
 obtain⟨m,rfl⟩:∃m,n=m+1:=⟨n-1,ŉ⟩;have a:j<24:=aan (Ċ.1 h).1 (c ⟨m,ŉ⟩);have:=key ⟨m,ŉ⟩ ⟨j,a⟩;dsimp only at this;rw[h]at this;exact ĥ this
def EM(n:Nat)(j:Nat)(u:Value)(_:Mem):Prop:=∃p,(Δ n)[j]?=some p/\u=.agg (lY p)
theorem SC{p:Fin 8->Int}:∀{k i:Nat},kP p k=some i->i<k/\Θ p (i:Int)<=Θ p ((i+1:Nat):Int)
 |0,_,h=>by cases h
 |k+1,i,h=>by
  unfold kP at h;split at h
  .obtain⟨a,h2⟩:=SC h;exact⟨ŉ,h2⟩
  cases h;exact⟨ů _,ŉ⟩
theorem ZwT(b n:Nat)(h1:1<=n)(h4:n<=4):rP prog 135 #[.pointer (some ⟨b,0,none⟩)] (Δ n).length (EM n) (λG=>G b 0=some (.int .i64 (n:Int))):=by
 intro σ O I y pre C E hY s0 ab L;refine eL.enter (args:=[_,_]) (N:=61) func135 rfl rfl rfl (λw0 G0 ac hp=>?_);obtain⟨hb,Z⟩:=hp;have aa:w0.L.zero:=by rw[ac];exact L
 have ai:∀(s:σ) (x:ŀ Ow),Lo.sub (y s) ((9003,x)::y s):=λs x i z h=>by rw[Lo.Zp,ā (λe=>by rw[<-e,C s 9003 ŉ]at h;cases h)];exact h
 have J:∀(s:σ) (x:ŀ Ow) (R:Lo),Lo.sub ((9003,x)::y s) ((9003,x)::((9003,R.get 9003)::y s)):=λs x R i z L=>by
  rw[Lo.Zp]at L⊢;split at L
  .rename_i e;rw[ą e];exact L
  rename_i e;rw[ā e,Lo.Zp,ā e];exact L
 refine sr<|WL.alloc 9003 Zh u7 rfl (λt=>?_)
 refine nx ?_;refine é ?_;refine WC.block ?_;refine WC.gZ (X:=Nat) (λk=>[(0,.func (.yield O) #[] #[]),(1,.pointer (some ⟨b,0,none⟩)),(3,.pointer (some ⟨t,0,none⟩)),(7,.int .i64 (k:Int))])
  (λk=>k<=8) (λk=>St w0 G0 G0 ((9003,some ⟨t,.cells (lY (λi=>if i.val<k then(i.val:Int)else 0)) 71 (0,0),0⟩)::y s0)) (λk=>8-k) 0 (fc rfl (fc rfl (fc rfl (fc rfl fn)))) ŉ (λw d=>d) ?_
 .intro k hk;refine Ο ?_;refine WC.eC (p:=(k:Int)<8) rfl (λu=>?_) (λu=>?_)
  .have hw:i64.wrap ((k:Int)+1)=((k+1:Nat):Int):=by rw[ĩ];omega
   have ak:ζ (λi:Fin 8=>if i.val<k then(i.val:Int)else 0) k (k:Int)=λi=>if i.val<k+1 then(i.val:Int)else 0:=by
    funext i;show(if i.val=k then(k:Int)else if i.val<k then(i.val:Int)else 0)=if i.val<k+1 then(i.val:Int)else 0;by_cases e:i.val=k
    .rw[ą e,ą ŉ,e]
    rw[ā e];by_cases e2:i.val<k
    .rw[ą e2,ą ŉ]
    rw[ā e2,ā ŉ]
   refine WC.skip<|WE.then<|WC.seq<|WC.block<|sr<|mv rfl rfl<|sg rfl rfl<|nx<|WC.region<|mv rfl rfl<|mv rfl rfl<|yy (Y0.jC underlying71 jZ rfl rfl ⟨ŉ,ŉ⟩) rfl ?_
   refine WL.fL 9003 (lY (λi=>if i.val<k+1 then(i.val:Int)else 0)) Zh jZ rfl rfl rfl (by rw[Zy];omega) rfl (by rw[<-ak];exact vD _ _ _ _ _) ?_;refine WL.nil<|WE.inBlock<|WE.then<|WC.region<|yy (Y0.add rfl rfl) rfl ?_
   rw[hw];exact mv rfl rfl<|WL.nil<|WE.gH (x:=k) (k+1) ŉ (fc rfl (fc rfl (fc rfl (fc rfl fn)))) (λw d=>d.weaken (J s0 _ [(9003,_)])) (by show 8-(k+1)<8-k;omega)
  have:k=8:=ŉ;subst this;refine WC.exit<|WE.å<|WE.å<|WE.Í<|WE.then<|WC.block ?_
  have ae:(λi:Fin 8=>if i.val<8 then(i.val:Int)else 0)=λi=>(i.val:Int):=by funext i;rw[ą i.isLt]
  rw[ae];have aj:(Δ n)[0]?=some λi=>(i.val:Int):=rfl;refine WC.gZ (X:=Nat×(Fin 8->Int)×σ×Mem) (λK=>[(0,.func (.yield O) #[] #[]),(1,.pointer (some ⟨b,0,none⟩)),(3,.pointer (some ⟨t,0,none⟩))])
   (λK=>match K with|⟨j,p,s,G⟩=>(Δ n)[j]?=some p/\I j s/\Mem.le G0 G/\pre s G) (λK=>match K with|⟨j,p,s,G⟩=>St w0 G0 G ((9003,some ⟨t,.cells (lY p) 71 (0,0),0⟩)::y s)) (λK=>(Δ n).length-K.1) ⟨0,_,s0,G0⟩ (fc rfl (fc rfl (fc rfl fn))) ⟨aj,ab,Mem.le_refl _,Z⟩ (λw d=>d) ?_
  rintro⟨j,p,s,G⟩ ⟨A,hI,a,hp⟩;dsimp only at A hI a hp⊢;have ag:j<(Δ n).length:=(Ċ.1 A).1;have S:=ZvG h1 h4 A;refine WC.seq<|WC.seq<|WC.qp<|l9.y0 Zh (Y0.move rfl) (λc h=>by cases h) rfl<|l9.y0 Zh (Y0.eR 9003 lL rfl rfl (Zy _ _ _)) (λc h=>by cases h) rfl ?_
  refine l9.vR (R:=[(9003,_)]) Zh rfl rfl rfl (hY j _ s ag hI) ⟨hp,p,A,rfl⟩ aa (λi hi=>by simp only[ġ,Œ,Ĕ]at hi;subst hi;exact C s _ ŉ) (λbb P L1 W l=>?_);obtain⟨rfl,s',Q,rfl,Y⟩:=l;have g:=Mem.le_trans a W;refine l9.nil<|WE.then<|WC.pR rfl<|WC.skip<|WE.then<|WC.block ?_
  have al:i64.wrap ((n:Int)-2)=((n-1:Nat):Int)-1:=by rw[ĩ];omega
  have am:i64.wrap ((n:Int)-1)=((n-1:Nat):Int):=by rw[ĩ];omega
  refine sr<|yy (Y0.hU dN rfl (g _ _ _ hb)) rfl<|yy (Y0.sub rfl rfl) rfl ?_
  rw[al];refine sg rfl rfl<|nx<|WC.uY (X:=Nat) (λk=>[(0,.func (.yield O) #[] #[]),(1,.pointer (some ⟨b,0,none⟩)),(3,.pointer (some ⟨t,0,none⟩)),(5,.int .i64 ((k:Int)-1))])
   (λk=>k<=n-1/\((k=0/\kP p (n-1)=none)\/∃i,k=i+1/\kP p (n-1)=some i)) (λ_=>St w0 G0 P ((9003,some ⟨t,.cells (lY p) 71 (0,0),0⟩)::y s')) ?_ ?_
  .refine WC.block<|WC.gZ (X:=Nat) (λk=>[(0,.func (.yield O) #[] #[]),(1,.pointer (some ⟨b,0,none⟩)),(3,.pointer (some ⟨t,0,none⟩)),(5,.int .i64 ((k:Int)-1))])
    (λk=>k<=n-1/\kP p k=kP p (n-1)) (λ_=>St w0 G0 P ((9003,some ⟨t,.cells (lY p) 71 (0,0),0⟩)::y s')) (λk=>k) (n-1) (fc rfl (fc rfl (fc rfl (fc rfl fn)))) ⟨ĉ _,rfl⟩ (λw d=>d) ?_
   rintro k ⟨hk,f⟩;refine WC.seq<|WC.seq ?_
   by_cases ah:k=0
   .subst ah;refine é ?_;intro _;exact WE.oU 0 ⟨hk,.inl ⟨rfl,f.symm⟩⟩ (fc rfl (fc rfl (fc rfl (fc rfl fn)))) (λw d=>d)
   obtain⟨i,rfl⟩:∃i,k=i+1:=⟨k-1,ŉ⟩;have e1:((i+1:Nat):Int)-1=(i:Int):=ŉ;have e2:i64.wrap ((i:Int)+1)=((i+1:Nat):Int):=by rw[ĩ];omega
   have e3:i64.wrap ((i:Int)-1)=(i:Int)-1:=by rw[ĩ];omega
   rw[e1];refine WC.drawn [false,false,false,false,false,false,false,false,false,false,false] eP İ (λhb=>?_);refine cn (λ_ a=>Y0.move rfl)<|cn (λ_ a=>Y0.eq (Y0.geq rfl rfl) (đ Value.bool (Ă ŉ))) ?_
   refine é ?_;refine cy rfl rfl (λ_ a=>Y0.jC underlying71 jZ rfl rfl ⟨ŉ,ŉ⟩)<|cy rfl rfl (λ_ a=>Y0.Ô 9003 dN rfl rfl (vJ p (show i<8 by omega))) ?_
   refine cy rfl rfl (λ_ a=>Y0.move rfl)<|cy rfl rfl (λ_ a=>Y0.eq (Y0.add rfl rfl) (đ (Value.int .i64) e2))<|cy rfl rfl (λ_ a=>Y0.jC underlying71 jZ rfl rfl ⟨ŉ,ŉ⟩)<|cy rfl rfl (λ_ a=>Y0.Ô 9003 dN rfl rfl (vJ p (show i+1<8 by omega))) ?_
   refine é ?_;refine WC.eC (p:=Θ p ((i+1:Nat):Int)<Θ p (i:Int)) rfl (λu=>?_) (λu=>?_)
   .have D:kP p (i+1)=kP p i:=by show(if _ then _ else _)=_;rw[ą u]
    refine WC.skip<|WE.then<|WC.block<|WC.region<|mv rfl rfl<|yy (Y0.sub rfl rfl) rfl ?_
    rw[e3];exact sg rfl rfl<|WL.nil<|WE.inBlock<|WE.gH (x:=i+1) i ⟨ŉ,by rw[<-D];exact f⟩ (fc rfl (fc rfl (fc rfl (fc rfl fn)))) (λw d=>d) (ů i)
   have D:kP p (i+1)=some i:=by show(if _ then _ else _)=_;rw[ā u]
   exact WC.exit<|WE.å<|WE.å<|WE.Í<|WE.oU (i+1) ⟨hk,.inr ⟨i,rfl,by rw[<-f];exact D⟩⟩ (fc rfl (fc rfl (fc rfl (fc (by rw[e1];rfl) fn)))) (λw d=>d)
  rintro k ⟨hk,V⟩;refine Ο ?_;refine WC.eC (p:=(k:Int)-1<0) rfl (λu=>?_) (λu=>?_)
  .have H:kP p (n-1)=none:=by
    rcases V with ⟨_,h⟩|⟨i,hi,_⟩
    .exact h
    omega
   have T:(Δ n)[j+1]?=none:=by rw[S];unfold n2;rw[H]
   have U:(Δ n).length=j+1:=by have:=aag.1 T;omega
   refine WC.ret<|WE.hL<|WE.gu<|WE.hL<|WE.gu ?_
   exact WE.ø (S':=St w0 G0 P (y s')) (λw d=>d.weaken (ai s' _)) (WE.iK rfl ⟨rfl,s',by rw[U];exact Q,rfl,Y⟩)
  obtain⟨i,rfl,f⟩:∃i,k=i+1/\kP p (n-1)=some i:=by
   rcases V with ⟨h,_⟩|h
   .omega
   exact h
  have e1:((i+1:Nat):Int)-1=(i:Int):=ŉ;obtain⟨ap,an⟩:=SC f;rw[e1];refine WC.skip<|WE.then<|sr<|yy (Y0.hU dN rfl (g _ _ _ hb)) rfl<|yy (Y0.sub rfl rfl) rfl ?_
  rw[am];refine sg rfl rfl<|nx<|WC.uY (X:=Nat) (λm=>[(0,.func (.yield O) #[] #[]),(1,.pointer (some ⟨b,0,none⟩)),(3,.pointer (some ⟨t,0,none⟩)),(5,.int .i64 (i:Int)),(6,.int .i64 (m:Int))])
   (λm=>m<=n-1/\wc p (Θ p (i:Int)) (n-1)=m) (λ_=>St w0 G0 P ((9003,some ⟨t,.cells (lY p) 71 (0,0),0⟩)::y s')) ?_ ?_
  .refine WC.block<|WC.gZ (X:=Nat) (λm=>[(0,.func (.yield O) #[] #[]),(1,.pointer (some ⟨b,0,none⟩)),(3,.pointer (some ⟨t,0,none⟩)),(5,.int .i64 (i:Int)),(6,.int .i64 (m:Int))])
    (λm=>i+1<=m/\m<=n-1/\wc p (Θ p (i:Int)) (n-1)=wc p (Θ p (i:Int)) m) (λ_=>St w0 G0 P ((9003,some ⟨t,.cells (lY p) 71 (0,0),0⟩)::y s')) (λm=>m) (n-1) (fc rfl (fc rfl (fc rfl (fc rfl (fc rfl fn))))) ⟨ŉ,ĉ _,rfl⟩ (λw d=>d) ?_
   rintro m ⟨ao,hm,r⟩;obtain⟨m,rfl⟩:∃q,m=q+1:=⟨m-1,ŉ⟩;have e3:i64.wrap (((m+1:Nat):Int)-1)=(m:Int):=by rw[ĩ];omega
   refine WC.seq ?_;refine é ?_;intro _;refine cn (λ_ a=>Y0.jC underlying71 jZ rfl rfl ⟨ŉ,ŉ⟩)<|cn (λ_ a=>Y0.Ô 9003 dN rfl rfl (vJ p (show m+1<8 by omega))) ?_
   refine é ?_;refine cn (λ_ a=>Y0.jC underlying71 jZ rfl rfl ⟨ŉ,ŉ⟩)<|cn (λ_ a=>Y0.Ô 9003 dN rfl rfl (vJ p (show i<8 by omega))) ?_
   refine é ?_;refine WC.eC (p:=Θ p ((m+1:Nat):Int)<Θ p (i:Int)) rfl (λu=>?_) (λu=>?_)
   .have D:wc p (Θ p (i:Int)) (m+1)=wc p (Θ p (i:Int)) m:=by show(if _ then _ else _)=_;rw[ą u]
    have aq:i+1≠m+1:=λe=>by rw[<-e]at u;omega
    refine WC.skip<|WE.then<|WC.block<|WC.region<|mv rfl rfl<|yy (Y0.sub rfl rfl) rfl ?_
    rw[e3];exact sg rfl rfl<|WL.nil<|WE.inBlock<|WE.gH (x:=m+1) m ⟨ŉ,ŉ,by rw[r,D]⟩ (fc rfl (fc rfl (fc rfl (fc rfl (fc rfl fn))))) (λw d=>d) (ů m)
   have D:wc p (Θ p (i:Int)) (m+1)=m+1:=by show(if _ then _ else _)=_;rw[ā u]
   exact WC.exit<|WE.å<|WE.å<|WE.Í<|WE.oU (m+1) ⟨hm,by rw[r,D]⟩ (fc rfl (fc rfl (fc rfl (fc rfl (fc rfl fn))))) (λw d=>d)
  rintro m ⟨hm,r⟩;have e4:i64.wrap ((i:Int)+1)=((i+1:Nat):Int):=by rw[ĩ];omega
  have F:(Δ n)[j+1]?=some (oZ (yp p i m) (i+1) (n-(i+1)) ((n-(i+1)) / 2)):=by rw[S];unfold n2;rw[f];dsimp only;rw[r]
  refine WC.seq<|WC.drawn [false,true,false,false,false,false,false,false,false] eP İ (λad=>?_)
  refine é ?_;refine cn (λ_ a=>Y0.jC underlying71 jZ rfl rfl ⟨ŉ,ŉ⟩)<|cn (λ_ a=>Y0.Ô 9003 dN rfl rfl (vJ p (show m<8 by omega))) ?_
  refine é ?_;refine cn (λ_ a=>Y0.jC underlying71 jZ rfl rfl ⟨ŉ,ŉ⟩)<|cn (λ_ a=>Y0.Ô 9003 dN rfl rfl (vJ p (show i<8 by omega)))<|cn (λ_ a=>Y0.jC underlying71 jZ rfl rfl ⟨ŉ,ŉ⟩)<|γ.na ad ?_
  refine WL.fL 9003 (lY (ζ p i (Θ p (m:Int)))) Zh jZ rfl rfl rfl (by rw[Zy];omega) rfl (vD _ _ _ _ _) ?_;refine yy (Y0.jC underlying71 jZ rfl rfl ⟨ŉ,ŉ⟩) rfl ?_;refine WL.fL 9003 (lY (yp p i m)) Zh jZ rfl rfl rfl (by rw[Zy];omega) rfl (vD _ _ _ _ _) ?_;refine WL.nil<|WE.nx<|WE.then<|WC.region<|mv rfl rfl<|yy (Y0.eq (Y0.add rfl rfl) (đ (Value.int .i64) e4)) rfl<|yy (Y0.hU dN rfl (g _ _ _ hb)) rfl<|yy (Y0.Di underlying71 jZ rfl rfl rfl (show i+1<8 by omega) (show i+1<=n by omega) (show n<=8 by omega)) rfl ?_
  refine WL.kf Zh rfl (YC.of Ic rfl) (Zvq t (i+1) (n-(i+1)) (8-(i+1)) (yp p i m) ŉ) rfl trivial (lc rfl ln) aa (λv G2 L2 B l=>?_);obtain⟨rfl,rfl⟩:=l;refine WL.nil<|WE.inBlock<|WE.gH (x:=(j,p,s,G)) (j+1,_,s',G2) ⟨F,Q,Mem.le_trans g B,E _ _ _ B Y⟩ (fc rfl (fc rfl (fc rfl fn))) (λw d=>d.weaken (λq z hq=>?_)) (by show(Δ n).length-(j+1)<(Δ n).length-j;omega)
  simp only[Lo.gn,ġ,Œ,ĸ,ļ,Lo.Zp]at hq⊢;split at hq
  .rename_i e;rw[ą e];exact hq
  rename_i e;simp only[ā e];exact hq
abbrev sj(c:Zb)(q:ŀ Addr×Nat×ŀ Addr×Nat):Ŀ Value:=[.int .i64 c.n,.slice q.1 c.eqs.length q.2.1,.slice q.2.2.1 c.ε.length q.2.2.2]
abbrev wL:=Zb×(ŀ Addr×Nat×ŀ Addr×Nat)×(Fin 8->Int)×Ĳ
theorem PH(S:Zb)(O:ŀ Addr)(L:Nat)(D:ŀ Addr)(C:Nat)(r:Zb×(Fin 8->Int))(hr:(Ew S).Α r):Cr 31 #[.agg ([.int .i64 S.n,.slice O S.eqs.length L,.slice D S.ε.length C]).toArray] (λG=>Η RP G (.slice O S.eqs.length L) S.eqs/\Η RP G (.slice D S.ε.length C) S.ε)
  (λG v=>∃W V R Q,v=.tuple #[.agg ([.int .i64 r.1.n,.slice W r.1.eqs.length V,.slice R r.1.ε.length Q]).toArray,.agg (ö (Value.int .i64) 8 r.2).toArray]/\Η RP G (.slice W r.1.eqs.length V) r.1.eqs/\Η RP G (.slice R r.1.ε.length Q) r.1.ε):=by
 obtain⟨⟨bh,bi⟩,aK,aA,hr⟩:=hr
 replace hr:_=r:=hr
 subst hr
 obtain⟨n,hn⟩:∃n:Nat,S.n=n:=⟨S.n.toNat,ŉ⟩
 rw[hn,ē]at aA
 refine eL.sx (args:=[_]) (N:=45) func31 rfl rfl rfl (λw0 G0 aV aM=>?_)
 obtain⟨ax,ak⟩:=aM
 refine sr<|WL.box 1 Zh rfl rfl (λb1=>?_)
 refine WL.alloc 2 Zh rM rfl (λb2=>WL.alloc 3 Zh u7 rfl (λb3=>nr<|WL.alloc 4 Zh rM rfl (λb4=>nr<|WL.alloc 5 Zh u7 rfl (λb5=>nr<|WL.alloc 6 Zh z9 rfl (λb6=>?_)))))
 refine WL.fL 6 #[.string ByteArray.empty] Zh yu rfl rfl rfl aaP rfl rfl ?_
 refine nx<|WC.seq<|sr<|yy (Y0.Gz rfl) rfl<|yy (Y0.Ô 1 dN rfl rfl rfl) rfl ?_
 refine WL.call Zh rfl (YC.of Yp rfl) (Zyh S.n) rfl trivial (λv G1 aB X=>?_)
 obtain⟨bn,rfl,aL⟩:=X
 rw[hn]at aL
 refine nx ?_
 refine WC.n5 (t:=14) (f:=135) rfl Ib (λac d lp rec ha a9 aY ba aZ has aX=>?_)
 let Lc:wL->Lo:=λs=>[(8001,some ⟨lp,.loop rec,0⟩),(8002,some ⟨d,.deferred (some []),0⟩),(1,some ⟨b1,.cells ([.int .i64 S.n,.slice O S.eqs.length L,.slice D S.ε.length C]:Ŀ Value).toArray 48 (0,0),0⟩),(2,some ⟨b2,.cells (sj ⟨0,[],[]⟩ (none,0,none,0)).toArray 48 (0,0),0⟩),(3,some ⟨b3,.cells (lY λ_=>0) 71 (0,0),0⟩),
  (4,some ⟨b4,.cells (sj s.1 s.2.1).toArray 48 (0,0),0⟩),(5,some ⟨b5,.cells (lY s.2.2.1) 71 (0,0),0⟩),(6,some ⟨b6,.cells #[.string s.2.2.2] 9 (0,0),0⟩)]
 refine⟨_,Lc (⟨0,[],[]⟩,(none,0,none,0),λ_=>0,ByteArray.empty),_,lc rfl (lc rfl (lc rfl (lc rfl (lc rfl (lc rfl (lc rfl (lc rfl ln))))))),λi _=>by rw[aV];rfl,
  ZwT bn n ŉ ŉ lp (λj s=>(nj S ((Δ n).drop j) (s.1,s.2.2)).Α aK) Lc (λs G=>Η RP G (.slice O S.eqs.length L) S.eqs/\Η RP G (.slice D S.ε.length C) S.ε/\Η RP G (.slice s.2.1.1 s.1.eqs.length s.2.1.2.1) s.1.eqs/\Η RP G (.slice s.2.1.2.2.1 s.1.ε.length s.2.1.2.2.2) s.1.ε)
   (λs i hi=>?_) (λG G' s m ⟨q1,q2,q3,q4⟩=>⟨q1.mono m,q2.mono m,q3.mono m,q4.mono m⟩) (λj u s hj hI=>?_) _ (by rw[aa9];exact aA) ?_,⟨aL,ax.mono aB,ak.mono aB,Η.nil _ _,Η.nil _ _⟩,λG' L' v m X=>?_⟩
 .simp only[Lc]
  rw[Lo.Zp,ā ŉ,Lo.Zp,ā ŉ,Lo.Zp,ā ŉ,Lo.Zp,ā ŉ,Lo.Zp,ā ŉ,Lo.Zp,ā ŉ,Lo.Zp,ā ŉ,Lo.Zp,ā ŉ];rfl
 .refine qG.To (N:=45) rfl a9 aY aZ (by rw[ba];exact ha.round ĳ) (λbl G bg hG=>?_)
  obtain⟨⟨ai,aj,aF,aG⟩,p,hp,rfl⟩:=hG
  obtain⟨c,q,f,key⟩:=s
  dsimp only at hI aF aG⊢
  rw[ĭ hj,show(Δ n)[j]=p by rw[Ą hj]at hp;exact Ŧ hp]at hI
  obtain⟨ay,⟨ag,aQ,ah,aR,a,aS,hr⟩,aw⟩:=hI
  refine GC has ?_
  refine ga.region RC rfl (WL.alloc 7 Zh u7 rfl (λb7=>?_))
  refine WL.fq 7 Zh oe rfl rfl rfl (Zy _ _ _) (Zy _ _ _) (λu Z=>zf _ _ _ (λ_=>rfl) u (by simpa using Z))<|WL.nil (λa1 v1 aW aP=>⟨_,_,_,aW,aP,rfl,?_⟩)
  refine GC aX ?_
  refine ga.block<|ga.seq ?_
  refine ga.drawn (AQ (xn xr)) rfl [false,false,false,false,false,false,false,false,false,false,false,false,false,true,false] eP İ (λhb=>?_)
  refine cn (λ_ m=>Y0.Gz rfl)<|cn (λ_ m=>Y0.Ô 1 dN rfl rfl rfl)<|cn (λ_ m=>Y0.Mu rfl)<|cn (λ_ m=>Y0.Ô 1 jY rfl rfl rfl)<|cn (λ_ m=>Y0.eR 7 lL rfl rfl (Zy _ _ _)) ?_
  refine γ.pM (post:=λG v=>∃I H,v=.slice I ag.length H/\Η (Rp.sl Zk) G (.slice I ag.length H) ag) (λ_=>Zh) (λ_ _=>YC.of O1 rfl) (Jh _ _ _ _ _ aQ) rfl (λG' m=>(ai.mono m)) (λv G1 G2 m h=>?_) ?_
  .obtain⟨I,H,rfl,ad⟩:=h
   exact⟨_,_,rfl,ad.mono m⟩
  refine cu (λ_ _ m=>Y0.Mv rfl)<|cu (λ_ _ m=>Y0.Ô 1 jY rfl rfl rfl)<|cu (λ_ _ m=>Y0.eR 7 lL rfl rfl (Zy _ _ _)) ?_
  refine γ.pM (post:=λG v=>∃K J,v=.slice K ah.length J/\Η (Rp.sl Zk) G (.slice K ah.length J) ah) (λ_=>Zh) (λ_ _=>YC.of O1 rfl) (Jh _ _ _ _ _ aR) rfl (λG' m=>(aj.mono m)) (λv G1 G2 m h=>?_) ?_
  .obtain⟨K,J,rfl,ae⟩:=h
   exact⟨_,_,rfl,ae.mono m⟩
  refine γ.sa (f:=23) (φ:=λG v=>∃l k g e,v=.tuple #[.agg ([.int .i64 a.1.n,.slice l a.1.eqs.length k,.slice g a.1.ε.length e]).toArray,.int .i64 a.2]/\Η (Rp.sl Zk) G (.slice l a.1.eqs.length k) a.1.eqs/\Η (Rp.sl Zk) G (.slice g a.1.ε.length e) a.1.ε) (λ_=>Zh) (λv G1 G2 m h=>?_) (λu G' m Z=>?_) ?_
  .obtain⟨l,k,g,e,rfl,A,y⟩:=h
   exact⟨_,_,_,_,rfl,A.mono m,y.mono m⟩
  .obtain⟨⟨K,J,aI,ae⟩,⟨I,H,aH,ad⟩,_⟩:=(show(λG v=>∃K J,v=.slice K ah.length J/\Η (Rp.sl Zk) G (.slice K ah.length J) ah) G'.m (u 25)/\(λG v=>∃I H,v=.slice I ag.length H/\Η (Rp.sl Zk) G (.slice I ag.length H) ag) G'.m (u 21)/\True from Z)
   exact⟨_,_,_,λ_=>YC.of X5 rfl,Pz _ _ _ _ _ _ _ _ aS,(by simp only[aI,aH]<;>rfl),⟨ad,ae⟩⟩
  refine γ.yB (φ:=λG v=>∃p1 E p2 F,v=.tuple #[.agg ([.int .i64 a.1.n,.slice p1 a.1.eqs.length E,.slice p2 a.1.ε.length F]).toArray,.int .i64 a.2]/\Η (Rp.sl Zk) G (.slice p1 a.1.eqs.length E) a.1.eqs/\Η (Rp.sl Zk) G (.slice p2 a.1.ε.length F) a.1.ε) (λ_=>Zh) (λv G1 G2 m h=>?_) (λu G' m Z=>?_) ?_
  .obtain⟨p1,E,p2,F,rfl,al,am⟩:=h
   exact⟨_,_,_,_,rfl,al.mono m,am.mono m⟩
  .obtain⟨⟨l,k,g,e,aJ,A,y⟩,_,_,_⟩:=(show(λG v=>∃l k g e,v=.tuple #[.agg ([.int .i64 a.1.n,.slice l a.1.eqs.length k,.slice g a.1.ε.length e]).toArray,.int .i64 a.2]/\Η (Rp.sl Zk) G (.slice l a.1.eqs.length k) a.1.eqs/\Η (Rp.sl Zk) G (.slice g a.1.ε.length e) a.1.ε) G'.m (u 26)/\True/\True/\True from Z)
   simp only[υ,aJ]
   exact⟨_,Y0.move rfl,l,k,g,e,rfl,A,y⟩
  refine γ.yB (φ:=λG v=>∃p3 T p4 U,v=.agg ([.int .i64 a.1.n,.slice p3 a.1.eqs.length T,.slice p4 a.1.ε.length U]).toArray/\Η (Rp.sl Zk) G (.slice p3 a.1.eqs.length T) a.1.eqs/\Η (Rp.sl Zk) G (.slice p4 a.1.ε.length U) a.1.ε) (λ_=>Zh) (λv G1 G2 m h=>?_) (λu G' m Z=>?_) ?_
  .obtain⟨p3,T,p4,U,rfl,an,ao⟩:=h
   exact⟨_,_,_,_,rfl,an.mono m,ao.mono m⟩
  .obtain⟨⟨p1,E,p2,F,aa,al,am⟩,_,_,_,_⟩:=(show(λG v=>∃p1 E p2 F,v=.tuple #[.agg ([.int .i64 a.1.n,.slice p1 a.1.eqs.length E,.slice p2 a.1.ε.length F]).toArray,.int .i64 a.2]/\Η (Rp.sl Zk) G (.slice p1 a.1.eqs.length E) a.1.eqs/\Η (Rp.sl Zk) G (.slice p2 a.1.ε.length F) a.1.ε) G'.m (u 15)/\True/\True/\True/\True from Z)
   simp only[υ,aa]
   exact⟨_,Y0.extract rfl rfl,p1,E,p2,F,rfl,al,am⟩
  refine γ.pW (c:=.int .i64 a.2) (λ_=>Zh) (λu G' m Z=>?_) ?_
  .obtain⟨_,⟨p1,E,p2,F,aa,al,am⟩,_,_,_,_⟩:=(show True/\(λG v=>∃p1 E p2 F,v=.tuple #[.agg ([.int .i64 a.1.n,.slice p1 a.1.eqs.length E,.slice p2 a.1.ε.length F]).toArray,.int .i64 a.2]/\Η (Rp.sl Zk) G (.slice p1 a.1.eqs.length E) a.1.eqs/\Η (Rp.sl Zk) G (.slice p2 a.1.ε.length F) a.1.ε) G'.m (u 15)/\True/\True/\True/\True from Z)
   simp only[υ,aa]
   exact Y0.extract rfl rfl
  refine γ.alloc (λ_=>Zh) rM ?_
  refine γ.nz (λbm bf be bd bc bb X1 B az av au ar aq ap=>?_)
  obtain⟨b8,rfl,aU⟩:=az
  obtain⟨p3,T,p4,U,rfl,an,ao⟩:=av
  obtain⟨p1,E,p2,F,rfl,al,am⟩:=au
  obtain⟨l,k,g,e,rfl,A,y⟩:=ar
  obtain⟨K,J,rfl,ae⟩:=aq
  obtain⟨I,H,rfl,ad⟩:=ap
  refine WL.mQ aU (WL.DJ (show WL _ _ _ _ _ _ (St _ _ X1.m _)from ?_))
  refine WL.fq 8 Zh re rfl rfl rfl rfl rfl (Ć.1 rfl) ?_
  refine sg rfl rfl<|WL.nil ?_
  refine WE.nx ?_
  refine ga.then<|ga.seq<|ga.seq<|ga.region (AQ (AQ (xn xr))) rfl<|mv rfl rfl<|yy (Y0.neq rfl rfl) rfl<|WL.nil<|ga.then ?_
  refine ga.eC (p:=¬a.2=0) rfl (λaD=>?_) (λaD=>?_)
  .replace hr:=hr.pos aD
   replace hr:_=ay:=hr
   subst hr
   refine ga.exit<|WE.å<|WE.Í ?_
   exact λa2 w2 _ Y=>⟨_,_,Lc (c,q,f,key),Y,rfl,lc rfl (lc rfl (lc rfl (lc rfl (lc rfl (lc rfl (lc rfl (lc rfl ln))))))),rfl,(c,q,f,key),aw,rfl,ai.mono B,aj.mono B,aF.mono B,aG.mono B⟩
  replace hr:=hr.neg aD
  obtain⟨ab,aT,hr⟩:=hr
  refine ga.skip<|ga.then<|ga.seq<|ga.region (AQ (xn xr)) rfl<|yy (Y0.eR 8 lK rfl rfl rfl) rfl ?_
  refine WL.gT Zh rfl (YC.of yD rfl) (yF _ _ _ _ _ _ aT) rfl (⟨an,ao⟩) ?_
  refine sg rfl rfl<|WL.nil<|ga.then<|ga.seq<|ga.region (AQ (xn xr)) rfl<|yy (Y0.Ô 6 Dg rfl rfl rfl) rfl ?_
  refine WL.lP (p:=key=ByteArray.empty) Zh (Y0.uD underlying9 rfl rfl) rfl (λaC=>?_) (λaC=>?_)
  .replace hr:=hr.pos aC
   replace hr:_=ay:=hr
   subst hr
   refine mv rfl rfl<|sf rfl rfl rfl<|sf rfl rfl rfl<|sf rfl rfl rfl<|yy (Y0.qi rfl rfl) rfl<|WL.nil<|ga.then ?_
   refine ga.cond (b:=true) rfl (λ_=>?_) (λh=>by cases h)
   refine ga.kS (xn xr) rfl [(7,some ⟨b7,.cells (lY p) 71 (0,0),0⟩)] (lc rfl ln) [false,true,true] eP İ (λhb=>?_)
   refine cn (λ_ m=>Y0.eR 8 lK rfl rfl rfl) ?_
   refine γ.iy Zh (Y0.eR 7 lL rfl rfl (Zy _ _ _))<|γ.iy Zh (Y0.move rfl) ?_
   refine γ.jL hb<|fA.one (λw P=>P.weaken (lc rfl ln)) ?_
   refine WL.fq 4 Zh re rfl rfl rfl rfl rfl (Ć.1 rfl)<|fA.back<|fA.one (λw P=>P.weaken (lc rfl ln)) ?_
   refine WL.fq 5 Zh oe rfl rfl rfl (Zy _ _ _) (Zy _ _ _) (λu Z=>zf _ _ _ (λ_=>rfl) u (by simpa using Z))<|fA.back ?_
   refine fA.fL (λw P=>P.weaken (lc rfl ln)) 6 #[.string ab] Zh yu rfl rfl rfl aaP rfl rfl<|fA.nil (λw P=>P.weaken (lc rfl ln))<|WE.nx<|WE.inBlock ?_
   exact λa2 w2 _ Y=>⟨_,_,Lc (a.1,(p3,T,p4,U),p,ab),Y,rfl,lc rfl (lc rfl (lc rfl (lc rfl (lc rfl (lc rfl (lc rfl (lc rfl ln))))))),rfl,(a.1,(p3,T,p4,U),p,ab),aw,rfl,ai.mono B,aj.mono B,an,ao⟩
  replace hr:=hr.neg aC
  refine mv rfl rfl<|gy rfl rfl (Y0.move rfl) rfl<|gy rfl rfl (Y0.Ô 6 Dg rfl rfl rfl) rfl<|gy rfl rfl (Y0.CR rfl rfl) rfl<|yy (Y0.eU rfl rfl) rfl<|WL.nil<|ga.then ?_
  refine ga.cond (b:=Op.bytesLess ab.toList key.toList) rfl (λaE=>?_) (λaE=>?_)
  .replace hr:=hr.pos aE
   replace hr:_=ay:=hr
   subst hr
   refine ga.kS (xn xr) rfl [(7,some ⟨b7,.cells (lY p) 71 (0,0),0⟩)] (lc rfl ln) [false,true,true] eP İ (λhb=>?_)
   refine cn (λ_ m=>Y0.eR 8 lK rfl rfl rfl) ?_
   refine γ.iy Zh (Y0.eR 7 lL rfl rfl (Zy _ _ _))<|γ.iy Zh (Y0.move rfl) ?_
   refine γ.jL hb<|fA.one (λw P=>P.weaken (lc rfl ln)) ?_
   refine WL.fq 4 Zh re rfl rfl rfl rfl rfl (Ć.1 rfl)<|fA.back<|fA.one (λw P=>P.weaken (lc rfl ln)) ?_
   refine WL.fq 5 Zh oe rfl rfl rfl (Zy _ _ _) (Zy _ _ _) (λu Z=>zf _ _ _ (λ_=>rfl) u (by simpa using Z))<|fA.back ?_
   refine fA.fL (λw P=>P.weaken (lc rfl ln)) 6 #[.string ab] Zh yu rfl rfl rfl aaP rfl rfl<|fA.nil (λw P=>P.weaken (lc rfl ln))<|WE.nx<|WE.inBlock ?_
   exact λa2 w2 _ Y=>⟨_,_,Lc (a.1,(p3,T,p4,U),p,ab),Y,rfl,lc rfl (lc rfl (lc rfl (lc rfl (lc rfl (lc rfl (lc rfl (lc rfl ln))))))),rfl,(a.1,(p3,T,p4,U),p,ab),aw,rfl,ai.mono B,aj.mono B,an,ao⟩
  replace hr:=hr.neg (Ź.1 aE)
  replace hr:_=ay:=hr
  subst hr
  refine ga.skip<|WE.inBlock ?_
  exact λa2 w2 _ Y=>⟨_,_,Lc (c,q,f,key),Y,rfl,lc rfl (lc rfl (lc rfl (lc rfl (lc rfl (lc rfl (lc rfl (lc rfl ln))))))),rfl,(c,q,f,key),aw,rfl,ai.mono B,aj.mono B,aF.mono B,aG.mono B⟩
 .intro q hq x hx
  simp only[Lc,Ď,ĝ,ţ]at hq
  rcases hq with rfl|rfl|rfl|rfl|rfl|rfl|rfl|rfl<;>cases hx<;>rfl
 obtain⟨rfl,⟨c,q,f,key⟩,hI,rfl,bj,bk,aN,aO⟩:=X
 dsimp only at hI aN aO
 rw[aaf]at hI
 replace hI:(c,f,key)=aK:=hI
 subst hI
 refine⟨rfl,mO.seq<|mO.kS [(5,some ⟨b5,.cells (lY f) 71 (0,0),0⟩)] (lc rfl ln) [false,true] eP İ (λhb=>?_)⟩
 refine cn (λ_ m=>Y0.eR 4 lK rfl rfl rfl) ?_
 refine γ.iy Zh (Y0.eR 5 lL rfl rfl (Zy _ _ _)) ?_
 refine γ.jL hb<|fA.one (λw P=>P.weaken (lc rfl ln)) ?_
 refine WL.fq 2 Zh re rfl rfl rfl rfl rfl (Ć.1 rfl)<|fA.back<|fA.one (λw P=>P.weaken (lc rfl ln)) ?_
 refine WL.fq 3 Zh oe rfl rfl rfl (Zy _ _ _) (Zy _ _ _) (λu Z=>zf _ _ _ (λ_=>rfl) u (by simpa using Z))<|fA.back<|fA.nil (λw P=>P.weaken (lc rfl ln))<|WE.nx<|mO.then<|mO.ret ?_
 refine WE.Dc (rvs:=[.cell 2 48,.cell 3 71]) [] [.agg (sj c q).toArray,.agg (lY f)] rfl rfl rfl (λi rv v e1 e2=>?_) ln ⟨_,_,_,_,rfl,aN,aO⟩
 match i with
 |0=>simp at e1 e2;subst e1 e2;exact RV.pN (i:=2) lK rfl rfl rfl
 |1=>simp at e1 e2;subst e1 e2;exact RV.pN (i:=3) lL rfl rfl (Zy _ _ _)
 |i+2=>simp at e1
theorem VW(n:Int):oz 168 (λ_=>[.int .i64 n]) (λ_=>True) (kG n):=by
 by_cases h:0<=n
 .rw[show kG n=lz n from ą h];exact Th n h
 rw[show kG n=_ from ā h];intro j xs s d;refine é ?_;intro w0 G0 _ e a _;refine WC.eC (p:=(0:Int)<=n) rfl (λf=>absurd f h) (λf=>?_);refine é ?_;refine WL.ø (S':=St w0 G0 G0 (hC j s xs.length++[])) (λw i=>i) ?_;refine ZV [] (xi _ (ph _)) Zh rfl (YC.of oy rfl) d a trivial (by rw[e];exact qI a) (λs' G' g c=>?_);exact WL.nil<|WE.je<|WE.iK rfl ⟨rfl,s',rfl,c⟩
theorem ZAa(m:Fin 8->Int):∀k j,k<=j->(fX m k).length<=(fX m j).length:=λk j h=>by
 induction j with
 |zero=>rw[show k=0 by omega];exact ĉ _
 |succ j a=>
  by_cases e:k=j+1
  .rw[e];exact ĉ _
  refine ň (a ŉ) ?_;show _<=(fX m j++_).length;rw[Ā];omega
theorem Zy1{a n:Nat}{s:ŀ Addr×Nat×ŀ Ow}{x:ŀ Ow}:Lo.sub (hC a s n++[]) ((3,x)::hC a s n):=
 show Lo.sub [(6000,some ⟨a,.cells #[.slice s.1 n s.2.1] 212 (0,0),0⟩),(5000,s.2.2)] _ from lc rfl (lc rfl ln)
theorem ZvW(m:Fin 8->Int):oz 244 (λ_=>[.agg (ö (Value.int .i64) 8 m).toArray]) (λ_=>True) (fX m 8):=by
 intro h xs s e;refine eL.enter (args:=[_,_]) (N:=14) func244 rfl rfl rfl (λw0 G0 i f=>?_);obtain⟨a,_⟩:=f;have v:w0.L.zero:=by rw[i];exact qI a
 rw[Ā]at e;refine sr<|WL.box 3 Zh rfl rfl (λA=>nx ?_)
 refine sr<|yy (Y0.eR 3 lL rfl rfl (Zy _ _ _)) rfl<|mv rfl rfl<|nx<|WC.block ?_
 refine WC.ø (S':=St w0 G0 G0 (hC h s xs.length++[])) (λw d=>d.weaken Zy1) ?_;refine WC.gZ (X:=Nat×(ŀ Addr×Nat×ŀ Ow)×Mem) (λc=>match c with|⟨k,_,_⟩=>[(0,.pointer (some ⟨h,0,none⟩)),(6,.agg (ö (Value.int .i64) 8 m).toArray),(7,.int .i64 (k:Int))])
  (λc=>match c with|⟨k,s',G⟩=>k<=8/\rh G s' (xs++fX m k))
  (λc=>match c with|⟨k,s',G⟩=>St w0 G0 G (hC h s' (xs++fX m k).length)) (λc=>8-c.1) ⟨0,s,G0⟩ (fc rfl (fc rfl (fc rfl fn))) ⟨ŉ,by rw[show fX m 0=[]from rfl,ę];exact a⟩ (λw d=>by show St _ _ _ (hC h s (xs++fX m 0).length) _;rw[show fX m 0=[]from rfl,ę];exact d) ?_
 rintro⟨k,s',G⟩ ⟨r,hr⟩;dsimp only at r hr⊢;refine sr ?_;refine é ?_;intro hr;refine WC.eC (p:=(k:Int)<8) rfl (λq=>?_) (λq=>?_)
 .have u:i64.wrap ((k:Int)+1)=((k+1:Nat):Int):=by rw[ĩ];omega
  have hi:(0:Int)<=(k:Int)/\(k:Int)<(8:Nat):=⟨ŉ,ŉ⟩;have B:=ZAa m (k+1) 8 ŉ;have t:(fX m (k+1)).length=(fX m k).length+(kG (Θ m (k:Int))).length:=Ā;refine WC.skip<|WE.then<|WC.seq<|WC.block<|sr<|yy (Y0.index underlying71 dN jZ rfl rfl hi (tF _ _ _ hi)) rfl ?_
  refine Ο ?_;intro hr;refine WL.ø (S':=St w0 G0 G (hC h s' (xs++fX m k).length++[])) (λw d=>d) ?_;refine ZV [] (VW _) Zh rfl (YC.of wN rfl) (by rw[Ā,Ā];omega) hr trivial v (λy n l g=>?_);refine WL.nil<|WE.inBlock<|WE.then<|WC.region<|yy (Y0.add rfl rfl) rfl ?_
  rw[u];rw[Đ xs]at g⊢;exact mv rfl rfl<|WL.nil<|WE.gH (x:=(k,s',G)) (k+1,y,n) ⟨ŉ,g⟩ (fc rfl (fc rfl (fc rfl fn))) (λw d=>d) (by show 8-(k+1)<8-k;omega)
 have j:k=8:=ŉ;subst j;exact WC.exit<|WE.å<|WE.å<|WE.Í<|WE.je<|WE.iK rfl ⟨rfl,s',rfl,hr⟩
theorem ZAm(l:Ŀ (Fin 8->Int))(p:ŀ Addr)(c:Nat):oz 243 (λq=>[.slice p l.length c,.func (.func 244) #[.pointer (some ⟨q,0,none⟩)] #[]]) (λG=>Η (Rp.vec .i64 8) G (.slice p l.length c) l) (jG l):=by
 intro q xs s a;refine eL.enter (args:=[_,_,_]) (N:=23) func243 rfl rfl rfl (λw0 G0 A v=>?_);obtain⟨e,n⟩:=v;have F:w0.L.zero:=by rw[A];exact qI e
 have O:l.length<=9223372036854775807:=by obtain⟨_,_,_,_,h,_⟩:=n;omega
 unfold jG at a⊢;generalize hH:fw (u64.wrap (l.length:Int))=H at a⊢;rw[Ā,Ā]at a;refine sr<|mv rfl rfl<|mv rfl rfl<|yy (Y0.mE underlying51 rfl) rfl<|yy (Y0.conv underlying3 underlying250 rfl) rfl ?_
 refine WL.ø (S':=St w0 G0 G0 (hC q s xs.length++[])) (λw j=>j) ?_;refine ZV [] (xi _ (ph _)) Zh rfl (YC.of oy rfl) (by rw[hH,Ā];omega) e trivial F (λI J r d=>?_);rw[hH]at d⊢;refine nx<|sr<|mv rfl rfl<|yy (Y0.mE underlying51 rfl) rfl<|mv rfl rfl<|nx<|WC.block ?_
 refine WC.gZ (X:=Nat×(ŀ Addr×Nat×ŀ Ow)×Mem) (λf=>match f with|⟨k,_,_⟩=>[(0,.pointer (some ⟨q,0,none⟩)),(2,.func (.func 244) #[.pointer (some ⟨q,0,none⟩)] #[]),(13,.slice p l.length c),(14,.int .i64 (l.length:Int)),(15,.int .i64 (k:Int))])
  (λf=>match f with|⟨k,s',G⟩=>k<=l.length/\Mem.le G0 G/\rh G s' (xs++H++(l.take k).flatMap λm=>fX m 8))
  (λf=>match f with|⟨k,s',G⟩=>St w0 G0 G (hC q s' (xs++H++(l.take k).flatMap λm=>fX m 8).length)) (λf=>l.length-f.1) ⟨0,I,J⟩ (fc rfl (fc rfl (fc rfl (fc rfl (fc rfl fn))))) ⟨Ĝ _,r,by rw[Ś,Ű,ę];exact d⟩ (λw j=>by show St _ _ _ (hC q I (xs++H++(l.take 0).flatMap λm=>fX m 8).length) _;rw[Ś,Ű,ę];exact j) ?_
 rintro⟨k,s',G⟩ ⟨D,i,hr⟩;refine é ?_;intro hr;refine WC.eC (p:=(k:Int)<(l.length:Int)) rfl (λL=>?_) (λL=>?_)
 .have g:k<l.length:=ŉ;have E:(0:Int)<=(k:Int)/\l[(k:Int).toNat]?=some l[k]:=⟨ŉ,by simp[g]⟩;have Q:i64.wrap ((k:Int)+1)=((k+1:Nat):Int):=by rw[ĩ];omega
  have B:=Md (λm=>fX m 8) l (k+1);rw[y4 (λm=>fX m 8) g,Ā]at B;refine WC.skip<|WE.then<|WC.seq<|WC.block<|sr<|yy (Y0.lS underlying51 oe (n.mono i) rfl rfl E) rfl<|yy (Y0.jE _ lL rfl (Zy _ _ _) (AtK.vec (Η.at (n.mono i) E))) rfl ?_
  refine WL.alloc 7 Zh u7 rfl (λS=>?_);refine WL.fq 7 Zh oe rfl rfl rfl (Zy _ _ _) (Zy _ _ _) (λu P=>zf _ _ _ (λ_=>rfl) u (by simpa using P)) ?_;refine WL.ø (λw j=>j.weaken UX) ?_;refine é ?_;intro hr;refine ZV [(7,_)] (ZvW l[k]) Zh rfl (YC.CX II rfl rfl) (by simp only[Ā];omega) hr trivial F (λR K t y=>?_);refine WL.nil<|WE.inBlock<|WE.then<|WC.region<|yy (Y0.add rfl rfl) rfl ?_
  rw[Q];rw[Đ (xs++H),<-y4 (λm=>fX m 8) g]at y⊢;exact mv rfl rfl<|WL.nil<|WE.gH (x:=(k,s',G)) (k+1,R,K) ⟨ŉ,Mem.le_trans i t,y⟩ (fc rfl (fc rfl (fc rfl (fc rfl (fc rfl fn))))) (λw j=>j.weaken T3) (by show l.length-(k+1)<l.length-k;omega)
 have C:k=l.length:=ŉ;subst C;rw[Ĥ,Đ]at hr⊢;exact WC.exit<|WE.å<|WE.å<|WE.Í<|WE.je<|WE.iK rfl ⟨rfl,s',rfl,hr⟩
theorem ZyZ(l:Ŀ (Fin 8->Int))(p:ŀ Addr)(c:Nat):oz 170 (λ_=>[.slice p l.length c]) (λG=>Η (Rp.vec .i64 8) G (.slice p l.length c) l) (jG l):=by
 intro j xs s e;refine Ο ?_;intro w0 G0 _ f a g;refine WL.ø (S':=St w0 G0 G0 (hC j s xs.length++[])) (λw i=>i) ?_;refine ZV [] (ZAm l p c) Zh rfl (YC.of IH rfl) e a g (by rw[f];exact qI a) (λs' G' h d=>?_);exact WL.nil<|WE.je<|WE.iK rfl ⟨rfl,s',rfl,d⟩
theorem Kh(q:Zc)(p1:ŀ Addr)(p:Nat)(p2:ŀ Addr)(s:Nat)(r:Ĳ)(hr:(A1 q).Α r):Cr 94 #[.agg ([.int .i64 q.kind,.slice p1 q.p.length p,.slice p2 q.o.length s]).toArray] (λG=>Η Zk G (.slice p1 q.p.length p) q.p/\Η (Rp.vec .i64 8) G (.slice p2 q.o.length s) q.o) (λG v=>v=.string r):=by
 refine iM.enter (args:=[_]) (N:=16) func94 rfl rfl rfl (λw0 G0 l m=>?_);obtain⟨I,h2⟩:=m;obtain⟨e,hr⟩:=hr;replace hr:_=r:=hr;subst hr;unfold oI at e⊢;simp only[Ā]at e;have C:∀i,w0.L.get i=none:=λi=>by rw[l];rfl
 have B:w0.L.zero:=by rw[l];intro q J;cases J
 refine sr<|WL.box 1 Zh rfl rfl (λH=>?_)
 refine sg rfl rfl<|nx ?_
 refine WC.gx 1 rfl (C _) (λt c y _=>?_);have x:∀j u,([.int .i64 q.kind,.slice p1 q.p.length p,.slice p2 q.o.length s]:Ŀ Value)[j]?=some u->t H (0+j)=some u:=λj u h=>by rw[Ň];exact y j u (by simpa[Value.cells]using h)
 refine WC.ø (S':=St w0 G0 t []) (λw A=>A.weaken ln) ?_;refine sr<|WL.alloc 6000 Zh z212 rfl (λF=>?_)
 refine WL.ø (S':=St w0 G0 t (hC F (none,0,none) ([]:Ŀ Int).length++[])) (λw A=>A.weaken (show Lo.sub [(6000,some ⟨F,.cells #[.slice none 0 0] 212 (0,0),0⟩),(5000,none)] _ from lc rfl (lw ln))) ?_;refine nx ?_;refine é ?_;refine yy (Y0.hU dN rfl (x 0 _ rfl)) rfl ?_;refine ZV [] (VW q.kind) Zh rfl (YC.of wN rfl) (by simp only[Ā,Ļ];omega) Ε.nil trivial B (λR L a f=>?_);refine é ?_;refine yy (Y0.hU mH rfl (a _ _ _ (x 1 _ rfl))) rfl ?_;refine ZV [] (UW q.p p1 p) Zh rfl (YC.of z8 rfl) (by simp only[Ā,Ļ];omega) f ((I.mono c).mono a) B (λS O d g=>?_);refine é ?_;refine yy (Y0.hU sY rfl (d _ _ _ (a _ _ _ (x 2 _ rfl)))) rfl ?_;refine ZV [] (ZyZ q.o p2 s) Zh rfl (YC.of Io rfl) (by simp only[Ā,Ļ];omega) g ((h2.mono c).mono (Mem.le_trans a d)) B (λT P D k=>?_);refine é ?_;refine WL.jP 5000 k rfl (C _) (λK Q E n _=>?_);refine yy (Y0.kR underlying32 underlying5 underlying9 n rfl) rfl ?_;refine é ?_;exact WE.jX rfl rfl rfl
instance gt'{c r}:SpcM ((cmp_isNaN_int c)) r (Cr 98 #[i' c] (λG=>True) (λG v=>v=.bool r)):=.mk λhr=>Ι
instance Wm{i c r}:SpcM ((D7 i c)) r (Cr 52 #[i' i,i' c] (λG=>True) (λG v=>v=i' r)):=.mk λhr=>Ι
instance iB'{c r}:SpcM ((Kp c)) r (∀{g f},Cr 51 #[δ g c f] (λG=>sl (Rp.int .i64) G g f c) (λG v=>v=i' r)):=.mk λhr {g f}=>by refine Ο ?_;intro o j _ hr _;refine WC.mA hr [3,6,7] [] [3] [] (λ(h:Int)=>⟨h,[(8,i' h)],tr,[]⟩) (λ(_:Unit)=>⟨(.inr ()),[],tr,[]⟩) 0
end Go.Proofs.YtepbagkffgddlaaGreat

