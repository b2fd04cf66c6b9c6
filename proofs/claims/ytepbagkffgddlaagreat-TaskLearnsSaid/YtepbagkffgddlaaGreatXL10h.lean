/- The law TaskLearns holds for every input: a part of its proof (fW the code does, plain models, and fW they return). No condition. -/
import Derived.Test.YtepbagkffgddlaaGreatXL10gb
import Derived.Test.YtepbagkffgddlaaGreatXL10e
set_option linter.unusedVariables false
set_option linter.unusedSimpArgs false
namespace Go.Proofs.YtepbagkffgddlaaGreat
open Go.IntKind (i8 i16 i32 i64 u8 u16 u32 u64)
open Go.Proofs.Tryz
open Go Go.EL Go.RowKit Go.Proofs
set_option maxHeartbeats 4000000
set_option maxRecDepth 20000
instance iQ'{k n r}:SpcM ((Lf k n)) r (∀{f c d e m l},Cr 120 #[.agg ((Τ k f c d e)).toArray,δ m n l] (λG=>su G f c k.num.χ/\su G d e k.den.χ/\sl c' G m l n) (fX c' r)):=.mk λhr {f c d e m l}=>Η
instance gF'{H K F O r}:SpcM ((Bk H K F O)) r (∀{s t},Cr 65 #[.agg ([δ s H.t t]).toArray,i' K,i' F,i' O] (λG=>sl (gb .i8 5) G s t H.t) (fX c' r)):=.mk λhr {s t}=>by
 refine Ν ?_;intro w0 G0 ay b1 p1 an M aP hr E;refine WC.mC hr [1,2,3,4] [4] [] [] (λ(⟨q,m,p,o⟩:(Ŀ Za)×ŀ Addr×Nat×Int)=>⟨(q,o),[(9,δ m q p),(10,i' o)],λQ=>sl c' Q m p q,[]⟩) (λ(⟨W,Y,L⟩:(Ŀ Za)×ŀ Addr×Nat)=>⟨W,[(9,δ Y W L)],λah=>sl c' ah Y L W,[]⟩) ⟨[],p1,0,0⟩ ?_;rintro _ Q ⟨q,m,p,o⟩ n ad hr;refine WC.nB hr [1,2,3,4,9,10] [4] (λ(_:Unit)=>⟨[],Rq H K F q o,tr,[]⟩) ?_;intro T _ hr I _;refine Ν ?_;intro U hr;refine WC.mB hr [1,2,3,4,9,10,11] [4] [1,2,3,4,9,10,11] [4] (λ(⟨y,l,P⟩:Int×Int×(Fin 8->Int))=>⟨(y,l,P),[(12,i' y),(13,i' l)],tr,[(11,ö U (Ô P) 145)]⟩) (λ(J:(Fin 8->Int))=>⟨J,[],tr,[(11,ö U (Ô J) 145)]⟩) ⟨F,0,(λ_=>0)⟩ ?_;intro am J hr S _;refine b'<|fE [tt,ff,ff,ff,ff,ff,ff,ff,ff,ff,ff,ff] eJ İ λhb=>uA z (k' z)<|cn (λ_ j=>Y0.VC z)<|cn (λ_ j=>n' 4 Dg z z z)<|fR z ?_
 obtain⟨x1,x,hr⟩:=hr;have a:=mx (mx (mx M n) I) S;refine cn (λ_ j=>kf fY' wH ((E.mono a).mono j) z z x)<|cn (λ_ j=>We underlying197 tg z z ĳ)<|cn (λ_ j=>nI sW z (GY (T' (T' (iI E x) a) j) ĳ))<|cn (λ_ j=>xX z z ĳ)<|cn (λ_ j=>pK Wf dw' z)<|oE hr λu aE hr=>pJ (post:=eA u) (λ_=>z) (λ_ _=>x' D1 z) (GW.h aE) z (λG' j=>trivial) (λv X G2 j h=>?_) ?_
 .obtain⟨ac,aa,V,Z,rfl,B,A⟩:=h;exact⟨_,_,_,_,z,B.mono j,A.mono j⟩
 refine oE hr λk aF hr=>pJ (post:=eA k) (λ_=>z) (λ_ _=>x' D1 z) (GW.h aF) z (λG' j=>trivial) (λv X G2 j h=>?_) ?_
 .obtain⟨c,g,f,i,rfl,D,C⟩:=h;exact⟨_,_,_,_,z,D.mono j,C.mono j⟩
 refine cu (λ_ _ j=>y' 11 GO z z (U' _ _ _))<|GZ (d:=67) (post:=eA k) (d':=66) (post':=eA u) (λa4 a5 ba af al ai=>?_)
 obtain⟨c,g,f,i,rfl,D,C⟩:=al;obtain⟨ac,aa,V,Z,rfl,B,A⟩:=ai;refine Γ (me (vs:=#[(0,.agg ((Τ k c g f i)).toArray),(1,.agg (Ô J).toArray)]) (v:=.agg (((Τ k c g f i):Ŀ Value)++(Ô J)).toArray) z z (λ_=>İ))<|ng (e:=147) (r:=c') (vs:=#[(0,.agg (((Τ k c g f i):Ŀ Value)++(Ô J)).toArray)]) (cs:=(((Τ k c g f i):Ŀ Value)++(Ô J))++([])) ([(Za.mk k J)]:Ŀ Za) z z z z z ĳ (λ_=>İ) ⟨((Τ k c g f i):Ŀ Value)++(Ô J),[],z,⟨(Τ k c g f i),Ô J,z,⟨(η k.num c g),(η k.den f i),z,⟨[.bool k.num.neg],[δ c k.num.χ g],z,z,⟨_,z,D⟩⟩,⟨[.bool k.den.neg],[δ f k.den.χ i],z,z,⟨_,z,C⟩⟩⟩,z⟩,z⟩ (key:=999) z (by rw[ay];rfl) (λp2 bc R aQ=>?_)
 refine oE hr λbb aK hr=>gW z z (x' Ie z) (iQ'.h aK) z (⟨(B.mono R),(A.mono R),aQ⟩) (λa0 a9 N ak=>?_);obtain⟨aZ,a6,rfl,aD⟩:=ak;refine oE hr λaM aC hr=>gW z z (x' zY z) (W0.h aC) z (⟨(ad.mono (mx (mx (mx (mx I S) af) R) N)),aD⟩) (λa3 aT ar aj=>?_);obtain⟨aI,aH,rfl,aG⟩:=aj;have N2:=mx (mx (mx (mx (mx (mx n I) S) af) R) N) ar;exact Η
instance iY'{x r}:SpcM ((FT x)) r (∀{Y V F H},Cr 63 #[.agg ((OF x Y V F H)).toArray] (λG=>sl tS G Y V x.l/\sl (Rp.int .u8) G F H x.iu) (DP r)):=.mk λhr {Y V F H}=>by
 refine Ν ?_;intro w0 G0 _ aw al b1 b2 _ aH S bb hr _;obtain⟨bg,hr⟩:=hr;refine WL.slice3 (r:=Rp.str) z z BU yx z bb z z z bg λp2 bd=>?_;refine æ ?_;intro b3 hr;refine WC.mC (hH:=by exact⟨bd,(X' _ _),k8,(X' _ _),k8⟩) hr [1,2,4,5] [1,2] [2,5] [2] (λ(⟨R,f,k,l,g,p,q,A,d,o,n,t,c⟩:Int×(Ŀ Ĳ)×ŀ Addr×Nat×(Ŀ Zo)×ŀ Addr×Nat×ŀ Ow×(Ŀ Zo)×ŀ Addr×Nat×ŀ Ow×Int)=>⟨(R,f,g,d,c),[(6,i' R)],λa=>sl Rp.str a k l f/\sl vV a p q g/\Tok 2 194 (δ p g q) g.length A/\sl vV a o n d/\Tok 2 194 (δ o d n) d.length t,[(5,ö b3 ([δ k f l,δ p g q,δ o d n,i' c]) 129),(310051,A),(310052,t)]⟩) (λ(⟨ac,ag,af,J,X,Z,ae,E,K,Q,U,ah⟩:(Ŀ Ĳ)×ŀ Addr×Nat×(Ŀ Zo)×ŀ Addr×Nat×ŀ Ow×(Ŀ Zo)×ŀ Addr×Nat×ŀ Ow×Int)=>⟨(ac,J,E,ah),[],λap=>sl Rp.str ap ag af ac/\sl vV ap X Z J/\Tok 2 194 (δ X J Z) J.length ae/\sl vV ap K Q E/\Tok 2 194 (δ K E Q) E.length U,[(5,ö b3 ([δ ag ac af,δ X J Z,δ K E Q,i' ah]) 129),(310051,ae),(310052,U)]⟩) ⟨0,(([AM,AL,AK].take (i64.wrap (Int.tmod x.n 4)).toNat).drop (0:Int).toNat),p2,(([AM,AL,AK].take (i64.wrap (Int.tmod x.n 4)).toNat).drop (0:Int).toNat).length,[],none,0,none,[],none,0,none,1⟩ ?_;rintro _ a ⟨R,f,k,l,g,p,q,A,d,o,n,t,c⟩ C ⟨L,e,M,P,I⟩ hr;refine WC.nD hr [1,2,4,5,6] [1,2,5,310051,310052] (λ(_:Unit)=>⟨[],EV x R f g d c,tr,[]⟩) ?_ ?_
 .refine sr<|ν z<|Γ (Y0.VB z)<|Γ (n' 1 yp z z z)<|Γ (P' fd' (al.mono (mx S C)) z)<|eb hr z (Z' z z) z (λbj hr=>?_) (λbj hr=>?_)
  .refine Ν ?_;intro _ hr;refine oq ⟨a,f,k,l,g,p,q,A,d,o,n,t,c⟩ ⟨hr,C,L,e,M,P,I⟩ (Å z) (w4 z z z z)
  refine Ν ?_;intro hr;refine oq ⟨a,f,k,l,g,p,q,A,d,o,n,t,c⟩ ⟨hr,C,L,e,M,P,I⟩ (Å z) (w4 z z z z)
 intro ao _ hr y _;refine o'<|Y'<|sr<|Ο z<|WC.nB hr [1,2,4,5,6] [1,2,5,310051,310052] (λ(m:Int)=>⟨[(7,i' m)],EU x R f g d c m,tr,[]⟩) ?_
 intro aG m hr D _;refine o'<|fE [ff,ff,ff,ff,ff,ff,ff,ff,ff,ff,ff,ff,ff] eJ İ λhb=>cn (λ_ s=>Cb z)<|cn (λ_ s=>n' 5 eO z z z) ?_
 refine æ ?_;intro _ _ _ _ _ _ _ _ _ B hr _;refine jN (φ:=λG v=>∃p3 T,v=.agg ([i' (i64.wrap (c+m)),δ p3 B T]).toArray/\sl c' G p3 T B) (λ_=>z) (λv G1 G2 s h=>?_) (λu G' s hu=>?_) ?_
 .obtain⟨p3,T,rfl,aA⟩:=h;exact⟨_,_,z,aA.mono s⟩
 .obtain⟨⟨j,i,aM,ar⟩,_⟩:=(show(fX c' B) G'.m (u 55)/\True from hu);simp only[υ,aM];exact⟨_,me (vs:=#[(0,i' (i64.wrap (c+m))),(1,δ j B i)]) (v:=.agg ([i' (i64.wrap (c+m)),δ j B i]).toArray) z z (λ_=>İ),j,i,z,ar⟩
 refine kI (λ_=>z) z194<|Cc (λbA bs bt X1 W aJ aE aC=>?_)
 obtain⟨b4,rfl,aU⟩:=aJ;obtain⟨p3,T,rfl,aA⟩:=aE;obtain⟨j,i,rfl,ar⟩:=aC;refine oS aU (mg (show WL _ _ _ _ _ _ (St w0 G0 X1.m _)from ?_));refine fZ 8 oe z<|t'<|Θ<|b'<|o' ?_
 refine æ ?_;intro hr;refine I' hr z (λbk hr=>?_) (λbk hr=>?_)
 .refine Ν ?_;intro _ _ aj a8 hr;obtain⟨aT,hr⟩:=hr;have N:=mx (mx (mx y D) W) aj;refine jU (r:=vV) 310052 z z vN wa z ĳ z z (P.mono N) z (by rw[aw];rfl) I a8 aT λp5 aF a3 bc au bi a0=>Γ (G9 z)<|ry 5 ([δ k f l,δ p g q,.slice p5 (d++[(Zo.mk (i64.wrap (c+m)) B)]).length aF,i' c]).toArray z wE z z z (show 2<4 by decide) z z ?_
  refine æ ?_;intro hr;refine N' ⟨bc,i64.wrap (R+1),f,k,l,g,p,q,A,(d++[(Zo.mk (i64.wrap (c+m)) B)]),p5,aF,a3,i64.wrap ((i64.wrap (c+m))+1)⟩ hr ⟨(mx (mx (mx (mx (mx C y) D) W) aj) au),(L.mono (mx N au)),(e.mono (mx N au)),M,bi,a0⟩ (Å z) (w5 z z z z z)
 refine Ν ?_;intro _ _ ak a6 hr;obtain⟨aZ,hr⟩:=hr;have O:=mx (mx (mx y D) W) ak;refine jU (r:=vV) 310051 z z vN wa z ĳ z z (e.mono O) z (by rw[aw];rfl) M a6 aZ λp7 aK aS bh aq a9 aX=>Γ (Ha z)<|ry 5 ([δ k f l,.slice p7 (g++[(Zo.mk (i64.wrap (c+m)) B)]).length aK,δ o d n,i' c]).toArray z wE z z z (show 1<4 by decide) z z ?_
 refine æ ?_;intro hr;refine N' ⟨bh,i64.wrap (R+1),f,k,l,(g++[(Zo.mk (i64.wrap (c+m)) B)]),p7,aK,aS,d,o,n,t,i64.wrap ((i64.wrap (c+m))+1)⟩ hr ⟨(mx (mx (mx (mx (mx C y) D) W) ak) aq),(L.mono (mx O aq)),a9,aX,(P.mono (mx O aq)),I⟩ (Å z) (w5 z z z z z)
instance Wz{n A g r}:SpcM ((Be n A g)) r (∀{m l},Cr 202 #[δ m n l,i' A,i' g] (λG=>sl vV G m l n) (λG v=>v=.bool r)):=.mk λhr {m l}=>by
 refine Ν ?_;intro F i _ _ hr e;refine WC.mC hr [0,1,2] [] [] [] (λ(k:Int)=>⟨k,[(7,i' k)],tr,[]⟩) (λ(_:Unit)=>⟨(.inr ()),[],tr,[]⟩) 0 ?_;intro _ f k d _ hr;refine o'<|sr<|ν z<|ν z<|Γ (P' vN (e.mono d) z)<|kr z<|nx<|I' hr z (λE hr=>?_) (λE hr=>?_)
 .exact q'<|b'<|o'<|Y'<|o'<|fE [ff,ff,ff,ff,ff,ff,ff,ff,ff,ff,ff,ff,ff,ff,ff,ff,ff,ff,ff,ff,ff,ff,ff,ff,ff,ff,ff,ff,ff,ff,ff,ff,ff,ff,ff,ff,ff,ff,ff,ff] eJ İ λh=>fR z<|fR z<|oE hr λa t hr=>cn (λ_ c=>kf vN oe ((e.mono d).mono c) z z t)<|cn (λ_ c=>M0 z)<|cn (λ_ c=>nI eO z (zD (T' (T' (sj (nY (iI e t))) d) c)))<|Η
 exact Η
instance mh{c r}:SpcM ((AT c)) r (Cr 260 #[.int .u8 c] (λG=>True) (λG v=>v=.bool r)):=.mk λhr=>by
 refine Ν ?_;intro _ _ _ _ _ hr _;refine Ê (M' z z) z<|Ê (M' z z) z<|sf z z z<|Ι z<|Ο z<|m' (Ø hr z z)
instance iZ'{e r}:SpcM ((FU e)) r (Cr 203 #[.string e] (λG=>True) (λG v=>v=.bool r)):=.mk λhr=>by
 refine æ ?_;intro k h _ hr _;refine WC.nB hr [0] [] (λ(_:Unit)=>⟨[],Rs e,tr,[]⟩) ?_;intro f _ hr I _;refine o'<|sr<|Ο z<|WC.mC hr [0] [] [] [] (λ(g:Int)=>⟨g,[(3,i' g)],tr,[]⟩) (λ(_:Unit)=>⟨(.inr ()),[],tr,[]⟩) 1 ?_
 intro _ d g c _ hr;refine o'<|sr<|ν z<|ν z<|Γ (Y0.CR xQ z)<|kr z<|nx<|I' hr z (λH hr=>?_) (λH hr=>?_)
 .refine q'<|b'<|o'<|Y'<|sr<|ν z<|ν z<|oA hr λn hr=>Γ (eJ' (s:=e) xQ z z n)<|oE hr λt m hr=>H' z z (x' IT z) (mh.h m) z (trivial) ?_
  cases t
  .exact Η
  exact Γ (kO z)<|ν z<|ig z<|Ê (M' z z) z<|Ê (M' z z) z<|Ê (M' z z) z<|Ê (M' z z) z<|yu z<|ς z<|ν z<|nR z<|ς z<|nx<|tN z<|Η
 exact Η
instance iR'{j r}:SpcM ((Fv j)) r (∀{d c i h f e},Cr 116 #[.agg ((tx j d c i h f e)).toArray] (λG=>DT G d c i h f e j) (λG v=>v=.bool r)):=.mk λhr {d c i h f e}=>by
 refine J' (args:=[_]) (N:=96) func116 z z z (λJ C au K=>?_);obtain⟨k,p,m⟩:=K;refine sr<|jT 1 z z z λu=>Ý z<|nr<|Γ (Hb z)<|Γ (n' 1 od z z z)<|Γ (P' BU k z)<|Ο z<|WC.nD hr [1,3] [1] (λ(_:Unit)=>⟨[],Qr j,tr,[]⟩) ?_ ?_
 .refine sr<|ν z<|eb hr z (vJ z z) z (λal hr=>?_) (λal hr=>?_)
  .refine ν z<|fO z<|Ι z<|ν z<|fO z<|Ι z<|ν z<|rb z<|Ι z<|ν z<|rb z<|Ι z<|nx<|ot z<|sr<|Ο z<|m'<|a' (Ø hr z z)
  refine ν z<|gy z z (Cb z) z<|gy z z (n' 1 eO z z z) z<|eb hr (C' z z) (Z' z z) z (λai hr=>?_) (λai hr=>?_)
  .refine ς z<|ν z<|fO z<|Ι z<|ν z<|rb z<|Ι z<|ν z<|rb z<|Ι z<|nx<|ot z<|sr<|Ο z<|m'<|a' (Ø hr z z)
  refine ς z<|ν z<|gy z z (Cb z) z<|gy z z (n' 1 eO z z z) z<|eb hr (C' z z) (vJ z z) z (λam hr=>?_) (λam hr=>?_)
  .refine ς z<|ν z<|rb z<|Ι z<|ν z<|rb z<|Ι z<|nx<|ot z<|sr<|Ο z<|m'<|a' (Ø hr z z)
  refine ς z<|ν z<|gy z z (Ha z) z<|gy z z (n' 1 l4 z z z) z<|kT z<|gy z z (Cb z) z<|gy z z (n' 1 eO z z z) z<|oE hr λad Y hr=>H' (C' z z) z (x' Ad z) (Wz.h Y) z (p) ?_
  cases ad
  .refine gy z z (kO z) z<|ς z<|ν z<|rb z<|Ι z<|nx<|ot z<|sr<|Ο z<|m'<|a' (Ø hr z z)
  refine gy z z (kO z) z<|ς z<|ν z<|gy z z (G9 z) z<|gy z z (n' 1 l4 z z z) z<|kT z<|gy z z (Cb z) z<|gy z z (n' 1 eO z z z) z<|oE hr λar a hr=>H' (C' z z) z (x' Ad z) (Wz.h a) z (m)<|gy z z (kO z) z<|ς z<|nx<|ke hr z (λaj hr=>?_) (λaj hr=>?_)
  .refine sr<|Ο z<|m'<|a' (Ø hr z z)
  refine q'<|pM ⟨C,()⟩ ⟨hr,mr,trivial⟩ (Å z) (w1 z)
 intro E _ hr l _;refine o'<|sr<|Ο z<|WC.mD hr [1,3] [1] [1] [1] (λ(x:Int)=>⟨x,[(4,i' x)],tr,[]⟩) (λ(_:Unit)=>⟨(.inr ()),[],tr,[]⟩) 0 ?_ ?_
 .intro _ A x n _ hr;refine o'<|sr<|ν z<|ν z<|kr z<|nx<|I' hr z (λaf hr=>?_) (λaf hr=>?_)
  .refine q'<|b'<|o'<|Y'<|o'<|sr<|Ο z<|WC.mD hr [1,3,4] [1] [1,3,4] [1] (λ(F:Int)=>⟨F,[(5,i' F)],tr,[]⟩) (λ(_:Unit)=>⟨(.inr ()),[],tr,[]⟩) 0 ?_ ?_
   .intro _ L F s _ hr;refine o'<|sr<|ν z<|ν z<|kr z<|nx<|I' hr z (λak hr=>?_) (λak hr=>?_)
    .refine q'<|b'<|o'<|Y'<|o'<|fE [ff,ff,ff,ff,ff,ff,ff,ff,ff,ff] eJ İ λZ=>cn (λ_ g=>Hb z)<|cn (λ_ g=>n' 1 od z z z)<|fR z<|oE hr λx4 U hr=>cn (λ_ g=>kf BU yx ((k.mono (mx (mx l n) s)).mono g) z z U)<|cn (λ_ g=>nI Dh z (AtK.str (T' (T' (iI k U) (mx (mx l n) s)) g)))<|cn (λ_ g=>Hb z)<|cn (λ_ g=>n' 1 od z z z)<|fR z<|oE hr λx5 W hr=>cn (λ_ g=>kf BU yx ((k.mono (mx (mx l n) s)).mono g) z z W)<|cn (λ_ g=>nI Dh z (AtK.str (T' (T' (iI k W) (mx (mx l n) s)) g)))<|oM Z<|Γ (Y0.uD xQ z z)<|t'<|Θ<|b'<|I' hr z (λag hr=>?_) (λag hr=>?_)
     .refine sr<|Ο z<|m'<|g'<|a'<|a'<|g'<|ni<|a'<|g'<|a'<|a'<|g'<|ni<|a' (Ø hr z z)
     refine q'<|E'<|b'<|w'<|ν z<|iV z<|Ý z<|t'<|N' ⟨L,i64.wrap (F+1)⟩ hr ⟨s,trivial⟩ (Å z) (w1 z)
    refine nK<|p'<|p'<|K'<|oq ⟨L,()⟩ ⟨hr,s,trivial⟩ (Å z) (w1 z)
   intro O _ hr I _;refine b'<|sr<|Γ (Hb z)<|Γ (n' 1 od z z z)<|ν z<|oE hr λx3 S hr=>Γ (kf BU yx (k.mono (mx (mx l n) I)) z z S)<|Γ (nI Dh z (AtK.str (T' (iI k S) (mx (mx l n) I))))<|oE hr λaq X hr=>H' z z (x' IB z) (iZ'.h X) z (trivial)<|Γ (kO z)<|nx<|ke hr z (λae hr=>?_) (λae hr=>?_)
   .refine sr<|Ο z<|m'<|g'<|a'<|a'<|g'<|ni<|a' (Ø hr z z)
   refine q'<|E'<|b'<|w'<|ν z<|iV z<|Ý z<|t'<|N' ⟨O,i64.wrap (x+1)⟩ hr ⟨(mx n I),trivial⟩ (Å z) (w1 z)
  refine nK<|p'<|p'<|K'<|oq ⟨A,()⟩ ⟨hr,n,trivial⟩ (f1 z) (w1 z)
 intro D _ hr t _;refine b'<|o'<|sr<|Ο z<|WC.mD hr [1] [1] [] [] (λ(y:Int)=>⟨y,[(6,i' y)],tr,[]⟩) (λ(_:Unit)=>⟨(.inr ()),[],tr,[]⟩) 0 ?_ ?_
 .intro _ B y o _ hr;refine o'<|sr<|ν z<|Γ (Ha z)<|Γ (n' 1 l4 z z z)<|Γ (P' vN (p.mono (mx (mx l t) o)) z)<|kr z<|nx<|I' hr z (λao hr=>?_) (λao hr=>?_)
  .refine q'<|b'<|o'<|Y'<|sr<|Ο z<|WC.mD hr [1,6] [1] [1,6] [1] (λ(H:Int)=>⟨H,[(7,i' H)],tr,[]⟩) (λ(_:Unit)=>⟨(.inr ()),[],tr,[]⟩) 0 ?_ ?_
   .intro _ M H q _ hr;refine o'<|sr<|ν z<|Γ (G9 z)<|Γ (n' 1 l4 z z z)<|Γ (P' vN (m.mono (mx (mx (mx l t) o) q)) z)<|kr z<|nx<|I' hr z (λah hr=>?_) (λah hr=>?_)
    .refine q'<|b'<|o'<|Y'<|o'<|fE [ff,ff,ff,ff,ff,ff,ff,ff,ff,ff,ff,ff] eJ İ λZ=>cn (λ_ g=>Ha z)<|cn (λ_ g=>n' 1 l4 z z z)<|fR z<|oE hr λx1 V hr=>cn (λ_ g=>kf vN oe ((p.mono (mx (mx (mx l t) o) q)).mono g) z z V)<|cn (λ_ g=>M0 z)<|cn (λ_ g=>nI eO z (zD (T' (T' (sj (nY (iI p V))) (mx (mx (mx l t) o) q)) g)))<|cn (λ_ g=>G9 z)<|cn (λ_ g=>n' 1 l4 z z z)<|fR z<|oE hr λx2 T hr=>cn (λ_ g=>kf vN oe ((m.mono (mx (mx (mx l t) o) q)).mono g) z z T)<|cn (λ_ g=>M0 z)<|cn (λ_ g=>nI eO z (zD (T' (T' (sj (nY (iI m T))) (mx (mx (mx l t) o) q)) g)))<|oM Z<|Γ (eI z z)<|t'<|Θ<|b'<|I' hr z (λan hr=>?_) (λan hr=>?_)
     .refine sr<|Ο z<|m'<|g'<|a'<|a'<|g'<|ni<|g'<|a'<|a'<|g'<|ni<|a' (Ø hr z z)
     refine q'<|E'<|b'<|w'<|ν z<|iV z<|Ý z<|t'<|N' ⟨M,i64.wrap (H+1)⟩ hr ⟨q,trivial⟩ (Å z) (w1 z)
    refine nK<|p'<|p'<|K'<|oq ⟨M,()⟩ ⟨hr,q,trivial⟩ (Å z) (w1 z)
   intro P _ hr R _;refine E'<|b'<|w'<|ν z<|iV z<|Ý z<|t'<|N' ⟨P,i64.wrap (y+1)⟩ hr ⟨(mx o R),trivial⟩ (Å z) (w1 z)
  refine nK<|p'<|p'<|K'<|oq ⟨B,()⟩ ⟨hr,o,trivial⟩ fn (wk ln)
 intro Q _ hr ap _;refine b'<|sr<|Ο z<|m' (Ø hr z z)
instance mi{E r}:SpcM ((Fu E)) r (∀{B y},Cr 117 #[δ B E y] (λG=>sl vV G B y E) (fX (Rp.sl c') r)):=.mk λhr {B y}=>by
 refine Ν ?_;intro Q P x p1 u _ S hr _;refine WC.mC (hH:=by exact⟨S,k8⟩) hr [0] [] [] [] (λ(⟨c,g,d,f,D⟩:(Ŀ (Ŀ Za))×ŀ Addr×Nat×ŀ Ow×Int)=>⟨(c,D),[(3,δ g c d),(4,i' D)],λn=>sq n g d c/\Tok 1 50 (δ g c d) c.length f,[(1003,f)]⟩) (λ(⟨i,k,j,l⟩:(Ŀ (Ŀ Za))×ŀ Addr×Nat×ŀ Ow)=>⟨i,[(3,δ k i j)],λp=>sq p k j i/\Tok 1 50 (δ k i j) i.length l,[(1003,l)]⟩) ⟨[],p1,0,none,0⟩ ?_;rintro _ n ⟨c,g,d,f,D⟩ h ⟨s,o⟩ hr;refine Ν ?_;intro _ A _ _ _ _ _ _ _ _ _ q V hr _;refine oA hr λL hr=>jU (r:=(Rp.sl c')) 1003 z z jS jz z ĳ z z (s.mono q) z (by rw[x];rfl) o V L λp4 O M T C Z J=>Ý z<|t'<|E'<|b'<|w'<|ν z<|iV z<|Ý z<|t'<|N' ⟨T,(c++[A.p]),p4,O,M,i64.wrap (D+1)⟩ hr ⟨(mx (mx h q) C),Z,J⟩ (Å z) (w1 z)
instance ja'{Q r}:SpcM ((LH Q)) r (∀{m o C B p s},Cr 62 #[.agg ((tx Q m o C B p s)).toArray] (λG=>DT G m o C B p s Q) (l9 r)):=.mk λhr {m o C B p s}=>by
 refine æ ?_;intro _ _ _ _ _ _ _ _ _ hr _;refine o' ?_;refine æ ?_;intro _ hr _;refine ke hr z (λy hr=>?_) (λy hr=>?_)
 .exact Η
 refine q'<|b'<|o'<|fE [ff,ff,ff,ff,ff,ff,ff,ff,ff,ff,ff,tt] eJ İ λhb=>?_
 refine æ ?_;intro K _ R hr _;refine oE hr λA X hr=>mw (f:=74) (φ:=l9 A) (λ_=>z) (λv n Z c h=>?_) (λu E c a=>?_) ?_
 .obtain⟨l,k,j,g,rfl,e,d⟩:=h;exact⟨_,_,_,_,z,e.mono c,d.mono c⟩
 .obtain⟨⟨O,P,V,t⟩,⟨L,M,U,x⟩,_⟩:=(show(fX (Rp.sl c') R) E.m (u 17)/\(fX (Rp.sl c') K) E.m (u 14)/\True from a);exact⟨_,_,_,λ_=>x' Yt z,gW'.h X,(by simp only[V,U]<;>rfl),⟨x,t⟩⟩
 refine γ.nu (kk:=18) (φ:=u9 A.1) İ (λ_=>z) (λv n Z c h=>?_) (λu E c a=>?_) ?_
 .obtain⟨p1,af,p2,q,rfl,S,T⟩:=h;exact⟨_,_,_,_,z,S.mono c,T.mono c⟩
 .obtain⟨⟨l,k,j,g,D,e,d⟩,_,_,_⟩:=(show(l9 A) E.m (u 18)/\True/\True/\True from a);exact⟨_,_,D,(by simp only[υ,D]<;>rfl),z,l,k,j,g,z,e,d⟩
 refine γ.tn (d0:=19) (post0:=u9 A.1) (d1:=18) (post1:=l9 A) (d2:=17) (post2:=fX (Rp.sl c') R) (d3:=14) (post3:=fX (Rp.sl c') K) (λY W am an ap N F I H J=>?_);obtain⟨p1,af,p2,q,rfl,S,T⟩:=F;obtain⟨l,k,j,g,rfl,e,d⟩:=I;obtain⟨O,P,rfl,t⟩:=H;obtain⟨L,M,rfl,x⟩:=J;refine lS z<|fZ 2 tP z<|Ý z<|t'<|Θ<|b'<|m' ?_
 obtain rfl:_=r:=hr;exact ux z (kH (i:=2) mq z z z) z ⟨_,_,_,_,z,S,T⟩
instance Wt{e r}:SpcM ((Bg e)) r (∀{g f d c j h n m},Cr 25 #[.agg ((pz e g f d c j h n m)).toArray] (λG=>sl tS G g f e.c.l/\sl (Rp.int .u8) G d c e.c.iu/\sl (gb .i8 5) G j h e.p.t/\sl xZ G n m e.l) (u9 r)):=.mk λhr {g f d c j h n m}=>Η
instance jl'{r}:SpcM ((U2)) r (Cr 121 #[] (λG=>True) (fX (gb .i64 8) r)):=.mk λhr=>Η
instance oy{r}:SpcM ((Fj)) r (Cl 122 #[] [] (λG=>True) (λG L v=>∃m g c,L=[(7000,c)]/\v=δ m r g/\Δ (gb .i64 8) 71 G (δ m r g) r c)):=.mk λhr=>by
 refine rB (args:=[]) (N:=3) func122 z z z λn k h o=>sr<|Ý z<|nr<|Γ (me (vs:=#[(0,i' 1),(1,i' 1),(2,i' 1),(3,i' 1),(4,i' 1),(5,i' 1),(6,i' 1),(7,i' 1)]) (v:=.agg (Ô (ζ (ζ (ζ (ζ (ζ (ζ (ζ (ζ (λ_=>0) 0 1) 1 1) 2 1) 3 1) 4 1) 5 1) 6 1) 7 1)).toArray) z z (λ_=>İ))<|WL.sL (e:=71) (r:=(gb .i64 8)) (vs:=#[(0,.agg (Ô (ζ (ζ (ζ (ζ (ζ (ζ (ζ (ζ (λ_=>0) 0 1) 1 1) 2 1) 3 1) 4 1) 5 1) 6 1) 7 1)).toArray)]) (cs:=(Ô (ζ (ζ (ζ (ζ (ζ (ζ (ζ (ζ (λ_=>0) 0 1) 1 1) 2 1) 3 1) 4 1) 5 1) 6 1) 7 1))++([])) ([ζ (ζ (ζ (ζ (ζ (ζ (ζ (ζ (λ_=>0) 0 1) 1 1) 2 1) 3 1) 4 1) 5 1) 6 1) 7 1]:Ŀ (Fin 8->Int)) 4002 z z z z z ĳ (λ_=>İ) ⟨Ô (ζ (ζ (ζ (ζ (ζ (ζ (ζ (ζ (λ_=>0) 0 1) 1 1) 2 1) 3 1) 4 1) 5 1) 6 1) 7 1),[],z,z,z⟩ λp d l=>Ο z<|m' ?_
 obtain rfl:_=r:=hr;refine mX (S':=St n k k [(7000,d)]) ?_ ?_
 .intro w f;have f:=f.Ü (i:=4002) (j:=7000) z (by rw[h];rfl);exact f.weaken (lc z ln)
 exact j' z z ⟨_,_,_,z,z,l⟩
instance gL'{r}:SpcM ((ES)) r (Cr 123 #[] (λG=>True) (fX (gb .i64 8) r)):=.mk λhr=>by
 refine Ν ?_;intro K P g hr _;have a:=tW (w0:=K);refine oE hr λO M hr=>mY z z (x' zZ z) (oy.h M) z (trivial) ln a (λp t m d s=>?_);obtain⟨I,H,B,rfl,rfl,F⟩:=s;refine mG (λw x=>x.Ü (i:=7000) (j:=4003) z (by rw[g];rfl))<|Ο z<|o'<|sr<|Ο z<|nJ (X:=(Ŀ (Fin 8->Int))×ŀ Addr×Nat×ŀ Ow×Int×Mem) hr (λ⟨k,q,l,c,A,f⟩=>⟨(k,A),[(1,δ q k l),(2,i' A)],Mem.le t f/\Δ (gb .i64 8) 71 f (δ q k l) k c,St K P f [(4001,c)]⟩) (λ(⟨v,u,y,h,n⟩:(Ŀ (Fin 8->Int))×ŀ Addr×Nat×ŀ Ow×Mem)=>⟨v,[(1,δ u v y)],Mem.le t n/\Δ (gb .i64 8) 71 n (δ u v y) v h,St K P n [(4001,h)]⟩) ⟨O,I,H,B,7,t⟩ z (Å z) ⟨mr,F⟩ ?_ ?_ ?_
 .intro w x;have x:=x.Ü (i:=4003) (j:=4001) z (by rw[g];rfl);exact x.weaken (lc z ln)
 .rintro _ ⟨k,q,l,c,A,f⟩ ⟨o,C⟩ hr;exact Η
 rintro⟨v,u,y,h,n⟩ ⟨hr,W,R⟩;refine Ν ?_;intro hr;obtain rfl:_=r:=hr;refine uB (r:=(gb .i64 8)) (e:=71) 4001 R z (by rw[g];rfl) λD J Z E Y=>j' z z ⟨_,_,z,E⟩
instance jn'{c d r}:SpcM ((VR c d)) r (Cr 209 #[.int .u8 c,i' d] (λG=>True) (λG v=>v=.bool r)):=.mk λhr=>Η
instance iv{i r}:SpcM ((Jt i)) r (Cr 124 #[.int .u8 i] (λG=>True) (fX (gb .i64 8) r)):=.mk λhr=>by
 refine Ν ?_;intro D k L q hr _;refine WC.mB hr [0,3] [] [3] [] (λ(⟨j,c⟩:Int×(Fin 8->Int))=>⟨(j,c),[(4,i' j)],tr,[(3,ö q (Ô c) 71)]⟩) (λ(d:(Fin 8->Int))=>⟨d,[],tr,[(3,ö q (Ô d) 71)]⟩) ⟨0,(λ_=>0)⟩ ?_;intro p d hr P _;refine b'<|o'<|fE [ff,ff,ff] eJ İ λv=>cn (λ_ m=>y' 3 zJ z z (U' _ _ _))<|γ.nw (r:=(gb .i64 8)) (e:=71) ([d]:Ŀ (Fin 8->Int)) (λ_=>z) z ĳ (λu U m E=>?_) ?_
 .exact⟨#[(0,.agg (Ô d).toArray)],(Ô d)++([]),z,z,λ_=>by kernel_rfl,⟨Ô d,[],z,z,z⟩⟩
 refine Ν ?_;intro _ hr _;refine γ.nF (λg V a T o n=>?_);obtain⟨y,B,rfl,l⟩:=o;refine WL.kM n (λZ Y R t C W=>?_);subst t;refine mg (show WL _ _ _ _ _ _ (St D k a.m _)from ?_);refine oA hr λF hr=>G5 (r:=(gb .i64 8)) (e:=71) 16 z z tJ n0 z ĳ z z C z l F λp1 s f M=>Ý z<|t'<|Θ<|b'<|m' ?_
 obtain rfl:_=r:=hr;refine uB (r:=(gb .i64 8)) (e:=71) 16 M z (by rw[L];rfl) λaf h S H Q=>j' z z ⟨_,_,z,H⟩
instance hJ'{f r}:SpcM ((xw f)) r (Cr 66 #[.int .u8 f] (λG=>True) (fX (gb .i64 8) r)):=.mk λhr=>by
 refine æ ?_;intro H n d hr _;have g:=tW (w0:=H);refine I' hr z (λL hr=>?_) (λL hr=>?_)
 .exact Η
 refine sr<|Γ (eI z z)<|Ο z<|I' hr z (λF hr=>?_) (λF hr=>?_)
 .refine sr<|oE hr λt o hr=>mY z z (x' zZ z) (oy.h o) z (trivial) ln g (λp v k U l=>?_)
  obtain⟨Y,Z,P,rfl,rfl,A⟩:=l;refine mG (λw a=>a.Ü (i:=7000) (j:=4010) z (by rw[d];rfl))<|pX (r:=(gb .i64 8)) (e:=71) 4010 A z (by rw[d];rfl) λq x R s Q=>Ο z<|m'<|g'<|a' ?_
  obtain rfl:_=r:=hr;exact j' z z ⟨_,_,z,s⟩
 refine WC.nD hr [0,4] [] (λ(c:Bool)=>⟨[(11,.bool c)],ET f c,tr,[]⟩) ?_ ?_
 .refine sr<|Γ (eI z z)<|Ο z<|I' hr z (λJ hr=>?_) (λJ hr=>?_)
  .exact Η
  exact Η
 intro m c hr M _;refine ke hr z (λC hr=>?_) (λC hr=>?_)
 .exact Η
 refine sr<|Γ (eI z z)<|Ο z<|I' hr z (λE hr=>?_) (λE hr=>?_)
 .refine Ν ?_;intro _;refine ng (e:=71) (r:=(gb .i64 8)) (vs:=#[(0,.agg (Ô (ζ (ζ (ζ (ζ (ζ (ζ (ζ (ζ (λ_=>0) 0 2) 1 3) 2 1) 3 1) 4 1) 5 1) 6 1) 7 1)).toArray)]) (cs:=(Ô (ζ (ζ (ζ (ζ (ζ (ζ (ζ (ζ (λ_=>0) 0 2) 1 3) 2 1) 3 1) 4 1) 5 1) 6 1) 7 1))++([])) ([ζ (ζ (ζ (ζ (ζ (ζ (ζ (ζ (λ_=>0) 0 2) 1 3) 2 1) 3 1) 4 1) 5 1) 6 1) 7 1]:Ŀ (Fin 8->Int)) z z z z z ĳ (λ_=>İ) ⟨Ô (ζ (ζ (ζ (ζ (ζ (ζ (ζ (ζ (λ_=>0) 0 2) 1 3) 2 1) 3 1) 4 1) 5 1) 6 1) 7 1),[],z,z,z⟩ (key:=999) z (by rw[d];rfl) λp1 h S I=>?_;exact Η
 refine Ν ?_;intro _ hr;refine ng (e:=71) (r:=(gb .i64 8)) (vs:=#[(0,.agg (Ô (ζ (ζ (ζ (ζ (ζ (ζ (ζ (ζ (λ_=>0) 0 1) 1 1) 2 0) 3 0) 4 0) 5 0) 6 0) 7 0)).toArray),(1,.agg (Ô (ζ (ζ (ζ (ζ (ζ (ζ (ζ (ζ (λ_=>0) 0 1) 1 0) 2 2) 3 1) 4 1) 5 1) 6 1) 7 1)).toArray)]) (cs:=(Ô (ζ (ζ (ζ (ζ (ζ (ζ (ζ (ζ (λ_=>0) 0 1) 1 1) 2 0) 3 0) 4 0) 5 0) 6 0) 7 0))++((Ô (ζ (ζ (ζ (ζ (ζ (ζ (ζ (ζ (λ_=>0) 0 1) 1 0) 2 2) 3 1) 4 1) 5 1) 6 1) 7 1))++([]))) ([ζ (ζ (ζ (ζ (ζ (ζ (ζ (ζ (λ_=>0) 0 1) 1 1) 2 0) 3 0) 4 0) 5 0) 6 0) 7 0,ζ (ζ (ζ (ζ (ζ (ζ (ζ (ζ (λ_=>0) 0 1) 1 0) 2 2) 3 1) 4 1) 5 1) 6 1) 7 1]:Ŀ (Fin 8->Int)) z z z z z ĳ (λ_=>İ) ⟨Ô (ζ (ζ (ζ (ζ (ζ (ζ (ζ (ζ (λ_=>0) 0 1) 1 1) 2 0) 3 0) 4 0) 5 0) 6 0) 7 0),(Ô (ζ (ζ (ζ (ζ (ζ (ζ (ζ (ζ (λ_=>0) 0 1) 1 0) 2 2) 3 1) 4 1) 5 1) 6 1) 7 1))++([]),z,z,⟨Ô (ζ (ζ (ζ (ζ (ζ (ζ (ζ (ζ (λ_=>0) 0 1) 1 0) 2 2) 3 1) 4 1) 5 1) 6 1) 7 1),[],z,z,z⟩⟩ (key:=999) z (by rw[d];rfl) λp2 u T K=>Ο z<|m'<|g'<|a' ?_
 obtain rfl:_=r:=hr;exact j' z z ⟨_,_,z,K⟩
instance gH'{c F r}:SpcM ((Bf c F)) r (∀{m k e d h g q p u x n o},Cr 26 #[.agg ((pz c m k e d h g q p)).toArray,.agg ((ÿ F u x n o)).toArray] (λG=>sl tS G m k c.c.l/\sl (Rp.int .u8) G e d c.c.iu/\sl (gb .i8 5) G h g c.p.t/\sl xZ G q p c.l/\sq G u x F.eqs/\sq G n o F.ε) (λG v=>∃L P M Q,v=.agg ([i' r.kind,δ L r.p P,δ M r.o Q]).toArray/\sl c' G L P r.p/\sv G M Q r.o)):=.mk λhr {m k e d h g q p u x n o}=>by
 refine J' (args:=[_,_]) (N:=29) func26 z z z (λw0 W au Y=>?_);obtain⟨al,aa,K,an,ad,ab⟩:=Y;refine sr<|jT 2 z z z λb1=>jT 3 z z z λb2=>W' 4 z z54 z λb3=>nr<|Γ (Y0.YK z)<|Γ (n' 2 HY z z z)<|Γ (xX z z ĳ)<|Γ (pK GN By z)<|Γ (me (vs:=#[(0,i' (i64.wrap (Int.tmod c.kind 12)))]) (v:=.agg ([i' (i64.wrap (Int.tmod c.kind 12)),.slice none 0 0,.slice none 0 0]).toArray) z z (λ_=>İ))<|W' 5 z z54 z λb4=>fZ 5 og z<|nx<|WC.nD hr [2,4,5] [2,4] (λ(⟨f,j,l,t,s⟩:Ze×ŀ Addr×Nat×ŀ Addr×Nat)=>⟨[],EW c f,λy=>sl c' y j l f.p/\sv y t s f.o,[(5,ö b4 ([i' f.kind,δ j f.p l,δ t f.o s]) 54)]⟩) ?_ ?_
 .refine sr<|Γ (BM z)<|Γ (n' 5 eO z z z)<|oE hr λar R hr=>H' z z (x' Yn z) (gm'.h R) z (trivial)<|nx<|ke hr z (λa hr=>?_) (λa hr=>?_)
  .refine w'<|Γ (Y0.YL z)<|Γ (R' ([δ h c.p.t g]).toArray 2 BE z z z (lJ ([.int .u8 c.fW,.int .u8 c.c.n,δ m c.c.l k,δ e c.c.iu d,.int .u8 c.kind]) ([δ h c.p.t g]) ([.int .u8 c.o,δ q c.l p,i' c.id,i' c.tried])))<|Γ (rD z)<|Γ (n' 3 eO z z z)<|Γ (Y0.min2 z z)<|oE hr λO T hr=>gW z z (x' Yo z) (gF'.h T) z (K) (λap ai I B=>?_)
   obtain⟨D,E,rfl,S⟩:=B;exact Γ (GS z)<|ry 5 ([i' (i64.wrap (Int.tmod c.kind 12)),δ D O E,.slice none 0 0]).toArray z pQ z z z (show 1<3 by decide) z z<|Η
  exact Η
 rintro y ⟨f,j,l,t,s⟩ hr ak ⟨A,H⟩;refine o'<|sr<|Γ (BM z)<|Γ (n' 5 eO z z z)<|Γ (eI z z)<|nx<|I' hr z (λaj hr=>?_) (λaj hr=>?_)
 .refine w'<|Γ (Y0.YM z)<|Γ (n' 2 HY z z z)<|oE hr λaf Z hr=>gW z z (x' Yp z) (hJ'.h Z) z (trivial) (λam aq J C=>?_)
  obtain⟨X,V,rfl,U⟩:=C;refine Γ (Wh z)<|ry 5 ([i' f.kind,δ j f.p l,δ X af V]).toArray z Dz z z z (show 2<3 by decide) z z<|nr<|Γ (y' 5 rz z z z)<|fZ 4 og z<|nx<|m' ?_
  obtain rfl:_=r:=hr;exact j' z (kH (i:=4) rz z z z) ⟨_,_,_,_,z,(A.mono J),U⟩
 refine q'<|b'<|sr<|Γ (y' 5 rz z z z)<|fZ 4 og z<|nx<|m' ?_
 obtain rfl:_=r:=hr;exact j' z (kH (i:=4) rz z z z) ⟨_,_,_,_,z,A,H⟩
instance jb'{L U x l p r}:SpcM ((LG L U x l p)) r (∀{H F},Cr 143 #[δ H L F,i' U,i' x,i' l,i' p] (λG=>sl tS G H F L) (fX (Rp.sl c') r)):=.mk λhr {H F}=>by
 refine Ν ?_;intro w0 Z I p1 E _ e hr _;refine WC.mC (hH:=by exact⟨e,k8⟩) hr [0,1,2,3,4] [] [] [] (λ(⟨c,g,f,d,K⟩:(Ŀ (Ŀ Za))×ŀ Addr×Nat×ŀ Ow×Int)=>⟨(c,K),[(11,δ g c f),(12,i' K)],λo=>sq o g f c/\Tok 1 50 (δ g c f) c.length d,[(1011,d)]⟩) (λ(⟨i,k,j,m⟩:(Ŀ (Ŀ Za))×ŀ Addr×Nat×ŀ Ow)=>⟨i,[(11,δ k i j)],λA=>sq A k j i/\Tok 1 50 (δ k i j) i.length m,[(1011,m)]⟩) ⟨[],p1,0,none,0⟩ ?_;rintro _ o ⟨c,g,f,d,K⟩ h ⟨q,n⟩ hr;refine Ν ?_;intro _ _ _ _ _ _ _ _ _ _ _ t _ B _ _ _ _ _ y u hr _;refine oA hr λV hr=>jU (r:=(Rp.sl c')) 1011 z z jS jz z ĳ z z (q.mono (mx B y)) z (by rw[I];rfl) n u V λp3 Y R a J s Q=>Ý z<|t'<|E'<|b'<|w'<|ν z<|iV z<|Ý z<|t'<|N' ⟨a,(c++[t]),p3,Y,R,i64.wrap (K+1)⟩ hr ⟨(mx (mx (mx h B) y) J),s,Q⟩ (Å z) (w1 z)
instance gI'{I L V r}:SpcM ((xA I L V)) r (∀{E C},Cr 144 #[δ E I C,i' L,i' V] (λG=>sq G E C I) (fX (Rp.sl c') r)):=.mk λhr {E C}=>by
 refine Ν ?_;intro w0 G0 o p1 y _ A hr _;refine WC.mC (hH:=by exact⟨A,k8⟩) hr [0,1,2] [] [] [] (λ(⟨c,h,f,g,B⟩:(Ŀ (Ŀ Za))×ŀ Addr×Nat×ŀ Ow×Int)=>⟨(c,B),[(7,δ h c f),(8,i' B)],λq=>sq q h f c/\Tok 1 50 (δ h c f) c.length g,[(1007,g)]⟩) (λ(⟨i,k,j,m⟩:(Ŀ (Ŀ Za))×ŀ Addr×Nat×ŀ Ow)=>⟨i,[(7,δ k i j)],λv=>sq v k j i/\Tok 1 50 (δ k i j) i.length m,[(1007,m)]⟩) ⟨[],p1,0,none,0⟩ ?_;rintro _ q ⟨c,h,f,g,B⟩ d ⟨p,n⟩ hr;refine o'<|sr<|ν z<|ν z<|kr z<|nx<|I' hr z (λK hr=>?_) (λK hr=>?_)
 .refine æ ?_;intro hr;refine I' hr z (λs hr=>?_) (λs hr=>?_)
  .refine Ν ?_;intro _ _ x _ _ _ t J hr;refine oA hr λW hr=>jU (r:=(Rp.sl c')) 1007 z z jS jz z ĳ z z (p.mono (mx x t)) z (by rw[o];rfl) n J W λp4 Z Q af F N R=>Ý z<|t'<|E'<|b'<|w'<|ν z<|iV z<|Ý z<|t'<|N' ⟨af,(c++[[]]),p4,Z,Q,i64.wrap (B+1)⟩ hr ⟨(mx (mx (mx d x) t) F),N,R⟩ (Å z) (w1 z)
  refine Ν ?_;intro D _ _ _ _ _ _ _ _ _ u a hr _;refine oA hr λS hr=>jU (r:=(Rp.sl c')) 1007 z z jS jz z ĳ z z (p.mono u) z (by rw[o];rfl) n a S λp7 l U e H Y O=>Ý z<|t'<|E'<|b'<|w'<|ν z<|iV z<|Ý z<|t'<|N' ⟨e,(c++[D]),p7,l,U,i64.wrap (B+1)⟩ hr ⟨(mx (mx d u) H),Y,O⟩ (Å z) (w1 z)
 exact Η
instance Wr{g i r}:SpcM ((ud g i)) r (∀{e d},Cr 145 #[δ e g d,i' i] (λG=>sl (Rp.int .i8) G e d g) (λG v=>v=i' r)):=.mk λhr {e d}=>by
 refine J' (args:=[_,_]) (N:=16) func145 z z z (λm o l h=>?_);have c:=h;refine sr<|Ο z<|o'<|sr<|ν z<|Γ (P' Nb c z)<|Γ (eI z z)<|nx<|I' hr z (λk hr=>?_) (λk hr=>?_)
 .refine sr<|Ο z<|m'<|a' (Ø hr z z)
 refine q'<|b'<|sr<|ν z<|ν z<|ν z<|Γ (P' Nb c z)<|oA hr λj hr=>Γ (xX z z j)<|oE hr λn f hr=>Γ (kf Nb tg c z z f)<|Γ (nI sW z (zD (iI c f)))<|Γ (pK Wf By z)<|Ο z<|m' (Ø hr z z)
instance hK'{H r}:SpcM ((xv H)) r (Cr 220 #[.agg ((DM H)).toArray] (λG=>True) (eA r)):=.mk λhr=>by
 refine J' (args:=[_]) (N:=49) func220 z z z λw0 G0 t k=>sr<|jT 1 z z z λQ=>W' 2 z rF z λW=>nx<|o'<|fE [ff,ff,ff,ff,ff,ff,ff,ff,ff,ff] eJ İ λE=>cn (λ_ c=>Y0.Zz9 z) ?_
 refine æ ?_;intro u _ _ hr _;refine kI (λ_=>z) vS<|kI (λ_=>z) vS<|Ws (λv x y B a D M n K C=>?_)
 obtain⟨p,q,rfl,l⟩:=K;obtain⟨m,f,rfl,j⟩:=C;refine vZ M (λX g h=>?_);subst g;replace n:=Ca n ĳ h;refine vZ n (λO i s=>?_);subst i;refine mg (show WL _ _ _ _ _ _ (St w0 G0 a.m _)from ?_);refine fZ 3 vM z<|fZ 4 vM z<|t'<|Θ<|b'<|WC.nA hr [1,2,3,4] [1,2,3] (λ(⟨o,d,e⟩:Zg×ŀ Addr×Nat)=>⟨[],Rh H u o,λA=>su A d e o.χ,[(4,ö X (η o d e) 118)]⟩)
instance jm'{v1 k1 r}:SpcM ((Ma v1 k1)) r (∀{aq am},Cr 146 #[δ aq v1 am,i' k1] (λG=>sl (Rp.int .i8) G aq am v1) (λG v=>∃zk zu,v=.agg (zk).toArray/\É iH 8 G zk zu r)):=.mk λhr {aq am}=>by
 refine Ν ?_;intro w0 M _ a d hr _;refine nJ (X:=Int×(Ŀ Zl)×Ŀ Value×Unit×Mem) hr (λ⟨i2,ar,ai,af,ap⟩=>⟨(i2,ar),[(0,δ aq v1 am),(1,i' k1),(4,iO a),(5,iO d),(6,i' i2)],Mem.le M ap/\É iH 8 ap ai af ar,St w0 M ap [(4,ö a (jy) 225),(5,ö d (ai) 225)]⟩) (λ(⟨aB,al,az,N⟩:(Ŀ Zl)×Ŀ Value×Unit×Mem)=>⟨aB,[(0,δ aq v1 am),(1,i' k1),(4,iO a),(5,iO d)],Mem.le M N/\É iH 8 N al az aB,St w0 M N [(4,ö a (jy) 225),(5,ö d (al) 225)]⟩) ⟨0,(List.replicate 8 (Zl.mk (Zf.mk (Zg.mk false []) (Zg.mk false [])) (Zf.mk (Zg.mk false []) (Zg.mk false [])))),jy,(),M⟩ z (Å z) ⟨mr,(show É iH 8 M jy () _ from zN (G:=M) (r:=iH) (n:=8) (zc:=[.bool false,.slice none 0 0,.bool false,.slice none 0 0,.bool false,.slice none 0 0,.bool false,.slice none 0 0]) (z:=(Zl.mk (Zf.mk (Zg.mk false []) (Zg.mk false [])) (Zf.mk (Zg.mk false []) (Zg.mk false [])))) ⟨[.bool false,.slice none 0 0,.bool false,.slice none 0 0],[.bool false,.slice none 0 0,.bool false,.slice none 0 0],z,⟨[.bool false,.slice none 0 0],[.bool false,.slice none 0 0],z,⟨[.bool false],[.slice none 0 0],z,z,⟨_,z,(X' _ _)⟩⟩,⟨[.bool false],[.slice none 0 0],z,z,⟨_,z,(X' _ _)⟩⟩⟩,⟨[.bool false,.slice none 0 0],[.bool false,.slice none 0 0],z,⟨[.bool false],[.slice none 0 0],z,z,⟨_,z,(X' _ _)⟩⟩,⟨[.bool false],[.slice none 0 0],z,z,⟨_,z,(X' _ _)⟩⟩⟩⟩)⟩ (w2 z z) ?_ ?_
 .rintro _ ⟨i2,ar,ai,af,ap⟩ ⟨aC,aw⟩ hr;refine o'<|sr<|ν z<|kr z<|nx<|I' hr z (λa8 hr=>?_) (λa8 hr=>?_)
  .refine Ν ?_;intro D _ _ aj k t A y ae ah H ba P q B s x ac ag hr _;refine oE hr λx2 aR hr=>Γ (rE zO kj z z (rH (aw.mono (mx aj P)) aR))<|Cd (cs':=[.bool D.num.neg,δ k D.num.χ t,.bool D.den.neg,δ A D.den.χ y,.bool H.num.neg,δ q H.num.χ B,.bool H.den.neg,δ s H.den.χ x]) (z':=(Zl.mk D H)) 5 z kj z ĳ (aw.mono (mx aj P)) z z z z ⟨(Τ D k t A y),(Τ H q B s x),z,⟨(η D.num k t),(η D.den A y),z,⟨[.bool D.num.neg],[δ k D.num.χ t],z,z,⟨_,z,(ae.mono P)⟩⟩,⟨[.bool D.den.neg],[δ A D.den.χ y],z,z,⟨_,z,(ah.mono P)⟩⟩⟩,⟨(η H.num q B),(η H.den s x),z,⟨[.bool H.num.neg],[δ q H.num.χ B],z,z,⟨_,z,ac⟩⟩,⟨[.bool H.den.neg],[δ s H.den.χ x],z,z,⟨_,z,ag⟩⟩⟩⟩ aR λd2 bc=>t'<|E' ?_
   refine æ ?_;intro hr;refine N' ⟨i64.wrap (i2+1),ar.set i2.toNat (Zl.mk D H),d2,af,ba⟩ hr ⟨(mx (mx aC aj) P),bc⟩ (Å z) (w2 z z)
  refine nK<|p'<|p'<|K'<|oq ⟨ar,ai,af,ap⟩ ⟨hr,aC,aw⟩ (Å z) (w2 z z)
 rintro⟨aB,al,az,N⟩ ⟨hr,aA,aZ⟩;refine b'<|o'<|sr<|Ο z<|nJ (X:=Int×(Ŀ Zl)×Ŀ Value×Unit×Mem) hr (λ⟨i1,au,ad,ak,ao⟩=>⟨(i1,au),[(0,δ aq v1 am),(1,i' k1),(4,iO a),(5,iO d),(7,i' i1)],Mem.le N ao/\É iH 8 ao ad ak au,St w0 M ao [(4,ö a (jy) 225),(5,ö d (ad) 225)]⟩) (λ(⟨aN,ax,aO,ab⟩:(Ŀ Zl)×Ŀ Value×Unit×Mem)=>⟨aN,[(4,iO a),(5,iO d)],Mem.le N ab/\É iH 8 ab ax aO aN,St w0 M ab [(4,ö a (jy) 225),(5,ö d (ax) 225)]⟩) ⟨0,aB,al,az,N⟩ z (Å z) ⟨mr,aZ⟩ (w2 z z) ?_ ?_
 .rintro _ ⟨i1,au,ad,ak,ao⟩ ⟨W,ay⟩ hr;refine o'<|sr<|ν z<|kr z<|nx<|I' hr z (λa6 hr=>?_) (λa6 hr=>?_)
  .refine Ν ?_;intro aT hr _;refine Γ (me (vs:=#[(0,.int .i8 (i8.wrap aT)),(1,.int .i8 3)]) (v:=.agg ([.int .i8 (i8.wrap aT),.int .i8 3,.int .u8 0]).toArray) z z (λ_=>İ))<|oE hr λE a1 hr=>gW z z (x' IH z) (hK'.h a1) z (trivial) (λbl bq Y aI=>?_)
   obtain⟨l,o,m,p,rfl,U,R⟩:=aI;refine W' 8 z rF z λb3=>fZ 8 kg z<|nx<|fE [tt,ff,ff,ff,ff,ff,ff,ff,ff,ff,ff] eJ İ λhb=>uA z (k' z) ?_
   refine æ ?_;intro aS hr _;refine cn (λ_ F=>me (vs:=#[(0,.int .i8 (i8.wrap (i64.wrap (BitVec.ofInt i64.bits aS &&& BitVec.ofInt i64.bits 7).toNat))),(1,.int .i8 2)]) (v:=.agg ([.int .i8 (i8.wrap (i64.wrap (BitVec.ofInt i64.bits aS &&& BitVec.ofInt i64.bits 7).toNat)),.int .i8 2,.int .u8 0]).toArray) z z (λ_=>İ)) ?_;refine æ ?_;intro aJ hr _;refine oE hr λC a2 hr=>mw (f:=205) (φ:=eA C) (λ_=>z) (λv G1 G2 F h=>?_) (λu G' F hu=>?_) ?_
   .obtain⟨j,c,e,g,rfl,K,L⟩:=h;exact⟨_,_,_,_,z,K.mono F,L.mono F⟩
   .obtain⟨⟨T,S,Q,O,aP,I,J⟩,_⟩:=(show(eA aJ) G'.m (u 40)/\True from hu);exact⟨_,_,_,λ_=>x' IC z,gX'.h a2,(by simp only[aP]<;>rfl),⟨(U.mono F),(R.mono F),I,J⟩⟩
   refine Ν ?_;intro a9 V j c e g K L _ _ _ _ _ _ hr;refine oE hr λx1 aU hr=>Γ (rE zO kj z z (rH (ay.mono (mx Y V)) aU))<|Cd (cs':=[.bool E.num.neg,δ l E.num.χ o,.bool E.den.neg,δ m E.den.χ p,.bool C.num.neg,δ j C.num.χ c,.bool C.den.neg,δ e C.den.χ g]) (z':=(Zl.mk E C)) 5 z kj z ĳ (ay.mono (mx Y V)) z z z z ⟨(Τ E l o m p),(Τ C j c e g),z,⟨(η E.num l o),(η E.den m p),z,⟨[.bool E.num.neg],[δ l E.num.χ o],z,z,⟨_,z,(U.mono V)⟩⟩,⟨[.bool E.den.neg],[δ m E.den.χ p],z,z,⟨_,z,(R.mono V)⟩⟩⟩,⟨(η C.num j c),(η C.den e g),z,⟨[.bool C.num.neg],[δ j C.num.χ c],z,z,⟨_,z,K⟩⟩,⟨[.bool C.den.neg],[δ e C.den.χ g],z,z,⟨_,z,L⟩⟩⟩⟩ aU λd1 a7=>t'<|Θ ?_
   refine æ ?_;intro hr;refine N' ⟨i64.wrap (i1+1),au.set i1.toNat (Zl.mk E C),d1,ak,a9⟩ hr ⟨(mx (mx W Y) V),a7⟩ (Å z) (w2 z z)
  refine nK<|p'<|p'<|K'<|oq ⟨au,ad,ak,ao⟩ ⟨hr,W,ay⟩ (Å z) (w2 z z)
 rintro⟨aN,ax,aO,ab⟩ ⟨hr,bd,Z⟩;refine b'<|sr<|Γ (y' 5 mU z z (lK Z))<|A' 4 z l6 z z z (lK (show É iH 8 ab jy () _ from zN (G:=ab) (r:=iH) (n:=8) (zc:=[.bool false,.slice none 0 0,.bool false,.slice none 0 0,.bool false,.slice none 0 0,.bool false,.slice none 0 0]) (z:=(Zl.mk (Zf.mk (Zg.mk false []) (Zg.mk false [])) (Zf.mk (Zg.mk false []) (Zg.mk false [])))) ⟨[.bool false,.slice none 0 0,.bool false,.slice none 0 0],[.bool false,.slice none 0 0,.bool false,.slice none 0 0],z,⟨[.bool false,.slice none 0 0],[.bool false,.slice none 0 0],z,⟨[.bool false],[.slice none 0 0],z,z,⟨_,z,(X' _ _)⟩⟩,⟨[.bool false],[.slice none 0 0],z,z,⟨_,z,(X' _ _)⟩⟩⟩,⟨[.bool false,.slice none 0 0],[.bool false,.slice none 0 0],z,⟨[.bool false],[.slice none 0 0],z,z,⟨_,z,(X' _ _)⟩⟩,⟨[.bool false],[.slice none 0 0],z,z,⟨_,z,(X' _ _)⟩⟩⟩⟩)) (lK Z) (É.one Z)<|nx<|m' ?_
 obtain rfl:_=r:=hr;exact j' z (kH (i:=4) mU z z (lK Z)) ⟨_,_,z,Z⟩
set_option maxHeartbeats 2000000 in
instance hM'{g r}:SpcM ((Es g)) r (∀{U S Q T},Cr 81 #[.agg ((DK g U S Q T)).toArray] (λG=>sl tS G U S g.l/\sl (Rp.int .i8) G Q T g.v) (OJ r)):=.mk λhr {U S Q T}=>by
 refine J' (args:=[_]) (N:=122) func81 z z z (λw0 G0 b0 cv=>?_);obtain⟨bu,O⟩:=cv;refine sr<|jT 1 z z z λb1=>W' 2 z H5 z λb2=>nr<|Γ (Y0.Zz6 z)<|Γ (n' 1 yp z z z)<|oE hr λbi ci hr=>gW z z (x' Ip z) (jb'.h ci) z (bu) (λc7 db av bo=>?_)
 obtain⟨bD,bw,rfl,a9⟩:=bo;refine Ý z<|nr<|Γ (Y0.Zz5 z)<|Γ (n' 1 HY z z z)<|Γ (xX z z ĳ)<|Γ (pK GN By z)<|iV z<|Γ (me (vs:=#[(0,i' (i64.wrap (1+(i64.wrap (Int.tmod g.kind 13)))))]) (v:=.agg ([i' (i64.wrap (1+(i64.wrap (Int.tmod g.kind 13)))),.slice none 0 0,i' 0,i' 0,i' 0,.slice none 0 0,.slice none 0 0,.slice none 0 0,.slice none 0 0]).toArray) z z (λ_=>İ))<|W' 4 z H5 z λb3=>fZ 4 oi z<|nx<|o'<|fE [ff,ff,ff,ff,ff,ff,ff,ff,ff] eJ İ λhb=>?_
 refine æ ?_;intro aM hr _;refine oE hr λX bX hr=>jN (φ:=λG v=>∃p1 ax,v=.pointer (some ⟨pb p1,po p1+(0:Int).toNat*1,none⟩)/\sq G p1 ax aM) (λ_=>z) (λv G1 G2 j h=>?_) (λu G' j a=>?_) ?_
 .obtain⟨p1,ax,rfl,bh⟩:=h;exact⟨_,_,z,bh.mono j⟩
 .obtain⟨⟨a8,a5,bJ,aI⟩,_⟩:=(show(fX (Rp.sl c') aM) G'.m (u 18)/\True from a);simp only[υ,bJ];exact⟨_,kf jS pQ aI z z bX,a8,a5,z,aI⟩
 refine jN (φ:=fX c' X) (λ_=>z) (λv G1 G2 j h=>?_) (λu G' j a=>?_) ?_
 .obtain⟨p4,bz,rfl,be⟩:=h;exact⟨_,_,z,be.mono j⟩
 .obtain⟨⟨p1,ax,bL,bh⟩,_,_⟩:=(show(λG v=>∃p1 ax,v=.pointer (some ⟨pb p1,po p1+(0:Int).toNat*1,none⟩)/\sq G p1 ax aM) G'.m (u 19)/\True/\True from a);obtain⟨p3,cH,cC,cO⟩:=xY (iI bh bX);simp only[υ,bL];exact⟨_,nI rA z (cC),p3,cH,z,cO⟩
 refine cu (λ_ _ j=>Wv z)<|cu (λ_ _ j=>n' 1 sV z z z)<|oE hr λq cr hr=>γ.vT (f:=145) (c:=i' q) (λ_=>z) (λu G' j a=>?_) ?_
 .obtain⟨_,_,_,_⟩:=(show True/\True/\True/\True from a);exact⟨_,_,_,λ_=>x' z7 z,Wr.h cr,z,((O.mono av).mono j)⟩
 refine cu (λ_ _ j=>Y0.and z z)<|jN (φ:=fX c' X) (λ_=>z) (λv G1 G2 j h=>?_) (λu G' j a=>?_) ?_
 .obtain⟨p5,ad,rfl,a2⟩:=h;exact⟨_,_,z,a2.mono j⟩
 .obtain⟨⟨p4,bz,bH,be⟩,_,_,_⟩:=(show(fX c' X) G'.m (u 20)/\True/\True/\True from a);simp only[υ,bH];exact⟨_,rC z,p4,bz,z,be⟩
 refine γ.tn (d0:=5) (post0:=fX c' X) (d1:=20) (post1:=fX c' X) (d2:=19) (post2:=λG v=>∃p1 ax,v=.pointer (some ⟨pb p1,po p1+(0:Int).toNat*1,none⟩)/\sq G p1 ax aM) (d3:=18) (post3:=fX (Rp.sl c') aM) (λc2 c4 c3 c5 bd V bm bp bs bt=>?_);obtain⟨p5,ad,rfl,a2⟩:=bm;obtain⟨p4,bz,rfl,be⟩:=bp;obtain⟨p1,ax,rfl,bh⟩:=bs;obtain⟨a8,a5,rfl,aI⟩:=bt;refine Ý z<|t'<|Θ<|b'<|o'<|sr<|Γ (zF z)<|Γ (n' 4 eO z z z)<|nx<|Y'<|WC.nD hr [1,2,3,4,5,6,26] [1,2,4] (λ(aW:Bool)=>⟨[(27,.bool aW)],w7 g bi X q aW,tr,[]⟩) ?_ ?_
 .refine sr<|Γ (eI z z)<|Ο z<|I' hr z (λcl hr=>?_) (λcl hr=>?_)
  .exact Η
  refine sr<|Γ (eI z z)<|Ο z<|I' hr z (λcc hr=>?_) (λcc hr=>?_)
  .exact Η
  exact Η
 intro aO aW hr C _;refine ke hr z (λcV hr=>?_) (λcV hr=>?_)
 .refine Ν ?_;intro hr;obtain rfl:_=r:=hr;exact j' z (kH (i:=2) nN z z z) ⟨_,_,_,_,_,_,_,_,_,_,z,(a2.mono C),(X' (gb .i64 8) _),(X' (Rp.sl c') _),(X' (Rp.int .i64) _),(X' (Rp.arr iH 8) _)⟩
 refine sr<|Γ (eI z z)<|Ο z<|I' hr z (λcL hr=>?_) (λcL hr=>?_)
 .refine Ν ?_;intro _ _ _ _ _ _ _ _ cy _ _ bK _ _ ch hr _;obtain rfl:_=r:=hr;exact j' z (kH (i:=2) nN z z z) ⟨_,_,_,_,_,_,_,_,_,_,z,(X' c' _),(cy.mono bK),ch,(X' (Rp.int .i64) _),(X' (Rp.arr iH 8) _)⟩
 refine sr<|Γ (eI z z)<|Ο z<|I' hr z (λcP hr=>?_) (λcP hr=>?_)
 .refine Ν ?_;intro _ hr _;obtain rfl:_=r:=hr;exact j' z (kH (i:=2) nN z z z) ⟨_,_,_,_,_,_,_,_,_,_,z,(X' c' _),(X' (gb .i64 8) _),(X' (Rp.sl c') _),(X' (Rp.int .i64) _),(X' (Rp.arr iH 8) _)⟩
 refine sr<|Γ (eI z z)<|Ο z<|I' hr z (λcJ hr=>?_) (λcJ hr=>?_)
 .refine Ν ?_;intro hr;obtain rfl:_=r:=hr;exact j' z (kH (i:=2) nN z z z) ⟨_,_,_,_,_,_,_,_,_,_,z,(X' c' _),(X' (gb .i64 8) _),(X' (Rp.sl c') _),(X' (Rp.int .i64) _),(X' (Rp.arr iH 8) _)⟩
 refine WC.nD hr [1,2,3,4,5,6,26] [1,2,4] (λ(aV:Bool)=>⟨[(69,.bool aV)],Jy g bi X q aV,tr,[]⟩) ?_ ?_
 .refine sr<|Γ (eI z z)<|Ο z<|I' hr z (λco hr=>?_) (λco hr=>?_)
  .exact Η
  exact Η
 intro aN aV hr ai _;refine ke hr z (λcS hr=>?_) (λcS hr=>?_)
 .refine o'<|sr<|Ο z<|WC.mD (hH:=by exact⟨(X' _ _),(X' _ _),(X' _ _),(X' _ _),k8,(X' _ _),k8⟩) hr [1,2,4,5,6] [1,2] [2,4,5] [2] (λ(⟨aF,m,af,Z,Y,K,L,M,I,y,A,H,B,x,t,E,D,R,s,ar,al,ap⟩:Int×Int×(Ŀ Za)×ŀ Addr×Nat×Int×Int×Int×(Ŀ (Fin 8->Int))×ŀ Addr×Nat×(Ŀ (Ŀ Za))×ŀ Addr×Nat×(Ŀ Int)×ŀ Addr×Nat×ŀ Ow×(Ŀ (Ŀ Zl))×ŀ Addr×Nat×ŀ Ow)=>⟨(aF,m,af,K,L,M,I,H,t,s),[(7,i' aF)],λaj=>sl c' aj Z Y af/\sv aj y A I/\sq aj B x H/\sl (Rp.int .i64) aj E D t/\Tok 1 3 (δ E t D) t.length R/\sl (Rp.arr iH 8) aj ar al s/\Tok 64 225 (δ ar s al) s.length ap,[(4,ö b3 ([i' m,δ Z af Y,i' K,i' L,i' M,δ y I A,δ B H x,δ E t D,δ ar s al]) 89),(310047,R),(310048,ap)]⟩) (λ(⟨W,aT,aR,aU,aQ,aY,aZ,aJ,az,aB,aG,aA,aC,ag,am,ao,aE,ah,aq,ak,aD⟩:Int×(Ŀ Za)×ŀ Addr×Nat×Int×Int×Int×(Ŀ (Fin 8->Int))×ŀ Addr×Nat×(Ŀ (Ŀ Za))×ŀ Addr×Nat×(Ŀ Int)×ŀ Addr×Nat×ŀ Ow×(Ŀ (Ŀ Zl))×ŀ Addr×Nat×ŀ Ow)=>⟨(W,aT,aQ,aY,aZ,aJ,aG,ag,ah),[],λaw=>sl c' aw aR aU aT/\sv aw az aB aJ/\sq aw aA aC aG/\sl (Rp.int .i64) aw am ao ag/\Tok 1 3 (δ am ag ao) ag.length aE/\sl (Rp.arr iH 8) aw aq ak ah/\Tok 64 225 (δ aq ah ak) ah.length aD,[(4,ö b3 ([i' W,δ aR aT aU,i' aQ,i' aY,i' aZ,δ az aJ aB,δ aA aG aC,δ am ag ao,δ aq ah ak]) 89),(310047,aE),(310048,aD)]⟩) ⟨0,i64.wrap (1+(i64.wrap (Int.tmod g.kind 13))),[],none,0,0,0,0,[],none,0,[],none,0,[],none,0,none,[],none,0,none⟩ ?_ ?_
  .rintro _ aj ⟨aF,m,af,Z,Y,K,L,M,I,y,A,H,B,x,t,E,D,R,s,ar,al,ap⟩ ab ⟨bl,aP,aX,aS,aH,bj,a1⟩ hr;refine o' ?_;refine æ ?_;intro hr;refine I' hr z (λcG hr=>?_) (λcG hr=>?_)
   .refine q'<|b'<|o'<|Y'<|o'<|fE [ff,ff,ff,ff,ff,ff,ff] eJ İ λhb=>cn (λ_ j=>zH z)<|cn (λ_ j=>n' 4 q9 z z z) ?_
    refine æ ?_;intro J hr _;refine tR (r:=(Rp.arr iH 8)) (e:=225) ([J]:Ŀ (Ŀ Zl)) (λ_=>z) z ĳ (λu G' j a=>?_) ?_
    .obtain⟨⟨k,F,bv,an⟩,_⟩:=(show(λG v=>∃k F,v=.agg (k).toArray/\É iH 8 G k F J) G'.m (u 83)/\True from a);simp only[υ,bv];exact⟨#[(0,.agg (k).toArray)],k++([]),z,z,wo (n:=64) (lK an) (λ_=>(λ_=>İ)),⟨k,[],z,an,z⟩⟩
    refine GZ (d:=84) (post:=λG v=>∃p6 bZ,v=.slice p6 1 1/\jx (Rp.arr iH 8) G (.slice p6 1 1) bZ [J]) (d':=83) (post':=λG v=>∃k F,v=.agg (k).toArray/\É iH 8 G k F J) (λcW cZ da o a6 a7=>?_);obtain⟨p6,bZ,rfl,cD⟩:=a6;obtain⟨k,F,rfl,an⟩:=a7;refine oA hr λb9 hr=>jU (r:=(Rp.arr iH 8)) 310048 z z uz B2 z ĳ z z (bj.mono o) z (by rw[b0];rfl) a1 cD b9 λp7 a3 bx cI p b4 bA=>Γ (zH z)<|ry 4 ([i' m,δ Z af Y,i' K,i' L,i' M,δ y I A,δ B H x,δ E t D,.slice p7 (s++[J]).length a3]).toArray z DB z z z (show 8<9 by decide) z z<|t' ?_
    refine æ ?_;intro hr;refine I' hr z (λcM hr=>?_) (λcM hr=>?_)
    .refine WC.pY (Bt:=λ_=>True) (l:=iy [0,1,2,3,4,5,6,7,8,9,10,12,11,13,14,15] _) (FJ İ) (λ_ _ _ _ _=>trivial) [tt,ff,ff,ff,ff,ff,ff,ff,ff,ff,ff,tt] eJ İ λhb=>uA z (k' z)<|cn (λ_ j=>BS z)<|cn (λ_ j=>n' 4 sZ z z z)<|cn (λ_ j=>Wv z)<|cn (λ_ j=>n' 1 sV z z z)<|fR z ?_
     obtain⟨ae,bQ,hr⟩:=hr;have N1:=mx (mx (mx (mx (mx (mx av V) C) ai) ab) o) p;refine tO z (λ_=>x' z7 z) (Wr.h bQ) z (λG' j=>((O.mono N1).mono j))<|cn (λ_ j=>Y0.and z z)<|cn (λ_ j=>xX z z ĳ)<|cn (λ_ j=>GP z z)<|tR (r:=(Rp.int .i64)) (e:=3) ([i64.wrap ((Int.tmod (i64.wrap (BitVec.ofInt i64.bits ae &&& BitVec.ofInt i64.bits 127).toNat) 3)-1)]:Ŀ Int) (λ_=>z) z ĳ (λu G' j a=>?_) ?_
     .exact⟨#[(0,i' (i64.wrap ((Int.tmod (i64.wrap (BitVec.ofInt i64.bits ae &&& BitVec.ofInt i64.bits 127).toNat) 3)-1)))],[i' (i64.wrap ((Int.tmod (i64.wrap (BitVec.ofInt i64.bits ae &&& BitVec.ofInt i64.bits 127).toNat) 3)-1))]++([]),z,z,λ_=>by kernel_rfl,⟨[i' (i64.wrap ((Int.tmod (i64.wrap (BitVec.ofInt i64.bits ae &&& BitVec.ofInt i64.bits 127).toNat) 3)-1))],[],z,z,z⟩⟩
     refine γ.sF (λ_=>z) (λ_=>GQ z)<|BL (d:=100) (post:=λG v=>∃p8 b6,v=.slice p8 1 1/\jx (Rp.int .i64) G (.slice p8 1 1) b6 [i64.wrap ((Int.tmod (i64.wrap (BitVec.ofInt i64.bits ae &&& BitVec.ofInt i64.bits 127).toNat) 3)-1)]) (λcX dc aa ba=>?_)
     obtain⟨p8,b6,rfl,cA⟩:=ba;obtain⟨cm,hr⟩:=hr;have N2:=mx (mx o p) aa;refine jU (r:=(Rp.int .i64)) 310047 z z zC M5 z ĳ z z (aS.mono N2) z (by rw[b0];rfl) aH cA cm λp9 b5 cb b7 P cF ck=>ry 4 ([i' m,δ p5 X ad,i' K,i' L,i' M,δ y I A,δ B H x,δ E t D,.slice p7 (s++[J]).length a3]).toArray z pQ z z z (show 1<9 by decide) z z<|Γ (BS z)<|ry 4 ([i' m,δ p5 X ad,i' K,i' L,i' M,δ y I A,δ B H x,.slice p9 (t++[i64.wrap ((Int.tmod (i64.wrap (BitVec.ofInt i64.bits ae &&& BitVec.ofInt i64.bits 127).toNat) 3)-1)]).length b5,.slice p7 (s++[J]).length a3]).toArray z Dy z z z (show 7<9 by decide) z z<|t'<|Θ<|E' ?_
     refine æ ?_;intro hr;refine N' ⟨b7,i64.wrap (aF+1),m,X,p5,ad,K,L,M,I,y,A,H,B,x,(t++[i64.wrap ((Int.tmod (i64.wrap (BitVec.ofInt i64.bits ae &&& BitVec.ofInt i64.bits 127).toNat) 3)-1)]),p9,b5,cb,(s++[J]),p7,a3,bx⟩ hr ⟨(mx (mx (mx (mx ab o) p) aa) P),(a2.mono (mx (mx (mx (mx (mx (mx C ai) ab) o) p) aa) P)),(aP.mono (mx N2 P)),(aX.mono (mx N2 P)),cF,ck,(b4.mono (mx aa P)),bA⟩ (Å z) (w5 z z z z z)
    refine Ν ?_;intro hr;refine N' ⟨cI,i64.wrap (aF+1),m,af,Z,Y,K,L,M,I,y,A,H,B,x,t,E,D,R,(s++[J]),p7,a3,bx⟩ hr ⟨(mx (mx ab o) p),(bl.mono (mx o p)),(aP.mono (mx o p)),(aX.mono (mx o p)),(aS.mono (mx o p)),aH,b4,bA⟩ (Å z) (w5 z z z z z)
   refine nK<|p'<|p'<|K'<|oq ⟨aj,m,af,Z,Y,K,L,M,I,y,A,H,B,x,t,E,D,R,s,ar,al,ap⟩ ⟨hr,ab,bl,aP,aX,aS,aH,bj,a1⟩ (Å z) (w4 z z z z)
  rintro aw ⟨W,aT,aR,aU,aQ,aY,aZ,aJ,az,aB,aG,aA,aC,ag,am,ao,aE,ah,aq,ak,aD⟩ hr bG ⟨bN,bf,bk,bg,cT,bc,cE⟩;refine æ ?_;intro hr;refine I' hr z (λcN hr=>?_) (λcN hr=>?_)
  .refine Ν ?_;intro hr;obtain rfl:_=r:=hr;exact j' z (kH (i:=2) nN z z z) ⟨_,_,_,_,_,_,_,_,_,_,z,(a2.mono (mx (mx C ai) bG)),bf,bk,bg,bc⟩
  refine Ν ?_;intro hr;obtain rfl:_=r:=hr;exact j' z (kH (i:=2) nN z z z) ⟨_,_,_,_,_,_,_,_,_,_,z,bN,bf,bk,bg,bc⟩
 refine sr<|Γ (eI z z)<|Ο z<|I' hr z (λcK hr=>?_) (λcK hr=>?_)
 .refine Ν ?_;intro _ _ _ _ _ bP hr _;obtain rfl:_=r:=hr;exact j' z (kH (i:=2) nN z z z) ⟨_,_,_,_,_,_,_,_,_,_,z,(X' c' _),(X' (gb .i64 8) _),bP,(X' (Rp.int .i64) _),(X' (Rp.arr iH 8) _)⟩
 refine o'<|sr<|Γ (eI z z)<|Ο z<|I' hr z (λcp hr=>?_) (λcp hr=>?_)
 .refine q'<|b'<|I' hr z (λce hr=>?_) (λce hr=>?_)
  .refine Ν ?_;intro hr;obtain rfl:_=r:=hr;exact j' z (kH (i:=2) nN z z z) ⟨_,_,_,_,_,_,_,_,_,_,z,(X' c' _),(X' (gb .i64 8) _),(X' (Rp.sl c') _),(X' (Rp.int .i64) _),(X' (Rp.arr iH 8) _)⟩
  refine Ν ?_;intro hr;obtain rfl:_=r:=hr;exact j' z (kH (i:=2) nN z z z) ⟨_,_,_,_,_,_,_,_,_,_,z,(X' c' _),(X' (gb .i64 8) _),(X' (Rp.sl c') _),(X' (Rp.int .i64) _),(X' (Rp.arr iH 8) _)⟩
 refine w'<|Γ (eI z z)<|Ο z<|I' hr z (λcx hr=>?_) (λcx hr=>?_)
 .refine Ν ?_;intro hr;obtain rfl:_=r:=hr;exact j' z (kH (i:=2) nN z z z) ⟨_,_,_,_,_,_,_,_,_,_,z,(X' c' _),(X' (gb .i64 8) _),(X' (Rp.sl c') _),(X' (Rp.int .i64) _),(X' (Rp.arr iH 8) _)⟩
 refine Ν ?_;intro hr;obtain rfl:_=r:=hr;exact j' z (kH (i:=2) nN z z z) ⟨_,_,_,_,_,_,_,_,_,_,z,(X' c' _),(X' (gb .i64 8) _),(X' (Rp.sl c') _),(X' (Rp.int .i64) _),(X' (Rp.arr iH 8) _)⟩
instance gq'{I r}:SpcM ((yX I)) r (∀{A B p q y C K F},Cr 35 #[.agg ((pz I A B p q y C K F)).toArray] (λG=>sl tS G A B I.c.l/\sl (Rp.int .u8) G p q I.c.iu/\sl (gb .i8 5) G y C I.p.t/\sl xZ G K F I.l) (fX qP r)):=.mk λhr {A B p q y C K F}=>by
 refine Ν ?_;intro w0 G0 _ T _ _ _ _ _ b1 p1 U _ av hr _;refine WC.mC (hH:=by exact⟨av,k8⟩) hr [1] [1] [] [] (λ(⟨x,t,u,s,a⟩:(Ŀ Zh)×ŀ Addr×Nat×ŀ Ow×Int)=>⟨(x,a),[(3,δ t x u),(4,i' a)],λv=>sl qP v t u x/\Tok 9 89 (δ t x u) x.length s,[(1003,s)]⟩) (λ(⟨S,M,O,J⟩:(Ŀ Zh)×ŀ Addr×Nat×ŀ Ow)=>⟨S,[(3,δ M S O)],λQ=>sl qP Q M O S/\Tok 9 89 (δ M S O) S.length J,[(1003,J)]⟩) ⟨[],p1,0,none,0⟩ ?_;rintro _ v ⟨x,t,u,s,a⟩ m ⟨V,E⟩ hr;refine Ν ?_;intro _ _ _ _ _ _ _ _ _ _ _ _ _ _ _ ai hr al;refine oE hr λc aj hr=>gW z z (x' Yv z) (hM'.h aj) z (⟨ai,al⟩) (λaI aM L R=>?_);obtain⟨o,n,l,k,j,i,h,g,d,f,rfl,Z,D,W,H,Y⟩:=R;refine ng (e:=89) (r:=qP) (vs:=#[(0,.agg ((ka c o n l k j i h g d f)).toArray)]) (cs:=(ka c o n l k j i h g d f)++([])) ([c]:Ŀ Zh) z z z z z ĳ (λ_=>İ) ⟨(ka c o n l k j i h g d f),[],z,⟨[i' c.kind],[δ o c.p n,i' c.n,i' c.d,i' c.r,δ l c.o k,δ j c.l i,δ h c.s g,δ d c.b f],z,z,⟨[δ o c.p n],[i' c.n,i' c.d,i' c.r,δ l c.o k,δ j c.l i,δ h c.s g,δ d c.b f],z,⟨_,z,Z⟩,⟨[i' c.n],[i' c.d,i' c.r,δ l c.o k,δ j c.l i,δ h c.s g,δ d c.b f],z,z,⟨[i' c.d],[i' c.r,δ l c.o k,δ j c.l i,δ h c.s g,δ d c.b f],z,z,⟨[i' c.r],[δ l c.o k,δ j c.l i,δ h c.s g,δ d c.b f],z,z,⟨[δ l c.o k],[δ j c.l i,δ h c.s g,δ d c.b f],z,⟨_,z,D⟩,⟨[δ j c.l i],[δ h c.s g,δ d c.b f],z,⟨_,z,W⟩,⟨[δ h c.s g],[δ d c.b f],z,⟨_,z,H⟩,⟨_,z,Y⟩⟩⟩⟩⟩⟩⟩⟩⟩,z⟩ (key:=999) z (by rw[T];rfl) (λp2 aN P ax=>?_);refine oA hr λX hr=>jU (r:=qP) 1003 z z vQ M7 z ĳ z z (V.mono (mx L P)) z (by rw[T];rfl) E ax X λp3 ar af an N aw ah=>Ý z<|t'<|E'<|b'<|w'<|ν z<|iV z<|Ý z<|t'<|N' ⟨an,(x++[c]),p3,ar,af,i64.wrap (a+1)⟩ hr ⟨(mx (mx (mx m L) P) N),aw,ah⟩ (Å z) (w2 z z)
instance mH{b1 a r}:SpcM ((KR b1 a)) r (∀{aw ao Z i I K Y N av aq},Cr 12 #[.agg ((fx b1 aw ao)).toArray,.agg ((pz a Z i I K Y N av aq)).toArray] (λG=>sl fS G aw ao b1.t/\sl tS G Z i a.c.l/\sl (Rp.int .u8) G I K a.c.iu/\sl (gb .i8 5) G Y N a.p.t/\sl xZ G av aq a.l) (È r)):=.mk λhr {aw ao Z i I K Y N av aq}=>by
 refine æ ?_;intro w0 G0 _ _ _ M _ P _ A R _ _ _ hr V;refine o' ?_;refine æ ?_;intro hr;refine I' hr z (λa0 hr=>?_) (λa0 hr=>?_)
 .refine sr<|Γ (y' 3 xP z z z)<|oE hr λbh aK hr=>gW z z (x' OT z) (Wt.h aK) z (⟨P,A,R,V⟩) (λbe bg p ad=>?_)
  obtain⟨aS,aT,aG,aO,rfl,J,F⟩:=ad;refine W' 7 z rN z λb5=>fZ 7 tP z<|nx<|o'<|fE [ff,ff,ff,ff,ff,ff,ff,ff,tt,tt,ff] eJ İ λhb=>cn (λ_ d=>y' 2 mf z z z) ?_
  refine æ ?_;intro q hr _;refine oE hr λt aP hr=>mw (f:=27) (φ:=È t) (λ_=>z) (λv U W d h=>?_) (λu l d m=>?_) ?_
  .obtain⟨x,B,rfl,o⟩:=h;exact⟨_,_,z,o.mono d⟩
  .obtain⟨⟨e,j,k,g,aB,E,D⟩,_⟩:=(show(λG v=>∃e j k g,v=.agg ([i' q.kind,δ e q.p j,δ k q.o g]).toArray/\sl c' G e j q.p/\sv G k g q.o) l.m (u 24)/\True from m);exact⟨_,_,_,λ_=>x' Ah z,B9.h aP,(by simp only[aB]<;>rfl),⟨((M.mono p).mono d),(J.mono d),(F.mono d),E,D⟩⟩
  refine jN (φ:=È t) (λ_=>z) (λv U W d h=>?_) (λu l d m=>?_) ?_
  .obtain⟨p1,T,rfl,L⟩:=h;exact⟨_,_,z,L.mono d⟩
  .obtain⟨⟨x,B,aC,o⟩,_,_⟩:=(show(È t) l.m (u 25)/\True/\True from m);simp only[υ,aC];exact⟨_,k' z,x,B,z,o⟩
  refine jN (φ:=jt t.1) (λ_=>z) (λv U W d h=>?_) (λu l d m=>?_) ?_
  .obtain⟨p2,aX,rfl,ap⟩:=h;exact⟨_,_,z,ap.mono d⟩
  .obtain⟨⟨p1,T,s,L⟩,_,_,_⟩:=(show(È t) l.m (u 19)/\True/\True/\True from m);simp only[υ,s];exact⟨_,O' z z,p1,T,z,L⟩
  refine mz (c:=i' t.2.1) (λ_=>z) (λu l d m=>?_) ?_
  .obtain⟨_,⟨p1,T,s,L⟩,_,_,_⟩:=(show True/\(È t) l.m (u 19)/\True/\True/\True from m);simp only[υ,s];exact O' z z
  refine mz (c:=i' t.2.2) (λ_=>z) (λu l d m=>?_) ?_
  .obtain⟨_,⟨p1,T,s,L⟩,_,_,_⟩:=(show True/\(È t) l.m (u 19)/\True/\True/\True from m);simp only[υ,s];exact O' z z
  refine kI (λ_=>z) z26<|yb (λbi a5 bb a6 bc X1 aN au ag ae aj ak=>?_)
  obtain⟨b6,rfl,aI⟩:=au;obtain⟨p2,aX,rfl,ap⟩:=ag;obtain⟨p1,T,rfl,L⟩:=ae;obtain⟨x,B,rfl,o⟩:=aj;obtain⟨e,j,k,g,rfl,E,D⟩:=ak;refine oS aI (mg (show WL _ _ _ _ _ _ (St w0 G0 X1.m _)from ?_));exact Η
 refine q'<|b'<|o'<|fE [ff,ff,ff,ff,ff,ff,ff,ff,ff,ff,tt,ff] eJ İ λhb=>?_
 refine æ ?_;intro aE hr _;refine oE hr λH aQ hr=>mw (f:=36) (φ:=fk H) (λ_=>z) (λv U W d h=>?_) (λu l d m=>?_) ?_
 .obtain⟨y,C,rfl,n⟩:=h;exact⟨_,_,z,n.mono d⟩
 .obtain⟨⟨ar,am,aD,Q⟩,_⟩:=(show(fX qP aE) l.m (u 42)/\True from m);exact⟨_,_,_,λ_=>x' D0 z,G4.h aQ,(by simp only[aD]<;>rfl),⟨(M.mono d),Q⟩⟩
 refine jN (φ:=fk H) (λ_=>z) (λv U W d h=>?_) (λu l d m=>?_) ?_
 .obtain⟨p3,X,rfl,S⟩:=h;exact⟨_,_,z,S.mono d⟩
 .obtain⟨⟨y,C,aA,n⟩,_,_⟩:=(show(fk H) l.m (u 45)/\True/\True from m);simp only[υ,aA];exact⟨_,k' z,y,C,z,n⟩
 refine jN (φ:=jt H.1) (λ_=>z) (λv U W d h=>?_) (λu l d m=>?_) ?_
 .obtain⟨p4,aU,rfl,an⟩:=h;exact⟨_,_,z,an.mono d⟩
 .obtain⟨⟨p3,X,O,S⟩,_,_,_⟩:=(show(fk H) l.m (u 37)/\True/\True/\True from m);simp only[υ,O];exact⟨_,O' z z,p3,X,z,S⟩
 refine mz (c:=i' H.2) (λ_=>z) (λu l d m=>?_) ?_
 .obtain⟨_,⟨p3,X,O,S⟩,_,_,_⟩:=(show True/\(fk H) l.m (u 37)/\True/\True/\True from m);simp only[υ,O];exact O' z z
 refine kI (λ_=>z) z26<|yb (λbj bd a3 ba a4 X2 aM ax ah af al ac=>?_)
 obtain⟨b7,rfl,aH⟩:=ax;obtain⟨p4,aU,rfl,an⟩:=ah;obtain⟨p3,X,rfl,S⟩:=af;obtain⟨y,C,rfl,n⟩:=al;obtain⟨ar,am,rfl,Q⟩:=ac;refine oS aH (mg (show WL _ _ _ _ _ _ (St w0 G0 X2.m _)from ?_));exact Η
instance hN'{Z W r}:SpcM ((FW Z W)) r (∀{S R},Cr 20 #[.agg ((fx Z S R)).toArray,i' W] (λG=>sl fS G S R Z.t) (λG v=>∃J E x u P O K L,v=.tuple #[.agg ((fD r.1 J E x u P O K L)).toArray,.bool r.2]/\sq G J E r.1.k.eqs/\sq G x u r.1.k.ε/\sl c' G P O r.1.q.p/\sv G K L r.1.q.o)):=.mk λhr {S R}=>by refine Ν ?_;intro w0 V _ i a hr _;refine WC.mA hr [1,2,4] [2] [4] [] (λ(⟨g,q,e,f,c,d,m,j,n,k⟩:Int×Zd×ŀ Addr×Nat×ŀ Addr×Nat×ŀ Addr×Nat×ŀ Addr×Nat)=>⟨(g,q),[(6,i' g)],λs=>sq s e f q.k.eqs/\sq s c d q.k.ε/\sl c' s m j q.q.p/\sv s n k q.q.o,[(4,ö a (fD q e f c d m j n k) 56)]⟩) (λ(⟨B,p,o,l,h,C,A,y,F⟩:Zd×ŀ Addr×Nat×ŀ Addr×Nat×ŀ Addr×Nat×ŀ Addr×Nat)=>⟨(.inr B),[],λI=>sq I p o B.k.eqs/\sq I l h B.k.ε/\sl c' I C A B.q.p/\sv I y F B.q.o,[(4,ö a (fD B p o l h C A y F) 56)]⟩) ⟨0,(Zd.mk 0 (Zc.mk 0 [] []) (Ze.mk 0 [] []) 0 0 0 false),none,0,none,0,none,0,none,0⟩
instance WA{k n r}:SpcM ((F3 k n)) r (∀{i h},Cr 162 #[δ i k h,i' n] (λG=>sq G i h k) (λG v=>v=.bool r)):=.mk λhr {i h}=>by refine Ν ?_;intro s f _ hr _;refine WC.mA hr [0,1] [] [] [] (λ(j:Int)=>⟨j,[(5,i' j)],tr,[]⟩) (λ(_:Unit)=>⟨(.inr ()),[],tr,[]⟩) 0
instance Ng{c r}:SpcM ((FR c)) r (Cr 163 #[i' c] (λG=>True) (λG v=>v=.bool r)):=.mk λhr=>Η
instance ic'{k r}:SpcM ((JS k)) r (∀{i e h f d c j g},Cr 237 #[.agg ((wJ k i e h f d c j g)).toArray] (λG=>su G i e k.lo.num.χ/\su G h f k.lo.den.χ/\su G d c k.hi.num.χ/\su G j g k.hi.den.χ) (λG v=>v=.bool r)):=.mk λhr {i e h f d c j g}=>Η
instance WB{u r}:SpcM ((vx u)) r (∀{i f j g},Cr 238 #[.agg ((Τ u i f j g)).toArray] (λG=>su G i f u.num.χ/\su G j g u.den.χ) (λG v=>v=.bool r)):=.mk λhr {i f j g}=>Η
instance ls{x E r}:SpcM ((FQ x E)) r (∀{p n},Cr 164 #[δ p x n,i' E] (λG=>sl (Rp.arr iH 8) G p n x) (λG v=>v=.bool r)):=.mk λhr {p n}=>by
 refine J' (args:=[_,_]) (N:=55) func164 z z z (λP s aw af=>?_);have e:=af;refine sr<|Ο z<|o'<|sr<|ν z<|Γ (P' uz e z)<|Γ (vJ z z)<|nx<|I' hr z (λar hr=>?_) (λar hr=>?_)
 .exact (show False from hr).elim
 refine q'<|b'<|o'<|sr<|Ο z<|WC.mD hr [0,1] [] [] [] (λ(u:Int)=>⟨u,[(5,i' u)],tr,[]⟩) (λ(_:Unit)=>⟨(.inr ()),[],tr,[]⟩) 0 ?_ ?_
 .intro _ f u d _ hr;refine o'<|sr<|ν z<|ν z<|Γ (P' uz (e.mono d) z)<|kr z<|nx<|I' hr z (λan hr=>?_) (λan hr=>?_)
  .refine q'<|b'<|o'<|Y'<|sr<|Ο z<|WC.mD hr [0,1,5] [] [0,1,5] [] (λ(y:Int)=>⟨y,[(6,i' y)],tr,[]⟩) (λ(_:Unit)=>⟨(.inr ()),[],tr,[]⟩) 0 ?_ ?_
   .intro _ k y c _ hr;refine o'<|sr<|ν z<|kr z<|nx<|I' hr z (λaq hr=>?_) (λaq hr=>?_)
    .refine q'<|b'<|o'<|Y'<|sr<|ν z<|ν z<|ν z<|oE hr λx1 B hr=>Γ (kf uz l6 (e.mono (mx d c)) z z B)<|oE hr λx2 T hr=>Γ (uF zO kj z z (uG (iI e B) T)) ?_
     obtain⟨L,F,K,I,H,O,J,M,ao,h,j,i,g⟩:=Pq (T' (AtK.arr (iI e B) T) (mx d c));refine Γ (mW _ r9 z z ao)<|oE hr λal ah hr=>H' z z (x' IK z) (ic'.h ah) z (⟨h,j,i,g⟩) ?_
     cases al
     .refine Γ (kO z)<|ν z<|nR z<|Ê (M' z z) z<|Ê (M' z z) z<|Ê (M' z z) z<|Ê (M' z z) z<|Ê (M' z z) z<|Ê (M' z z) z<|Ê (M' z z) z<|Ê (M' z z) z<|Ê (M' z z) z<|Ê (M' z z) z<|Ê (M' z z) z<|Ê (M' z z) z<|Ê (M' z z) z<|Ê (M' z z) z<|Ê (M' z z) z<|Ê (M' z z) z<|Ê (M' z z) z<|Ê (M' z z) z<|Ê (M' z z) z<|Ê (M' z z) z<|sf z z z<|Ι z<|nx<|ot z<|sr<|Ο z<|m'<|g'<|a'<|a'<|g'<|ni<|g'<|a'<|a'<|g'<|ni<|a' (Ø hr z z)
     refine Γ (kO z)<|ν z<|kT z<|kT z<|eb hr (C' z z) (vR z z) z (λap hr=>?_) (λap hr=>?_)
     .refine kT z<|kT z<|kT z<|kT z<|oE hr λx3 A hr=>gy z z (kf uz l6 (e.mono (mx d c)) z z A) z<|oE hr λx4 a hr=>gy z z (uF zO kj z z (uG (iI e A) a)) z<|gy z z (eV' z) z ?_
      obtain⟨V,ac,S,W,ai,l,m⟩:=pN (T' (sj (nY (AtK.arr (iI e A) a))) (mx d c));refine gy z z (mW _ mo z z ai) z<|oE hr λaj X hr=>H' (C' z z) z (x' Af z) (WB.h X) z (⟨l,m⟩) ?_
      cases aj
      .refine gy z z (kO z) z<|kT z<|XV z<|gy z z (h' z z) z<|gy z z (h' z z) z<|ς z<|nx<|ot z<|sr<|Ο z<|m'<|g'<|a'<|a'<|g'<|ni<|g'<|a'<|a'<|g'<|ni<|a' (Ø hr z z)
      refine gy z z (kO z) z<|kT z<|kT z<|kT z<|kT z<|oE hr λx5 C hr=>gy z z (kf uz l6 (e.mono (mx d c)) z z C) z<|oE hr λx6 Y hr=>gy z z (uF zO kj z z (uG (iI e C) Y)) z<|gy z z (eW' z) z ?_
      obtain⟨ab,U,R,Z,ak,o,q⟩:=pN (T' (xS (nY (AtK.arr (iI e C) Y))) (mx d c));refine gy z z (mW _ mo z z ak) z<|oE hr λav ae hr=>H' (C' z z) z (x' Af z) (WB.h ae) z (⟨o,q⟩)<|gy z z (kO z) z<|gy z z (f' z z) z<|gy z z (h' z z) z<|ς z<|nx<|ke hr z (λam hr=>?_) (λam hr=>?_)
      .refine sr<|Ο z<|m'<|g'<|a'<|a'<|g'<|ni<|g'<|a'<|a'<|g'<|ni<|a' (Ø hr z z)
      refine q'<|E'<|b'<|w'<|ν z<|iV z<|Ý z<|t'<|N' ⟨k,i64.wrap (y+1)⟩ hr ⟨c,trivial⟩ (Å z) (wk ln)
     refine kT z<|XV z<|sk z z z<|Ê (M' z z) z<|Ê (M' z z) z<|Ê (M' z z) z<|Ê (M' z z) z<|Ê (M' z z) z<|Ê (M' z z) z<|Ê (M' z z) z<|Ê (M' z z) z<|Ê (M' z z) z<|sk z z z<|gy z z (f' z z) z<|ς z<|nx<|tN z<|q'<|E'<|b'<|w'<|ν z<|iV z<|Ý z<|t'<|N' ⟨k,i64.wrap (y+1)⟩ hr ⟨c,trivial⟩ (Å z) (wk ln)
    refine nK<|p'<|p'<|K'<|oq ⟨k,()⟩ ⟨hr,c,trivial⟩ (Å z) (wk ln)
   intro t _ hr Q _;refine E'<|b'<|w'<|ν z<|iV z<|Ý z<|t'<|N' ⟨t,i64.wrap (u+1)⟩ hr ⟨(mx d Q),trivial⟩ (Å z) (wk ln)
  refine nK<|p'<|p'<|K'<|oq ⟨f,()⟩ ⟨hr,d,trivial⟩ fn (wk ln)
 intro D _ hr au _;refine b'<|sr<|Ο z<|m' (Ø hr z z)
instance iS'{k r}:SpcM ((K0 k)) r (∀{i h},Cr 165 #[δ i k h] (λG=>sl (Rp.int .i64) G i h k) (λG v=>v=.bool r)):=.mk λhr {i h}=>by refine Ν ?_;intro p f _ hr _;refine WC.mA hr [0] [] [] [] (λ(j:Int)=>⟨j,[(3,i' j)],tr,[]⟩) (λ(_:Unit)=>⟨(.inr ()),[],tr,[]⟩) 0
set_option maxHeartbeats 2000000 in
instance iT'{l c r}:SpcM ((FP l c)) r (∀{j k i h t s n u y q o x p m},Cr 92 #[.agg ((ÿ l j k i h)).toArray,.agg ((ka c t s n u y q o x p m)).toArray] (λG=>sq G j k l.eqs/\sq G i h l.ε/\sl c' G t s c.p/\sv G n u c.o/\sq G y q c.l/\sl (Rp.int .i64) G o x c.s/\sl (Rp.arr iH 8) G p m c.b) (λG v=>v=.bool r)):=.mk λhr {j k i h t s n u y q o x p m}=>by
 refine J' (args:=[_,_]) (N:=314) func92 z z z (λX O bA a0=>?_);obtain⟨R,L,M,P,B,E,C⟩:=a0;refine sr<|jT 2 z z z λT=>jT 3 z z z λQ=>Ο z<|o'<|sr<|Γ (y' 2 mq z z z)<|oE hr λbB az hr=>H' z z (x' Yx z) (gz'.h az) z (⟨R,L⟩)<|Γ (kO z)<|nx<|ke hr z (λbt hr=>?_) (λbt hr=>?_)
 .exact (show False from hr).elim
 refine q'<|b'<|o'<|fE [ff,ff,ff,ff,ff,ff,ff,ff,ff,ff,ff,ff,ff,ff,ff,ff,ff,ff,ff,ff,ff,ff,ff,ff] eJ İ λhb=>cn (λ_ d=>GQ z)<|cn (λ_ d=>n' 3 rA z z z)<|cn (λ_ d=>P' Q' (M.mono d) z)<|cn (λ_ d=>eI z z)<|cn (λ_ d=>BY z)<|cn (λ_ d=>n' 3 jY z z z)<|cn (λ_ d=>P' jS (B.mono d) z)<|cn (λ_ d=>eI z z)<|cn (λ_ d=>Wn z)<|cn (λ_ d=>n' 3 s6 z z z)<|cn (λ_ d=>P' tJ (P.mono d) z)<|cn (λ_ d=>eI z z)<|cn (λ_ d=>BS z)<|cn (λ_ d=>n' 3 sZ z z z)<|cn (λ_ d=>P' zC (E.mono d) z)<|cn (λ_ d=>eI z z)<|cn (λ_ d=>zH z)<|cn (λ_ d=>n' 3 q9 z z z)<|cn (λ_ d=>P' uz (C.mono d) z)<|cn (λ_ d=>eI z z)<|cn (λ_ d=>rC z)<|cn (λ_ d=>rC z)<|cn (λ_ d=>rC z)<|cn (λ_ d=>rC z)<|oM hb<|Ý z<|t'<|Θ<|b'<|WC.nD hr [2,3,5,6,7,8,9] [2,3] (λ(A:Bool)=>⟨[(10,.bool A)],wY l c A,tr,[]⟩) ?_ ?_
 .refine w'<|Γ (zG z)<|Γ (n' 3 eO z z z)<|eb hr z (eI z z) z (λap hr=>?_) (λap hr=>?_)
  .refine ν z<|gy z z (xT z) z<|gy z z (n' 3 eO z z z) z<|eb hr (C' z z) (eI z z) z (λaV hr=>?_) (λaV hr=>?_)
   .refine Ι z<|ν z<|gy z z (zK z) z<|gy z z (n' 3 eO z z z) z<|gy z z (eI z z) z<|Ι z<|Ý z<|t'<|pM ⟨O,decide (c.r=0)⟩ ⟨hr,mr,trivial⟩ (Å z) (w2 z z)
   refine Ι z<|ν z<|fO z<|ς z<|Ý z<|t'<|pM ⟨O,false⟩ ⟨hr,mr,trivial⟩ (Å z) (w2 z z)
  refine ν z<|fO z<|ς z<|ν z<|fO z<|ς z<|Ý z<|t'<|pM ⟨O,false⟩ ⟨hr,mr,trivial⟩ (Å z) (w2 z z)
 intro F A hr e _;refine sr<|Γ (GQ z)<|Γ (n' 3 rA z z z)<|Γ (rD z)<|Γ (n' 2 eO z z z)<|oE hr λS aA hr=>H' z z (x' z8 z) (Wy.h aA) z ((M.mono e))<|Ο z<|o'<|sr<|Γ (zF z)<|Γ (n' 3 eO z z z)<|nx<|Y'<|WC.nD hr [2,3,5,6,7,8,9,10,11,54] [2,3] (λ(K:Bool)=>⟨[(55,.bool K)],AI l c A S K,tr,[]⟩) ?_ ?_
 .refine sr<|Γ (eI z z)<|Ο z<|I' hr z (λaL hr=>?_) (λaL hr=>?_)
  .refine q'<|pM ⟨F,decide (c.kind=1)⟩ ⟨hr,mr,trivial⟩ (f11 z z z z z z z z z z z) (w2 z z)
  refine sr<|Γ (eI z z)<|Ο z<|I' hr z (λaH hr=>?_) (λaH hr=>?_)
  .refine q'<|pM ⟨F,decide (c.kind=2)⟩ ⟨hr,mr,trivial⟩ (f11 z z z z z z z z z z z) (w2 z z)
  refine w'<|Γ (eI z z)<|Ý z<|t'<|pM ⟨F,decide (c.kind=10)⟩ ⟨hr,mr,trivial⟩ (f11 z z z z z z z z z z z) (w2 z z)
 intro I K hr g _;refine ke hr z (λbg hr=>?_) (λbg hr=>?_)
 .refine sr<|eb hr z (nL (k' z) (đ Value.bool (ow _))) z (λbs hr=>?_) (λbs hr=>?_)
  .refine ν z<|eb hr (C' z z) (k' z) z (λbi hr=>?_) (λbi hr=>?_)
   .refine Ι z<|ν z<|eb hr (C' z z) (k' z) z (λbl hr=>?_) (λbl hr=>?_)
    .refine Ι z<|ν z<|eb hr (C' z z) (k' z) z (λbr hr=>?_) (λbr hr=>?_)
     .refine Ι z<|ν z<|eb hr (C' z z) (k' z) z (λbp hr=>?_) (λbp hr=>?_)
      .refine Ι z<|ν z<|kT z<|Ι z<|Ο z<|m'<|g'<|a' (Ø hr z z)
      refine Ι z<|ν z<|sk z z z<|ς z<|Ο z<|m'<|g'<|a' (Ø hr z z)
     refine Ι z<|ν z<|sk z z z<|ς z<|ν z<|sk z z z<|ς z<|Ο z<|m'<|g'<|a' (Ø hr z z)
    refine Ι z<|ν z<|sk z z z<|ς z<|ν z<|sk z z z<|ς z<|ν z<|sk z z z<|ς z<|Ο z<|m'<|g'<|a' (Ø hr z z)
   refine Ι z<|ν z<|sk z z z<|ς z<|ν z<|sk z z z<|ς z<|ν z<|sk z z z<|ς z<|ν z<|sk z z z<|ς z<|Ο z<|m'<|g'<|a' (Ø hr z z)
  refine ν z<|sk z z z<|ς z<|ν z<|sk z z z<|ς z<|ν z<|sk z z z<|ς z<|ν z<|sk z z z<|ς z<|ν z<|sk z z z<|ς z<|Ο z<|m'<|g'<|a' (Ø hr z z)
 refine WC.nD hr [2,3,5,6,7,8,9,10,11,54] [2,3] (λ(J:Bool)=>⟨[(75,.bool J)],EH l c A S J,tr,[]⟩) ?_ ?_
 .refine sr<|Γ (eI z z)<|Ο z<|I' hr z (λa2 hr=>?_) (λa2 hr=>?_)
  .refine q'<|pM ⟨I,decide (c.kind=3)⟩ ⟨hr,mr,trivial⟩ (f11 z z z z z z z z z z z) (w2 z z)
  refine w'<|Γ (eI z z)<|Ý z<|t'<|pM ⟨I,decide (c.kind=9)⟩ ⟨hr,mr,trivial⟩ (f11 z z z z z z z z z z z) (w2 z z)
 intro H J hr f _;refine ke hr z (λbm hr=>?_) (λbm hr=>?_)
 .refine sr<|eb hr z (k' z) z (λbn hr=>?_) (λbn hr=>?_)
  .refine ν z<|eb hr (C' z z) (k' z) z (λbq hr=>?_) (λbq hr=>?_)
   .refine Ι z<|ν z<|eb hr (C' z z) (k' z) z (λbc hr=>?_) (λbc hr=>?_)
    .refine Ι z<|ν z<|eb hr (C' z z) (k' z) z (λbd hr=>?_) (λbd hr=>?_)
     .refine Ι z<|ν z<|eb hr (C' z z) (k' z) z (λaO hr=>?_) (λaO hr=>?_)
      .refine Ι z<|ν z<|kT z<|Ι z<|Ο z<|m'<|g'<|a' (Ø hr z z)
      refine Ι z<|ν z<|sk z z z<|ς z<|Ο z<|m'<|g'<|a' (Ø hr z z)
     refine Ι z<|ν z<|sk z z z<|ς z<|ν z<|sk z z z<|ς z<|Ο z<|m'<|g'<|a' (Ø hr z z)
    refine Ι z<|ν z<|sk z z z<|ς z<|ν z<|sk z z z<|ς z<|ν z<|sk z z z<|ς z<|Ο z<|m'<|g'<|a' (Ø hr z z)
   refine Ι z<|ν z<|sk z z z<|ς z<|ν z<|sk z z z<|ς z<|ν z<|sk z z z<|ς z<|ν z<|sk z z z<|ς z<|Ο z<|m'<|g'<|a' (Ø hr z z)
  refine ν z<|sk z z z<|ς z<|ν z<|sk z z z<|ς z<|ν z<|sk z z z<|ς z<|ν z<|sk z z z<|ς z<|ν z<|sk z z z<|ς z<|Ο z<|m'<|g'<|a' (Ø hr z z)
 refine sr<|Γ (eI z z)<|Ο z<|I' hr z (λbe hr=>?_) (λbe hr=>?_)
 .refine sr<|eb hr z (k' z) z (λag hr=>?_) (λag hr=>?_)
  .refine ν z<|eb hr (C' z z) (k' z) z (λaD hr=>?_) (λaD hr=>?_)
   .refine Ι z<|ν z<|eb hr (C' z z) (k' z) z (λa3 hr=>?_) (λa3 hr=>?_)
    .refine Ι z<|ν z<|eb hr (C' z z) (nL (k' z) (đ Value.bool (ow _))) z (λav hr=>?_) (λav hr=>?_)
     .refine Ι z<|ν z<|gy z z (Wn z) z<|gy z z (n' 3 s6 z z z) z<|oE hr λbh aR hr=>H' (C' z z) z (x' Is z) (fK'.h aR) z ((P.mono (mx (mx e g) f))) ?_
      cases bh
      .refine Ι z<|ν z<|nR z<|ς z<|ν z<|ig z<|ς z<|Ο z<|m'<|g'<|a' (Ø hr z z)
      refine Ι z<|ν z<|gy z z (BY z) z<|gy z z (n' 3 jY z z z) z<|gy z z (P' jS (B.mono (mx (mx e g) f)) z) z<|eb hr (C' z z) (BP z z) z (λaW hr=>?_) (λaW hr=>?_)
      .refine Ι z<|ν z<|gy z z (BY z) z<|gy z z (n' 3 jY z z z) z<|gy z z (rD z) z<|gy z z (n' 2 eO z z z) z<|oE hr λbz ac hr=>H' (C' z z) z (x' Aa z) (WA.h ac) z ((B.mono (mx (mx e g) f)))<|Ι z<|Ο z<|m'<|g'<|a' (Ø hr z z)
      refine Ι z<|ν z<|ig z<|ς z<|Ο z<|m'<|g'<|a' (Ø hr z z)
     refine Ι z<|ν z<|fO z<|ς z<|ν z<|nR z<|ς z<|ν z<|ig z<|ς z<|Ο z<|m'<|g'<|a' (Ø hr z z)
    refine Ι z<|ν z<|sk z z z<|ς z<|ν z<|fO z<|ς z<|ν z<|nR z<|ς z<|ν z<|ig z<|ς z<|Ο z<|m'<|g'<|a' (Ø hr z z)
   refine Ι z<|ν z<|sk z z z<|ς z<|ν z<|sk z z z<|ς z<|ν z<|fO z<|ς z<|ν z<|nR z<|ς z<|ν z<|ig z<|ς z<|Ο z<|m'<|g'<|a' (Ø hr z z)
  refine ν z<|sk z z z<|ς z<|ν z<|sk z z z<|ς z<|ν z<|sk z z z<|ς z<|ν z<|fO z<|ς z<|ν z<|nR z<|ς z<|ν z<|ig z<|ς z<|Ο z<|m'<|g'<|a' (Ø hr z z)
 refine sr<|Γ (eI z z)<|Ο z<|I' hr z (λbo hr=>?_) (λbo hr=>?_)
 .refine sr<|eb hr z (k' z) z (λan hr=>?_) (λan hr=>?_)
  .refine ν z<|eb hr (C' z z) (k' z) z (λaB hr=>?_) (λaB hr=>?_)
   .refine Ι z<|ν z<|eb hr (C' z z) (k' z) z (λY hr=>?_) (λY hr=>?_)
    .refine Ι z<|ν z<|eb hr (C' z z) (k' z) z (λaG hr=>?_) (λaG hr=>?_)
     .refine Ι z<|ν z<|eb hr (C' z z) (k' z) z (λaf hr=>?_) (λaf hr=>?_)
      .refine Ι z<|ν z<|gy z z (zK z) z<|gy z z (n' 3 eO z z z) z<|eb hr (C' z z) (eI z z) z (λar hr=>?_) (λar hr=>?_)
       .refine Ι z<|ν z<|gy z z (xT z) z<|gy z z (n' 3 eO z z z) z<|eb hr (C' z z) (vR z z) z (λaI hr=>?_) (λaI hr=>?_)
        .refine Ι z<|ν z<|gy z z (xT z) z<|gy z z (n' 3 eO z z z) z<|gy z z (rD z) z<|gy z z (n' 2 eO z z z) z<|eb hr (C' z z) (BP z z) z (λaa hr=>?_) (λaa hr=>?_)
         .refine Ι z<|ν z<|gy z z (zG z) z<|gy z z (n' 3 eO z z z) z<|oE hr λbE aQ hr=>H' (C' z z) z (x' wN z) (Ng.h aQ) z (trivial)<|Ι z<|Ο z<|m'<|g'<|a' (Ø hr z z)
         refine Ι z<|ν z<|fO z<|ς z<|Ο z<|m'<|g'<|a' (Ø hr z z)
        refine Ι z<|ν z<|ig z<|ς z<|ν z<|fO z<|ς z<|Ο z<|m'<|g'<|a' (Ø hr z z)
       refine Ι z<|ν z<|fO z<|ς z<|ν z<|ig z<|ς z<|ν z<|fO z<|ς z<|Ο z<|m'<|g'<|a' (Ø hr z z)
      refine Ι z<|ν z<|fO z<|ς z<|ν z<|fO z<|ς z<|ν z<|ig z<|ς z<|ν z<|fO z<|ς z<|Ο z<|m'<|g'<|a' (Ø hr z z)
     refine Ι z<|ν z<|sk z z z<|ς z<|ν z<|fO z<|ς z<|ν z<|fO z<|ς z<|ν z<|ig z<|ς z<|ν z<|fO z<|ς z<|Ο z<|m'<|g'<|a' (Ø hr z z)
    refine Ι z<|ν z<|sk z z z<|ς z<|ν z<|sk z z z<|ς z<|ν z<|fO z<|ς z<|ν z<|fO z<|ς z<|ν z<|ig z<|ς z<|ν z<|fO z<|ς z<|Ο z<|m'<|g'<|a' (Ø hr z z)
   refine Ι z<|ν z<|sk z z z<|ς z<|ν z<|sk z z z<|ς z<|ν z<|sk z z z<|ς z<|ν z<|fO z<|ς z<|ν z<|fO z<|ς z<|ν z<|ig z<|ς z<|ν z<|fO z<|ς z<|Ο z<|m'<|g'<|a' (Ø hr z z)
  refine ν z<|sk z z z<|ς z<|ν z<|sk z z z<|ς z<|ν z<|sk z z z<|ς z<|ν z<|sk z z z<|ς z<|ν z<|fO z<|ς z<|ν z<|fO z<|ς z<|ν z<|ig z<|ς z<|ν z<|fO z<|ς z<|Ο z<|m'<|g'<|a' (Ø hr z z)
 refine sr<|Γ (eI z z)<|Ο z<|I' hr z (λbk hr=>?_) (λbk hr=>?_)
 .refine sr<|eb hr z (k' z) z (λa5 hr=>?_) (λa5 hr=>?_)
  .refine ν z<|eb hr (C' z z) (k' z) z (λaj hr=>?_) (λaj hr=>?_)
   .refine Ι z<|ν z<|eb hr (C' z z) (k' z) z (λa1 hr=>?_) (λa1 hr=>?_)
    .refine Ι z<|ν z<|eb hr (C' z z) (k' z) z (λa4 hr=>?_) (λa4 hr=>?_)
     .refine Ι z<|ν z<|eb hr (C' z z) (k' z) z (λak hr=>?_) (λak hr=>?_)
      .refine Ι z<|ν z<|gy z z (zG z) z<|gy z z (n' 3 eO z z z) z<|oE hr λba ae hr=>H' (C' z z) z (x' wN z) (Ng.h ae) z (trivial) ?_
       cases ba
       .refine Ι z<|ν z<|fO z<|ς z<|ν z<|ig z<|ς z<|ν z<|ig z<|ς z<|Ο z<|m'<|g'<|a' (Ø hr z z)
       refine Ι z<|ν z<|gy z z (zK z) z<|gy z z (n' 3 eO z z z) z<|eb hr (C' z z) (vR z z) z (λaC hr=>?_) (λaC hr=>?_)
       .refine Ι z<|ν z<|gy z z (zK z) z<|gy z z (n' 3 eO z z z) z<|gy z z (xT z) z<|gy z z (n' 3 eO z z z) z<|eb hr (C' z z) (BP z z) z (λaY hr=>?_) (λaY hr=>?_)
        .refine Ι z<|ν z<|gy z z (xT z) z<|gy z z (n' 3 eO z z z) z<|gy z z (zG z) z<|gy z z (n' 3 eO z z z) z<|gy z z (BP z z) z<|Ι z<|Ο z<|m'<|g'<|a' (Ø hr z z)
        refine Ι z<|ν z<|ig z<|ς z<|Ο z<|m'<|g'<|a' (Ø hr z z)
       refine Ι z<|ν z<|ig z<|ς z<|ν z<|ig z<|ς z<|Ο z<|m'<|g'<|a' (Ø hr z z)
      refine Ι z<|ν z<|fO z<|ς z<|ν z<|fO z<|ς z<|ν z<|ig z<|ς z<|ν z<|ig z<|ς z<|Ο z<|m'<|g'<|a' (Ø hr z z)
     refine Ι z<|ν z<|sk z z z<|ς z<|ν z<|fO z<|ς z<|ν z<|fO z<|ς z<|ν z<|ig z<|ς z<|ν z<|ig z<|ς z<|Ο z<|m'<|g'<|a' (Ø hr z z)
    refine Ι z<|ν z<|sk z z z<|ς z<|ν z<|sk z z z<|ς z<|ν z<|fO z<|ς z<|ν z<|fO z<|ς z<|ν z<|ig z<|ς z<|ν z<|ig z<|ς z<|Ο z<|m'<|g'<|a' (Ø hr z z)
   refine Ι z<|ν z<|sk z z z<|ς z<|ν z<|sk z z z<|ς z<|ν z<|sk z z z<|ς z<|ν z<|fO z<|ς z<|ν z<|fO z<|ς z<|ν z<|ig z<|ς z<|ν z<|ig z<|ς z<|Ο z<|m'<|g'<|a' (Ø hr z z)
  refine ν z<|sk z z z<|ς z<|ν z<|sk z z z<|ς z<|ν z<|sk z z z<|ς z<|ν z<|sk z z z<|ς z<|ν z<|fO z<|ς z<|ν z<|fO z<|ς z<|ν z<|ig z<|ς z<|ν z<|ig z<|ς z<|Ο z<|m'<|g'<|a' (Ø hr z z)
 refine sr<|Γ (eI z z)<|Ο z<|I' hr z (λbb hr=>?_) (λbb hr=>?_)
 .refine sr<|eb hr z (k' z) z (λal hr=>?_) (λal hr=>?_)
  .refine ν z<|eb hr (C' z z) (k' z) z (λab hr=>?_) (λab hr=>?_)
   .refine Ι z<|ν z<|eb hr (C' z z) (k' z) z (λah hr=>?_) (λah hr=>?_)
    .refine Ι z<|ν z<|eb hr (C' z z) (k' z) z (λaT hr=>?_) (λaT hr=>?_)
     .refine Ι z<|ν z<|eb hr (C' z z) (nL (k' z) (đ Value.bool (ow _))) z (λau hr=>?_) (λau hr=>?_)
      .refine Ι z<|ν z<|gy z z (zH z) z<|gy z z (n' 3 q9 z z z) z<|gy z z (rD z) z<|gy z z (n' 2 eO z z z) z<|oE hr λbD aX hr=>H' (C' z z) z (x' Ab z) (ls.h aX) z ((C.mono (mx (mx e g) f)))<|Ι z<|Ο z<|m'<|g'<|a' (Ø hr z z)
      refine Ι z<|ν z<|ig z<|ς z<|Ο z<|m'<|g'<|a' (Ø hr z z)
     refine Ι z<|ν z<|sk z z z<|ς z<|ν z<|ig z<|ς z<|Ο z<|m'<|g'<|a' (Ø hr z z)
    refine Ι z<|ν z<|sk z z z<|ς z<|ν z<|sk z z z<|ς z<|ν z<|ig z<|ς z<|Ο z<|m'<|g'<|a' (Ø hr z z)
   refine Ι z<|ν z<|sk z z z<|ς z<|ν z<|sk z z z<|ς z<|ν z<|sk z z z<|ς z<|ν z<|ig z<|ς z<|Ο z<|m'<|g'<|a' (Ø hr z z)
  refine ν z<|sk z z z<|ς z<|ν z<|sk z z z<|ς z<|ν z<|sk z z z<|ς z<|ν z<|sk z z z<|ς z<|ν z<|ig z<|ς z<|Ο z<|m'<|g'<|a' (Ø hr z z)
 refine sr<|Γ (eI z z)<|Ο z<|I' hr z (λbj hr=>?_) (λbj hr=>?_)
 .refine sr<|eb hr z (nL (k' z) (đ Value.bool (ow _))) z (λay hr=>?_) (λay hr=>?_)
  .refine ν z<|eb hr (C' z z) (k' z) z (λao hr=>?_) (λao hr=>?_)
   .refine Ι z<|ν z<|eb hr (C' z z) (k' z) z (λaP hr=>?_) (λaP hr=>?_)
    .refine Ι z<|ν z<|eb hr (C' z z) (nL (k' z) (đ Value.bool (ow _))) z (λaw hr=>?_) (λaw hr=>?_)
     .refine Ι z<|ν z<|gy z z (zH z) z<|gy z z (n' 3 q9 z z z) z<|gy z z (rD z) z<|gy z z (n' 2 eO z z z) z<|oE hr λa a7 hr=>H' (C' z z) z (x' Ab z) (ls.h a7) z ((C.mono (mx (mx e g) f))) ?_
      cases a
      .refine Ι z<|ν z<|rb z<|ς z<|ν z<|fO z<|ς z<|Ο z<|m'<|g'<|a' (Ø hr z z)
      refine Ι z<|ν z<|gy z z (BS z) z<|gy z z (n' 3 sZ z z z) z<|gy z z (P' zC (E.mono (mx (mx e g) f)) z) z<|gy z z (zH z) z<|gy z z (n' 3 q9 z z z) z<|gy z z (P' uz (C.mono (mx (mx e g) f)) z) z<|eb hr (C' z z) (eI z z) z (λZ hr=>?_) (λZ hr=>?_)
      .refine Ι z<|ν z<|gy z z (BS z) z<|gy z z (n' 3 sZ z z z) z<|oE hr λbC ax hr=>H' (C' z z) z (x' It z) (iS'.h ax) z ((E.mono (mx (mx e g) f)))<|Ι z<|Ο z<|m'<|g'<|a' (Ø hr z z)
      refine Ι z<|ν z<|fO z<|ς z<|Ο z<|m'<|g'<|a' (Ø hr z z)
     refine Ι z<|ν z<|ig z<|ς z<|ν z<|rb z<|ς z<|ν z<|fO z<|ς z<|Ο z<|m'<|g'<|a' (Ø hr z z)
    refine Ι z<|ν z<|sk z z z<|ς z<|ν z<|ig z<|ς z<|ν z<|rb z<|ς z<|ν z<|fO z<|ς z<|Ο z<|m'<|g'<|a' (Ø hr z z)
   refine Ι z<|ν z<|sk z z z<|ς z<|ν z<|sk z z z<|ς z<|ν z<|ig z<|ς z<|ν z<|rb z<|ς z<|ν z<|fO z<|ς z<|Ο z<|m'<|g'<|a' (Ø hr z z)
  refine ν z<|sk z z z<|ς z<|ν z<|sk z z z<|ς z<|ν z<|sk z z z<|ς z<|ν z<|ig z<|ς z<|ν z<|rb z<|ς z<|ν z<|fO z<|ς z<|Ο z<|m'<|g'<|a' (Ø hr z z)
 refine sr<|Γ (eI z z)<|Ο z<|I' hr z (λbf hr=>?_) (λbf hr=>?_)
 .refine sr<|eb hr z (k' z) z (λaZ hr=>?_) (λaZ hr=>?_)
  .refine ν z<|eb hr (C' z z) (k' z) z (λaN hr=>?_) (λaN hr=>?_)
   .refine Ι z<|ν z<|eb hr (C' z z) (k' z) z (λam hr=>?_) (λam hr=>?_)
    .refine Ι z<|ν z<|eb hr (C' z z) (k' z) z (λaK hr=>?_) (λaK hr=>?_)
     .refine Ι z<|ν z<|eb hr (C' z z) (nL (k' z) (đ Value.bool (ow _))) z (λa6 hr=>?_) (λa6 hr=>?_)
      .refine Ι z<|ν z<|gy z z (BY z) z<|gy z z (n' 3 jY z z z) z<|gy z z (P' jS (B.mono (mx (mx e g) f)) z) z<|eb hr (C' z z) (BP z z) z (λaU hr=>?_) (λaU hr=>?_)
       .refine Ι z<|ν z<|gy z z (BY z) z<|gy z z (n' 3 jY z z z) z<|gy z z (rD z) z<|gy z z (n' 2 eO z z z) z<|oE hr λbw W hr=>H' (C' z z) z (x' Aa z) (WA.h W) z ((B.mono (mx (mx e g) f)))<|Ι z<|Ο z<|m'<|g'<|a' (Ø hr z z)
       refine Ι z<|ν z<|ig z<|ς z<|Ο z<|m'<|g'<|a' (Ø hr z z)
      refine Ι z<|ν z<|nR z<|ς z<|ν z<|ig z<|ς z<|Ο z<|m'<|g'<|a' (Ø hr z z)
     refine Ι z<|ν z<|sk z z z<|ς z<|ν z<|nR z<|ς z<|ν z<|ig z<|ς z<|Ο z<|m'<|g'<|a' (Ø hr z z)
    refine Ι z<|ν z<|sk z z z<|ς z<|ν z<|sk z z z<|ς z<|ν z<|nR z<|ς z<|ν z<|ig z<|ς z<|Ο z<|m'<|g'<|a' (Ø hr z z)
   refine Ι z<|ν z<|sk z z z<|ς z<|ν z<|sk z z z<|ς z<|ν z<|sk z z z<|ς z<|ν z<|nR z<|ς z<|ν z<|ig z<|ς z<|Ο z<|m'<|g'<|a' (Ø hr z z)
  refine ν z<|sk z z z<|ς z<|ν z<|sk z z z<|ς z<|ν z<|sk z z z<|ς z<|ν z<|sk z z z<|ς z<|ν z<|nR z<|ς z<|ν z<|ig z<|ς z<|Ο z<|m'<|g'<|a' (Ø hr z z)
 refine WC.nD hr [3,5,6,7,8,9] [3] (λ(D:Bool)=>⟨[(283,.bool D)],EG c D,tr,[]⟩) ?_ ?_
 .refine sr<|Γ (eI z z)<|Ο z<|I' hr z (λaq hr=>?_) (λaq hr=>?_)
  .refine q'<|pM ⟨H,decide (c.kind=12)⟩ ⟨hr,mr,trivial⟩ (Å z) (w1 z)
  refine w'<|Γ (eI z z)<|Ý z<|t'<|pM ⟨H,decide (c.kind=13)⟩ ⟨hr,mr,trivial⟩ (Å z) (w1 z)
 intro U D hr bu _;refine ke hr z (λaM hr=>?_) (λaM hr=>?_)
 .refine sr<|eb hr z (k' z) z (λaE hr=>?_) (λaE hr=>?_)
  .refine ν z<|eb hr (C' z z) (k' z) z (λaJ hr=>?_) (λaJ hr=>?_)
   .refine Ι z<|ν z<|eb hr (C' z z) (k' z) z (λaF hr=>?_) (λaF hr=>?_)
    .refine Ι z<|ν z<|eb hr (C' z z) (k' z) z (λad hr=>?_) (λad hr=>?_)
     .refine Ι z<|ν z<|eb hr (C' z z) (k' z) z (λai hr=>?_) (λai hr=>?_)
      .refine Ι z<|ν z<|gy z z (xT z) z<|gy z z (n' 3 eO z z z) z<|eb hr (C' z z) (eI z z) z (λa8 hr=>?_) (λa8 hr=>?_)
       .refine Ι z<|ν z<|gy z z (zK z) z<|gy z z (n' 3 eO z z z) z<|eb hr (C' z z) (eI z z) z (λaS hr=>?_) (λaS hr=>?_)
        .refine Ι z<|ν z<|gy z z (zG z) z<|gy z z (n' 3 eO z z z) z<|oE hr λbx V hr=>H' (C' z z) z (x' wN z) (Ng.h V) z (trivial)<|Ι z<|Ο z<|m'<|g'<|a' (Ø hr z z)
        refine Ι z<|ν z<|fO z<|ς z<|Ο z<|m'<|g'<|a' (Ø hr z z)
       refine Ι z<|ν z<|fO z<|ς z<|ν z<|fO z<|ς z<|Ο z<|m'<|g'<|a' (Ø hr z z)
      refine Ι z<|ν z<|fO z<|ς z<|ν z<|fO z<|ς z<|ν z<|fO z<|ς z<|Ο z<|m'<|g'<|a' (Ø hr z z)
     refine Ι z<|ν z<|sk z z z<|ς z<|ν z<|fO z<|ς z<|ν z<|fO z<|ς z<|ν z<|fO z<|ς z<|Ο z<|m'<|g'<|a' (Ø hr z z)
    refine Ι z<|ν z<|sk z z z<|ς z<|ν z<|sk z z z<|ς z<|ν z<|fO z<|ς z<|ν z<|fO z<|ς z<|ν z<|fO z<|ς z<|Ο z<|m'<|g'<|a' (Ø hr z z)
   refine Ι z<|ν z<|sk z z z<|ς z<|ν z<|sk z z z<|ς z<|ν z<|sk z z z<|ς z<|ν z<|fO z<|ς z<|ν z<|fO z<|ς z<|ν z<|fO z<|ς z<|Ο z<|m'<|g'<|a' (Ø hr z z)
  refine ν z<|sk z z z<|ς z<|ν z<|sk z z z<|ς z<|ν z<|sk z z z<|ς z<|ν z<|sk z z z<|ς z<|ν z<|fO z<|ς z<|ν z<|fO z<|ς z<|ν z<|fO z<|ς z<|Ο z<|m'<|g'<|a' (Ø hr z z)
 refine q'<|E'<|b'<|sr<|Ο z<|m' (Ø hr z z)
instance iK'{p d r}:SpcM ((Kw p d)) r (∀{J M L O n m i o h k l g j f},Cr 166 #[.agg ([i' p.kind,δ J p.p M,δ L p.o O]).toArray,.agg ((ka d n m i o h k l g j f)).toArray] (λG=>sl c' G J M p.p/\sv G L O p.o/\sl c' G n m d.p/\sv G i o d.o/\sq G h k d.l/\sl (Rp.int .i64) G l g d.s/\sl (Rp.arr iH 8) G j f d.b) (λG v=>v=.tuple #[i' r.1,i' r.2])):=.mk λhr {J M L O n m i o h k l g j f}=>by
 refine J' (args:=[_,_]) (N:=87) func166 z z z (λU E av W=>?_);obtain⟨Y,I,Q,V,Z,X,K⟩:=W;refine sr<|jT 2 z z z λb1=>jT 3 z z z λq=>Ý z<|Ο z<|WC.nB hr [3] [3] (λ(⟨u,e⟩:Bool×Bool)=>⟨[(6,.bool u),(7,.bool e)],yI d u e,tr,[]⟩) ?_
 rintro A ⟨u,e⟩ hr P _;refine o'<|Y'<|WC.nB hr [3,6,7] [3] (λ(H:Bool)=>⟨[(19,.bool H)],JW d u e H,tr,[]⟩) ?_
 intro t H hr T _;refine ke hr z (λa hr=>?_) (λa hr=>?_)
 .exact Η
 refine WC.nB hr [3,7] [3] (λ(D:Bool)=>⟨[(30,.bool D)],Er d e D,tr,[]⟩) ?_;intro y D hr R _;refine ke hr z (λc hr=>?_) (λc hr=>?_)
 .exact Η
 refine WC.nB hr [3,7] [3] (λ(F:Bool)=>⟨[(42,.bool F)],JV d e F,tr,[]⟩) ?_;intro s F hr S _;refine ke hr z (λB hr=>?_) (λB hr=>?_)
 .exact Η
 refine WC.nC hr [3,7] [3] (λ(C:Bool)=>⟨[(53,.bool C)],Ep d e C,tr,[]⟩) ?_;refine w'<|eb hr z (nL (k' z) (đ Value.bool (ow _))) z (λx hr=>?_) (λx hr=>?_)
 .exact Η
 exact ν z<|nR z<|Ê (M' z z) z<|Ê (M' z z) z<|Ê (M' z z) z<|sk z z z<|Η
instance jc'{p n r}:SpcM ((FZ p n)) r (∀{i l g k},Cr 239 #[δ i p l,δ g n k] (λG=>sv G i l p/\sv G g k n) (λG v=>v=.bool r)):=.mk λhr {i l g k}=>by refine Ν ?_;intro x h _ _ _ _ hr _;refine WC.mA hr [0,1] [] [] [] (λ(o:Int)=>⟨o,[(5,i' o)],tr,[]⟩) (λ(_:Unit)=>⟨(.inr ()),[],tr,[]⟩) 0
instance iy'{t n i r}:SpcM ((Kf t n i)) r (∀{q s p o I H C K J A O L B y D M F P},Cr 167 #[.agg ((ÿ t q s p o)).toArray,.agg ([i' n.kind,δ I n.p H,δ C n.o K]).toArray,.agg ((ka i J A O L B y D M F P)).toArray] (λG=>sq G q s t.eqs/\sq G p o t.ε/\sl c' G I H n.p/\sv G C K n.o/\sl c' G J A i.p/\sv G O L i.o/\sq G B y i.l/\sl (Rp.int .i64) G D M i.s/\sl (Rp.arr iH 8) G F P i.b) (λG v=>v=.bool r)):=.mk λhr {q s p o I H C K J A O L B y D M F P}=>by
 refine æ ?_;intro _ _ _ _ _ _ _ _ _ _ _ _ _ _ _ _ _ _ _ _ _ _ _ _ hr _;refine I' hr z (λS hr=>?_) (λS hr=>?_)
 .exact Η
 refine sr<|Γ (eI z z)<|Ο z<|I' hr z (λaw hr=>?_) (λaw hr=>?_)
 .refine o'<|fE [ff,ff,ff,ff,ff,ff,ff,ff,ff,ff,ff,ff,ff,ff,ff,ff,ff,ff] eJ İ λhb=>cn (λ_ c=>zF z)<|cn (λ_ c=>n' 5 eO z z z)<|BO hr z (λ_ c=>eI z z) (λE hr=>?_) (λE hr=>?_)
  .refine Ν ?_;intro _;refine Ê (M' z z) z ?_;exact Η
  refine Ν ?_;intro _ _ hr;refine oE hr λV T hr=>pJ (post:=eA V) (λ_=>(C' z z)) (λ_ _=>x' D1 z) (GW.h T) z (λG' c=>trivial) (λv a d c h=>?_) ?_
  .obtain⟨j,l,k,m,rfl,g,e⟩:=h;exact⟨_,_,_,_,z,g.mono c,e.mono c⟩
  refine oE hr λZ U hr=>mw (f:=133) (φ:=fX c' Z) (λ_=>(C' z z)) (λv a d c h=>?_) (λu G' c hu=>?_) ?_
  .obtain⟨ae,al,rfl,Q⟩:=h;exact⟨_,_,z,Q.mono c⟩
  .obtain⟨⟨j,l,k,m,X,g,e⟩,_⟩:=(show(eA V) G'.m (u 46)/\True from hu);exact⟨_,_,_,λ_=>x' Ii z,gC'.h U,(by simp only[X]<;>rfl),⟨g,e⟩⟩
  exact Η
 refine sr<|Γ (eI z z)<|Ο z<|I' hr z (λN hr=>?_) (λN hr=>?_)
 .exact Η
 refine sr<|Γ (eI z z)<|Ο z<|I' hr z (λau hr=>?_) (λau hr=>?_)
 .exact Η
 refine sr<|Γ (eI z z)<|Ο z<|I' hr z (λR hr=>?_) (λR hr=>?_)
 .exact Η
 refine sr<|Γ (eI z z)<|Ο z<|I' hr z (λx hr=>?_) (λx hr=>?_)
 .exact Η
 refine sr<|Γ (eI z z)<|Ο z<|I' hr z (λW hr=>?_) (λW hr=>?_)
 .exact Η
 refine sr<|Γ (eI z z)<|Ο z<|I' hr z (λaz hr=>?_) (λaz hr=>?_)
 .refine sr<|Γ (zF z)<|Γ (n' 5 eO z z z)<|eb hr z (eI z z) z (λY hr=>?_) (λY hr=>?_)
  .refine Ν ?_;intro hr;refine Ê (M' z z) z<|Ê (M' z z) z<|Ê (M' z z) z<|sf z z z<|Ι z<|Ο z<|m'<|g'<|a' (Ø hr z z)
  refine Ν ?_;intro _ hr;refine Ê (M' z z) z<|Ê (M' z z) z<|Ê (M' z z) z<|sf z z z<|Ι z<|Ο z<|m'<|g'<|a' (Ø hr z z)
 exact Η
instance iz'{c J r}:SpcM ((Kx c J)) r (∀{h g f e l n o m U X L M S Q W Y P R},Cr 93 #[.agg ((fD c h g f e l n o m)).toArray,.agg ((ka J U X L M S Q W Y P R)).toArray] (λG=>sq G h g c.k.eqs/\sq G f e c.k.ε/\sl c' G l n c.q.p/\sv G o m c.q.o/\sl c' G U X J.p/\sv G L M J.o/\sq G S Q J.l/\sl (Rp.int .i64) G W Y J.s/\sl (Rp.arr iH 8) G P R J.b) (DQ r)):=.mk λhr {h g f e l n o m U X L M S Q W Y P R}=>by
 refine J' (args:=[_,_]) (N:=46) func93 z z z (λw0 G0 an a=>?_);obtain⟨E,B,H,F,O,Z,T,K,V⟩:=a;refine sr<|jT 2 z z z λb1=>jT 3 z z z λb2=>W' 4 z zX z λb3=>nr<|Γ (BI z)<|Γ (R' ([i' c.q.kind,δ l c.q.p n,δ o c.q.o m]).toArray 2 rz z z z (lJ ([i' c.id,i' c.k.n,δ h c.k.eqs g,δ f c.k.ε e]) ([i' c.q.kind,δ l c.q.p n,δ o c.q.o m]) ([i' c.ο,i' c.low,i' c.high,.bool c.done])))<|Γ (y' 3 nN z z z)<|oE hr λA ae hr=>H' z z (x' Iu z) (iK'.h ae) z (⟨H,F,O,Z,T,K,V⟩)<|ν z<|lS z<|lS z<|Ý z<|Ο z<|WC.nB hr [2,4,5,6] [4] (λ(⟨d,q,p,k,j,v,u,t,x⟩:Zd×ŀ Addr×Nat×ŀ Addr×Nat×ŀ Addr×Nat×ŀ Addr×Nat)=>⟨[],Ew A d,λI=>sq I q p d.k.eqs/\sq I k j d.k.ε/\sl c' I v u d.q.p/\sv I t x d.q.o,[(2,ö b1 (fD d q p k j v u t x) 56)]⟩) ?_
 rintro I ⟨d,q,p,k,j,v,u,t,x⟩ hr al ⟨y,s,D,C⟩;refine sr<|Γ (BT z)<|Γ (n' 2 eO z z z)<|ν z<|Γ (Wo z z)<|Γ (BT z)<|ry 2 ([i' d.id,i' d.k.n,δ q d.k.eqs p,δ k d.k.ε j,i' d.q.kind,δ v d.q.p u,δ t d.q.o x,i' d.ο,i' (if d.low<A.1 then A.1 else d.low),i' d.high,.bool d.done]).toArray z jZ z z z (show 8<11 by decide) z z<|nx<|o'<|sr<|ν z<|eb hr z (vR z z) z (λai hr=>?_) (λai hr=>?_)
 .exact Η
 refine ν z<|nR z<|Ê (M' z z) z<|Ê (M' z z) z<|Ê (M' z z) z<|Ê (M' z z) z<|sk z z z<|ς z<|nx<|tN z<|q'<|b'<|sr<|Γ (y' 2 tQ z z z)<|fZ 4 sd z<|nx<|m' ?_
 obtain rfl:_=r:=hr;exact j' z (kH (i:=4) tQ z z z) ⟨_,_,_,_,_,_,_,_,z,y,s,D,C⟩
instance iU'{Q ak aa L r}:SpcM ((K3 Q ak aa L)) r (∀{M P V W},Cr 44 #[.agg ((fx Q M P)).toArray,i' ak,δ V aa W,i' L] (λG=>sl fS G M P Q.t/\sl qP G V W aa) (fk r)):=.mk λhr {M P V W}=>by
 refine æ ?_;intro w0 G0 ax bQ _ _ b1 b2 o bS Y h g d f s q u t aD aA _ _ b3 hr _;refine o'<|sr<|ν z<|Γ (kO z)<|nx<|ke hr z (λcG hr=>?_) (λcG hr=>?_)
 .exact Η
 refine q'<|b'<|WC.nB hr [1,2,3,4,8,10] [4,10] (λ(⟨a,aR,aS⟩:Zb×ŀ Addr×Nat)=>⟨[],Qv Q ak aa L o a,λaY=>sl fS aY aR aS a.t,[(8,ö b2 (fx a aR aS) 26)]⟩) ?_
 rintro aY ⟨a,aR,aS⟩ hr F bK;refine o'<|sr<|Ο z<|WC.mB (hH:=by exact bK) hr [1,2,3,4,8,10] [4,10] [1,2,3,4,8,10] [4,10] (λ(⟨aN,a2,aI,aF⟩:Int×Zb×ŀ Addr×Nat)=>⟨(aN,a2),[(12,i' aN)],λa1=>sl fS a1 aI aF a2.t,[(8,ö b2 (fx a2 aI aF) 26)]⟩) (λ(⟨aH,ah,af⟩:Zb×ŀ Addr×Nat)=>⟨(.inr aH),[],λaW=>sl fS aW ah af aH.t,[(8,ö b2 (fx aH ah af) 26)]⟩) ⟨0,a,aR,aS⟩ ?_
 rintro aW ⟨aH,ah,af⟩ hr ad cH;refine Ν ?_;intro b4 hr;refine WC.mC (hH:=by exact⟨(X' _ _),k8⟩) hr [1,2,3,4,8,10,13] [4,8,10] [8,13] [8] (λ(⟨X,R,ac,ab,Z,x⟩:Int×(Ŀ Zd)×ŀ Addr×Nat×ŀ Ow×Int)=>⟨(X,R,x),[(14,i' X)],λaL=>sl fS aL ac ab R/\Tok 11 56 (δ ac R ab) R.length Z,[(13,ö b4 ([δ ac R ab,i' x]) 26),(310130,Z)]⟩) (λ(⟨i,aP,aO,aT,aJ⟩:(Ŀ Zd)×ŀ Addr×Nat×ŀ Ow×Int)=>⟨(i,aJ),[],λbl=>sl fS bl aP aO i/\Tok 11 56 (δ aP i aO) i.length aT,[(13,ö b4 ([δ aP i aO,i' aJ]) 26),(310130,aT)]⟩) ⟨0,[],none,0,none,Q.next⟩ ?_;rintro _ aL ⟨X,R,ac,ab,Z,x⟩ U ⟨bm,a6⟩ hr;refine Ν ?_;intro _ x1 _ _ bq _ bv _ bg _ bd _ bH _ bI _ bN _ bL _ _ _ _ bt _ bi bF b5 hr bM;refine WC.mD (hH:=by exact⟨bt,bi,bF,bM⟩) hr [1,2,3,4,8,10,13,14,15] [4,8,10,13,310130] [1,2,3,4,8,10,13,14,15] [4,8,10,13,310130] (λ(⟨aQ,O,I,H,E,C,am,ap,an,aq⟩:Int×Zd×ŀ Addr×Nat×ŀ Addr×Nat×ŀ Addr×Nat×ŀ Addr×Nat)=>⟨(aQ,O),[(16,i' aQ)],λe=>sq e I H O.k.eqs/\sq e E C O.k.ε/\sl c' e am ap O.q.p/\sv e an aq O.q.o,[(15,ö b5 (fD O I H E C am ap an aq) 56)]⟩) (λ(⟨p,S,T,J,K,au,al,ar,ao⟩:Zd×ŀ Addr×Nat×ŀ Addr×Nat×ŀ Addr×Nat×ŀ Addr×Nat)=>⟨p,[],λaz=>sq az S T p.k.eqs/\sq az J K p.k.ε/\sl c' az au al p.q.p/\sv az ar ao p.q.o,[(15,ö b5 (fD p S T J K au al ar ao) 56)]⟩) ⟨0,x1,bq,bv,bg,bd,bH,bI,bN,bL⟩ ?_ ?_
 .rintro _ e ⟨aQ,O,I,H,E,C,am,ap,an,aq⟩ ai ⟨av,aj,aX,aU⟩ hr;refine Ν ?_;intro _ hr;obtain⟨c8,ca,hr⟩:=hr;have N1:=mx (mx (mx F ad) U) ai;refine H' (C' z z) z (x' DZ z) (Ev _ _ _ _ _ _ _ _ _ _ _ ca) z (⟨av,aj,(aD.mono N1),(aA.mono N1)⟩)<|Ι z<|nx<|ke hr z (λct hr=>?_) (λct hr=>?_)
  .refine q'<|b'<|o'<|Y'<|fE [ff,ff,ff,ff,ff] eJ İ λhb=>cn (λ_ ag=>y' 15 tQ z z z)<|fR z<|fR z<|oE hr λx2 bP hr=>cn (λ_ ag=>kf vQ oi ((ax.mono (mx (mx (mx (mx Y F) ad) U) ai)).mono ag) z z bP) ?_
   obtain⟨cQ,cN,cP,c0,cK,cJ,c3,cZ,cT,c2,cm,b6,b7,cg,bY,b8⟩:=Nd (T' (iI ax bP) (mx (mx (mx (mx Y F) ad) U) ai));refine cn (λ_ ag=>mW _ nN z z (λj v hv=>ag _ _ _ (cm j v hv)))<|oM hb<|oE hr λcv ci hr=>gW z z (x' Yy z) (iz'.h ci) z (⟨av,aj,aX,aU,b6,b7,cg,bY,b8⟩) (λcL cD bG bu=>?_)
   obtain⟨bh,bj,a7,a5,bB,bC,bz,bE,rfl,bf,a3,bD,bx⟩:=bu;refine fZ 15 sd z<|t'<|Θ<|E'<|b'<|w'<|ν z<|iV z<|Ý z<|t'<|N' ⟨cD,i64.wrap (aQ+1),cv,bh,bj,a7,a5,bB,bC,bz,bE⟩ hr ⟨(mx ai bG),bf,a3,bD,bx⟩ (f10 z z z z z z z z z z) (w6 z z z z z z)
  exact Η
 rintro az ⟨p,S,T,J,K,au,al,ar,ao⟩ hr bn ⟨aV,aM,a8,a4⟩;refine b'<|WC.nD hr [1,2,3,4,8,10,13,14,15] [4,8,10,13,310130] (λ(⟨c,m,n,l,k,B,A,D,y⟩:Zd×ŀ Addr×Nat×ŀ Addr×Nat×ŀ Addr×Nat×ŀ Addr×Nat)=>⟨[],EK X R x c,λN=>sq N m n c.k.eqs/\sq N l k c.k.ε/\sl c' N B A c.q.p/\sv N D y c.q.o,[(15,ö b5 (fD c m n l k B A D y) 56)]⟩) ?_ ?_
 .refine sr<|Γ (GU z)<|Γ (n' 15 eO z z z)<|ν z<|Γ (eI z z)<|nx<|I' hr z (λcB hr=>?_) (λcB hr=>?_)
  .exact Η
  exact Η
 rintro N ⟨c,m,n,l,k,B,A,D,y⟩ hr bp ⟨be,bc,bA,bw⟩;refine Ν ?_;intro _ _ bo cx hr;refine oA hr λb0 hr=>jU (r:=fS) 310130 z z sc qV z ĳ z z (bm.mono (mx (mx bn bp) bo)) z (by rw[bQ];rfl) a6 cx b0 λp2 bT ck cy bO cA cb=>Γ (Bz z)<|ry 13 ([.slice p2 (R++[c]).length bT,i' x]).toArray z Dv z z z (show 0<2 by decide) z z<|t'<|E'<|b'<|w'<|ν z<|iV z<|Ý z<|t'<|N' ⟨cy,i64.wrap (X+1),(R++[c]),p2,bT,ck,x⟩ hr ⟨(mx (mx (mx (mx U bn) bp) bo) bO),cA,cb⟩ (Å z) (w5 z z z z z)
instance hQ'{b1 a r}:SpcM ((FV b1 a)) r (∀{ap ai U V H J T X ao ak},Cr 13 #[.agg ((fx b1 ap ai)).toArray,.agg ((pz a U V H J T X ao ak)).toArray] (λG=>sl fS G ap ai b1.t/\sl tS G U V a.c.l/\sl (Rp.int .u8) G H J a.c.iu/\sl (gb .i8 5) G T X a.p.t/\sl xZ G ao ak a.l) (È r)):=.mk λhr {ap ai U V H J T X ao ak}=>by
 refine æ ?_;intro w0 G0 _ _ _ K _ L _ s Q _ _ _ hr S;refine o' ?_;refine æ ?_;intro hr;refine I' hr z (λaU hr=>?_) (λaU hr=>?_)
 .refine sr<|Γ (y' 3 xP z z z)<|oE hr λa7 aE hr=>gW z z (x' OT z) (Wt.h aE) z (⟨L,s,Q,S⟩) (λa4 a6 o Z=>?_)
  obtain⟨aM,aN,aA,aJ,rfl,I,D⟩:=Z;refine W' 7 z rN z λb5=>fZ 7 tP z<|nx<|o'<|fE [ff,ff,ff,ff,ff,ff,ff] eJ İ λN=>cn (λ_ d=>y' 2 mf z z z) ?_
  refine æ ?_;intro p hr _;refine oE hr λE aK hr=>mw (f:=43) (φ:=qG E) (λ_=>z) (λv G1 G2 d h=>?_) (λu B d O=>?_) ?_
  .obtain⟨m,l,rfl,C⟩:=h;exact⟨_,_,z,C.mono d⟩
  .obtain⟨⟨e,j,k,g,av,A,y⟩,_⟩:=(show(λG v=>∃e j k g,v=.agg ([i' p.kind,δ e p.p j,δ k p.o g]).toArray/\sl c' G e j p.p/\sv G k g p.o) B.m (u 21)/\True from O);exact⟨_,_,_,λ_=>x' OV z,QI 5 _ _ _ _ _ _ _ _ _ _ _ _ _ _ aK,(by simp only[av]<;>rfl),⟨((K.mono o).mono d),(I.mono d),(D.mono d),A,y⟩⟩
  refine kI (λ_=>z) yG<|Cc (λa8 aY a3 X1 aH an ad ae=>?_)
  obtain⟨b6,rfl,aC⟩:=an;obtain⟨m,l,rfl,C⟩:=ad;obtain⟨e,j,k,g,rfl,A,y⟩:=ae;refine oS aC (mg (show WL _ _ _ _ _ _ (St w0 G0 X1.m _)from ?_));refine fZ 8 tf z<|t'<|Θ<|b'<|o' ?_
  refine æ ?_;intro hr;refine I' hr z (λaP hr=>?_) (λaP hr=>?_)
  .refine o'<|zR [(8,ö b6 (oj E m l) 100)] (lc z ln) [ff,tt,tt] eJ İ λN=>cn (λ_ d=>y' 2 mf z z z)<|nj z (Y0.Vh z)<|nj z (n' 8 Df z z z)<|x0 N<|np (λw q=>q.weaken (lc z ln))<|fZ 4 oO z<|nl<|fo.y0 (λw q=>q.weaken (lc z ln)) z (rC z) z<|fo.y0 (λw q=>q.weaken (lc z ln)) z (rC z) z<|uI (λw q=>q.weaken (lc z ln))<|Θ<|b'<|m'<|a'<|a' ?_
   obtain rfl:_=r:=hr;exact MX z (kH (i:=4) mf z z z) z z ⟨_,_,z,(K.mono (mx o aH))⟩
  refine q'<|b'<|o'<|zR [(8,ö b6 (oj E m l) 100)] (lc z ln) [ff,ff,tt,tt] eJ İ λN=>?_
  refine æ ?_;intro hr;refine nj z (n' 8 eO z z z)<|x0 N<|np (λw q=>q.weaken (lc z ln))<|fZ 4 oO z<|nl<|fo.y0 (λw q=>q.weaken (lc z ln)) z (rC z) z<|fo.y0 (λw q=>q.weaken (lc z ln)) z (rC z) z<|uI (λw q=>q.weaken (lc z ln))<|Θ<|b'<|m'<|a' ?_
  obtain rfl:_=r:=hr;exact MX z (kH (i:=4) mf z z z) z z ⟨_,_,z,C⟩
 refine q'<|b'<|o'<|fE [ff,ff,ff,ff,ff,ff,ff,ff,ff,ff,tt,ff] eJ İ λN=>?_
 refine æ ?_;intro ay hr _;refine oE hr λF aI hr=>mw (f:=44) (φ:=fk F) (λ_=>z) (λv G1 G2 d h=>?_) (λu B d O=>?_) ?_
 .obtain⟨x,t,rfl,n⟩:=h;exact⟨_,_,z,n.mono d⟩
 .obtain⟨⟨am,al,au,M⟩,_⟩:=(show(fX qP ay) B.m (u 38)/\True from O);exact⟨_,_,_,λ_=>x' Yg z,iU'.h aI,(by simp only[au]<;>rfl),⟨(K.mono d),M⟩⟩
 refine jN (φ:=fk F) (λ_=>z) (λv G1 G2 d h=>?_) (λu B d O=>?_) ?_
 .obtain⟨p1,W,rfl,R⟩:=h;exact⟨_,_,z,R.mono d⟩
 .obtain⟨⟨x,t,aw,n⟩,_,_⟩:=(show(fk F) B.m (u 41)/\True/\True from O);simp only[υ,aw];exact⟨_,k' z,x,t,z,n⟩
 refine jN (φ:=jt F.1) (λ_=>z) (λv G1 G2 d h=>?_) (λu B d O=>?_) ?_
 .obtain⟨p2,aR,rfl,aj⟩:=h;exact⟨_,_,z,aj.mono d⟩
 .obtain⟨⟨p1,W,P,R⟩,_,_,_⟩:=(show(fk F) B.m (u 33)/\True/\True/\True from O);simp only[υ,P];exact⟨_,O' z z,p1,W,z,R⟩
 refine mz (c:=i' F.2) (λ_=>z) (λu B d O=>?_) ?_
 .obtain⟨_,⟨p1,W,P,R⟩,_,_,_⟩:=(show True/\(fk F) B.m (u 33)/\True/\True/\True from O);simp only[υ,P];exact O' z z
 refine kI (λ_=>z) z26<|yb (λa9 a1 aW aX a2 X2 aG aq af Y ab aa=>?_)
 obtain⟨b7,rfl,aB⟩:=aq;obtain⟨p2,aR,rfl,aj⟩:=af;obtain⟨p1,W,rfl,R⟩:=Y;obtain⟨x,t,rfl,n⟩:=ab;obtain⟨am,al,rfl,M⟩:=aa;refine oS aB (mg (show WL _ _ _ _ _ _ (St w0 G0 X2.m _)from ?_));exact Η
instance qf{c r}:SpcM ((SG c)) r (∀{h i f d s t u q},Cr 61 #[.agg ((fD c h i f d s t u q)).toArray] (λG=>sq G h i c.k.eqs/\sq G f d c.k.ε/\sl c' G s t c.q.p/\sv G u q c.q.o) (fX tL r)):=.mk λhr {h i f d s t u q}=>by
 refine Ν ?_;intro w0 G0 _ Y _ S _ L _ _ b1 p1 _ E X aF W I au ak M hr _;refine WC.mC (hH:=by exact⟨(X.mono I),k8⟩) hr [1,4] [1] [] [] (λ(⟨o,y,x,A,a⟩:(Ŀ Ze)×ŀ Addr×Nat×ŀ Ow×Int)=>⟨(o,a),[(3,δ y o x),(5,i' a)],λK=>sl tL K y x o/\Tok 3 54 (δ y o x) o.length A,[(1003,A)]⟩) (λ(⟨B,D,C,F⟩:(Ŀ Ze)×ŀ Addr×Nat×ŀ Ow)=>⟨B,[(3,δ D B C)],λR=>sl tL R D C B/\Tok 3 54 (δ D B C) B.length F,[(1003,F)]⟩) ⟨[],p1,0,none,0⟩ ?_;rintro _ K ⟨o,y,x,A,a⟩ k ⟨O,J⟩ hr;refine o' ?_;refine æ ?_;intro hr;refine I' hr z (λaJ hr=>?_) (λaJ hr=>?_)
 .refine q'<|b'<|o'<|Y'<|fE [tt,ff,ff,ff,ff,ff,ff] eJ İ λhb=>uA z (k' z)<|cn (λ_ H=>vP z)<|cn (λ_ H=>R' ((ÿ c.k h i f d)).toArray 1 mq z z z (lJ ([i' c.id]) ((ÿ c.k h i f d)) ([i' c.q.kind,δ s c.q.p t,δ u c.q.o q,i' c.ο,i' c.low,i' c.high,.bool c.done])))<|fR z<|fR z<|oE hr λx1 N hr=>cn (λ_ H=>kf MQ og ((M.mono k).mono H) z z N) ?_
  obtain⟨aO,aR,aP,aT,ay,ax,ao⟩:=dq' (T' (iI M N) k);refine cn (λ_ H=>mW _ rz z z (λj v hv=>H _ _ _ (ay j v hv)))<|oM hb<|oE hr λg ar hr=>gW z z (x' Ye z) (fL'.h ar) z (⟨(S.mono (mx (mx E I) k)),(L.mono (mx (mx E I) k)),ax,ao⟩) (λaN aW Q U=>?_)
  obtain⟨ap,al,ag,af,p,m,l,n,rfl,av,ah,V,Z⟩:=U;refine Γ (Y0.yc underlying94 z rz z z)<|ng (e:=54) (r:=tL) (vs:=#[(0,.agg ([i' g.q.kind,δ p g.q.p m,δ l g.q.o n]).toArray)]) (cs:=[i' g.q.kind,δ p g.q.p m,δ l g.q.o n]++([])) ([g.q]:Ŀ Ze) z z z z z ĳ (λ_=>İ) ⟨[i' g.q.kind,δ p g.q.p m,δ l g.q.o n],[],z,⟨[i' g.q.kind],[δ p g.q.p m,δ l g.q.o n],z,z,⟨[δ p g.q.p m],[δ l g.q.o n],z,⟨_,z,V⟩,⟨_,z,Z⟩⟩⟩,z⟩ (key:=999) z (by rw[Y];rfl) (λp2 aV P aE=>?_)
  refine oA hr λam hr=>jU (r:=tL) 1003 z z MQ M6 z ĳ z z (O.mono (mx Q P)) z (by rw[Y];rfl) J aE am λp3 T aj aH ab aD an=>Ý z<|t'<|Θ<|E'<|b'<|w'<|ν z<|iV z<|Ý z<|t'<|N' ⟨aH,(o++[g.q]),p3,T,aj,i64.wrap (a+1)⟩ hr ⟨(mx (mx (mx k Q) P) ab),aD,an⟩ (Å z) (w2 z z)
 exact Η
instance gf'{i r}:SpcM ((LI i)) r (∀{Q S},Cr 22 #[δ Q i S] (λG=>sl M1 G Q S i) (jt r)):=.mk λhr {Q S}=>by
 refine Ν ?_;intro w0 G0 O _ W av R B V X U j hr _;refine WC.mC hr [0,2,3] [2] [2,3] [2] (λ(⟨a,s,n,l⟩:Int×Zb×ŀ Addr×Nat)=>⟨(a,s),[(4,i' a)],λt=>sl fS t n l s.t,[(3,ö j (fx s n l) 26)]⟩) (λ(⟨F,y,A⟩:Zb×ŀ Addr×Nat)=>⟨F,[],λH=>sl fS H y A F.t,[(3,ö j (fx F y A) 26)]⟩) ⟨0,av,V,X⟩ ?_;rintro _ t ⟨a,s,n,l⟩ k x hr;refine o'<|sr<|ν z<|ν z<|Γ (P' em' (O.mono (mx B k)) z)<|eb hr z (Z' z z) z (λaz hr=>?_) (λaz hr=>?_)
 .refine æ ?_;intro hr;refine I' hr z (λN hr=>?_) (λN hr=>?_)
  .refine q'<|b'<|o'<|Y'<|fE [ff,ff,ff,ff,ff,ff,ff,ff,tt,tt] eJ İ λhb=>cn (λ_ e=>y' 3 mf z z z)<|fR z<|fR z ?_
   refine æ ?_;intro _ _ _ _ _ _ _ _ _ _ _ _ _ _ _ _ _ _ _ _ _ _ _ _ _ _ _ f hr _;refine jN (φ:=È f) (λ_=>z) (λv I K e h=>?_) (λu C e E=>?_) ?_
   .obtain⟨T,D,rfl,q⟩:=h;exact⟨_,_,z,q.mono e⟩
   .obtain⟨⟨p,o,Y,g⟩,_⟩:=(show(È f) C.m (u 22)/\True from E);simp only[υ,Y];exact⟨_,k' z,p,o,z,g⟩
   refine jN (φ:=jt f.1) (λ_=>z) (λv I K e h=>?_) (λu C e E=>?_) ?_
   .obtain⟨p2,ah,rfl,P⟩:=h;exact⟨_,_,z,P.mono e⟩
   .obtain⟨⟨T,D,m,q⟩,_,_⟩:=(show(È f) C.m (u 16)/\True/\True from E);simp only[υ,m];exact⟨_,O' z z,T,D,z,q⟩
   refine mz (c:=i' f.2.1) (λ_=>z) (λu C e E=>?_) ?_
   .obtain⟨_,⟨T,D,m,q⟩,_,_⟩:=(show True/\(È f) C.m (u 16)/\True/\True from E);simp only[υ,m];exact O' z z
   refine mz (c:=i' f.2.2) (λ_=>z) (λu C e E=>?_) ?_
   .obtain⟨_,⟨T,D,m,q⟩,_,_⟩:=(show True/\(È f) C.m (u 16)/\True/\True from E);simp only[υ,m];exact O' z z
   refine vX (d:=23) (post:=jt f.1) (d':=16) (post':=È f) (d'':=22) (post'':=È f) (λaI aG aK ar Z J L M=>?_);obtain⟨p2,ah,rfl,P⟩:=J;obtain⟨T,D,rfl,q⟩:=L;obtain⟨p,o,rfl,g⟩:=M;exact fZ 3 oO z<|Η
  exact Η
 exact Η
end Go.Proofs.YtepbagkffgddlaaGreat

namespace Go.Proofs.YtepbagkffgddlaaGreat
open Go.IntKind (i8 i16 i32 i64 u8 u16 u32 u64)
open Go.Proofs.Tryz
open Go Go.EL Go.RowKit Go.Proofs
set_option maxHeartbeats 4000000
set_option maxRecDepth 20000
theorem Pf(bm:(Ŀ Zq))(C:Zq)(bs:ŀ Addr)(bx:Nat)(I:ŀ Addr)(F:Nat)(n:ŀ Addr)(o:Nat)(H:ŀ Addr)(E:Nat)(V:ŀ Addr)(T:Nat)(r:Bool)(hr:(JA bm C).Α r):Cr 7 #[δ bs bm bx,.agg ((pz C I F n o H E V T)).toArray] (λG=>sl M1 G bs bx bm/\sl tS G I F C.c.l/\sl (Rp.int .u8) G n o C.c.iu/\sl (gb .i8 5) G H E C.p.t/\sl xZ G V T C.l) (λG v=>v=.bool r):=by
 refine æ ?_;intro w0 G0 _ _ _ _ _ _ _ _ _ _ b1 ap hr _;refine o'<|sr<|ν z<|Γ (kO z)<|nx<|ke hr z (λcX hr=>?_) (λcX hr=>?_)
 .exact Η
 refine q'<|b'<|o'<|fE [ff,ff,ff,ff,ff] eJ İ λN=>?_
 refine æ ?_;intro X _ ah hr _;refine kI (λ_=>z) z26<|Cc (λdO ds dz X1 dD bW bJ bL=>?_)
 obtain⟨b2,rfl,cz⟩:=bW;obtain⟨ai,aj,rfl,D⟩:=bJ;obtain⟨Q,O,rfl,ag⟩:=bL;refine oS cz (mg (show WL _ _ _ _ _ _ (St w0 G0 X1.m _)from ?_));refine fZ 6 oO z<|Ý z ?_
 refine æ ?_;intro ax _ g y x U b3 hr _;refine o'<|sr<|ν z<|Γ (pO z z)<|nx<|I' hr z (λc1 hr=>?_) (λc1 hr=>?_)
 .exact Η
 refine q'<|b'<|o'<|zR [(6,ö b2 (fx X Q O) 26)] (lc z ln) [ff,tt,ff,ff] eJ İ λN=>cn (λ_ e=>y' 6 mf z z z)<|nj z (y' 6 mf z z z)<|kI (λ_=>z) z26<|kI (λ_=>z) z26<|γ.yD λdP dM X2 f bY aL=>fo.kL bY (λb5 de cQ=>?_)
 subst de;replace aL:=Ca aL ĳ cQ;refine fo.kL aL (λb4 cS dL=>?_);subst cS;refine fo.zW (show fo _ _ _ _ _ _ _ (St w0 G0 X2.m _)from ?_);refine np (λw hs=>(hs.eC N f).weaken (lc z ln))<|fZ 10 oO z<|nl<|np (λw hs=>(hs.eC N f).weaken (lc z ln))<|fZ 11 oO z<|nl<|uI (λw hs=>(hs.eC N f).weaken (lc z ln))<|Θ<|b'<|o'<|sr<|Ο z<|WC.mD hr [3,5,6,7,8,10,11] [3,6,8] [3,5,6,7,8,10,11] [3,6,8] (λ(⟨P,a9,az,aB,a7,aA,aF⟩:Int×Zb×ŀ Addr×Nat×Zb×ŀ Addr×Nat)=>⟨(P,a9,a7),[(12,i' P)],λaT=>sl fS aT az aB a9.t/\sl fS aT aA aF a7.t,[(10,ö b4 (fx a9 az aB) 26),(11,ö b5 (fx a7 aA aF) 26)]⟩) (λ(⟨a6,aH,aI,bu,aZ,aY⟩:Zb×ŀ Addr×Nat×Zb×ŀ Addr×Nat)=>⟨(.inr (a6,bu)),[],λbb=>sl fS bb aH aI a6.t/\sl fS bb aZ aY bu.t,[(10,ö b4 (fx a6 aH aI) 26),(11,ö b5 (fx bu aZ aY) 26)]⟩) ⟨0,X,Q,O,X,Q,O⟩ ?_ ?_
 .rintro _ aT ⟨P,a9,az,aB,a7,aA,aF⟩ Y ⟨bp,br⟩ hr;refine o' ?_;refine æ ?_;intro hr;refine I' hr z (λc3 hr=>?_) (λc3 hr=>?_)
  .refine q'<|b'<|o'<|Y'<|sr<|Ý z<|Ο z<|o'<|fE [ff,ff,ff,ff,ff,ff,ff,ff,ff,ff,ff,ff,ff,tt] eJ İ λN=>cn (λ_ e=>y' 10 mf z z z)<|cn (λ_ e=>ew' z)<|cn (λ_ e=>n' 3 eO z z z) ?_
   refine æ ?_;intro hr;obtain⟨c8,hr⟩:=hr;obtain⟨p1,dQ,c4,c7⟩:=Ε.cut (r:=qP) (some (i' P)) (some (i' (i64.wrap (P+1)))) oi z vQ (D.mono (mx (mx g f) Y)) (.inr ⟨_,z⟩) (.inr ⟨_,z⟩) c8;refine cn (λ_ e=>Y0.vW vQ c7 z z z)<|cn (λ_ e=>fU' z)<|cn (λ_ e=>n' 3 eO z z z) ?_
   refine æ ?_;intro K hr _;refine jN (φ:=fk K) (λ_=>z) (λv G1 G2 e h=>?_) (λu G' e a=>?_) ?_
   .obtain⟨p2,bt,rfl,a5⟩:=h;exact⟨_,_,z,a5.mono e⟩
   .obtain⟨⟨av,aq,bM,ab⟩,_⟩:=(show(fk K) G'.m (u 60)/\True from a);simp only[υ,bM];exact⟨_,k' z,av,aq,z,ab⟩
   refine jN (φ:=jt K.1) (λ_=>z) (λv G1 G2 e h=>?_) (λu G' e a=>?_) ?_
   .obtain⟨p3,co,rfl,bU⟩:=h;exact⟨_,_,z,bU.mono e⟩
   .obtain⟨⟨p2,bt,aJ,a5⟩,_,_⟩:=(show(fk K) G'.m (u 49)/\True/\True from a);simp only[υ,aJ];exact⟨_,O' z z,p2,bt,z,a5⟩
   refine mz (c:=i' K.2) (λ_=>z) (λu G' e a=>?_) ?_
   .obtain⟨_,⟨p2,bt,aJ,a5⟩,_,_⟩:=(show True/\(fk K) G'.m (u 49)/\True/\True from a);simp only[υ,aJ];exact O' z z
   refine vX (d:=61) (post:=jt K.1) (d':=49) (post':=fk K) (d'':=60) (post'':=fk K) (λdh dj dg dN ay bk bi be=>?_);obtain⟨p3,co,rfl,bU⟩:=bk;obtain⟨p2,bt,rfl,a5⟩:=bi;obtain⟨av,aq,rfl,ab⟩:=be;have N1:=mx (mx (mx g f) Y) ay;refine fZ 10 oO z<|Ý z<|t'<|Θ<|b'<|o'<|fE [ff,ff,ff,ff,ff,ff,ff,ff,ff,ff,ff,ff,ff,ff,ff,ff,ff,tt] eJ İ λN=>?_
   refine æ ?_;intro hr;obtain⟨cU,hr⟩:=hr;obtain⟨p4,dK,cW,c9⟩:=Ε.cut (r:=qP) (some (i' (i64.wrap ((i64.wrap ((ah.length:Int)-1))-P)))) (some (i' (i64.wrap ((ah.length:Int)-P)))) oi z vQ (D.mono N1) (.inr ⟨_,z⟩) (.inr ⟨_,z⟩) cU;refine cn (λ_ e=>Y0.vW vQ c9 z z z)<|oE hr λM ck hr=>pJ (post:=fk M) (λ_=>z) (λ_ _=>x' D0 z) (G4.h ck) z (λG' e=>⟨((br.mono ay).mono e),(cW.mono e)⟩) (λv G1 G2 e h=>?_) ?_
   .obtain⟨au,ar,rfl,af⟩:=h;exact⟨_,_,z,af.mono e⟩
   refine jN (φ:=fk M) (λ_=>z) (λv G1 G2 e h=>?_) (λu G' e a=>?_) ?_
   .obtain⟨p5,bq,rfl,a8⟩:=h;exact⟨_,_,z,a8.mono e⟩
   .obtain⟨⟨au,ar,bO,af⟩,_⟩:=(show(fk M) G'.m (u 78)/\True from a);simp only[υ,bO];exact⟨_,k' z,au,ar,z,af⟩
   refine jN (φ:=jt M.1) (λ_=>z) (λv G1 G2 e h=>?_) (λu G' e a=>?_) ?_
   .obtain⟨p6,cm,rfl,bN⟩:=h;exact⟨_,_,z,bN.mono e⟩
   .obtain⟨⟨p5,bq,aO,a8⟩,_,_⟩:=(show(fk M) G'.m (u 63)/\True/\True from a);simp only[υ,aO];exact⟨_,O' z z,p5,bq,z,a8⟩
   refine mz (c:=i' M.2) (λ_=>z) (λu G' e a=>?_) ?_
   .obtain⟨_,⟨p5,bq,aO,a8⟩,_,_⟩:=(show True/\(fk M) G'.m (u 63)/\True/\True from a);simp only[υ,aO];exact O' z z
   refine vX (d:=79) (post:=jt M.1) (d':=63) (post':=fk M) (d'':=78) (post'':=fk M) (λdl dk di cw a3 bc bg bl=>?_);obtain⟨p6,cm,rfl,bN⟩:=bc;obtain⟨p5,bq,rfl,a8⟩:=bg;obtain⟨au,ar,rfl,af⟩:=bl;exact fZ 11 oO z<|Η
  exact Η
 rintro bb ⟨a6,aH,aI,bu,aZ,aY⟩ hr p ⟨cf,b9⟩;refine b' ?_;refine æ ?_;intro bX cp m bI bH _ hr _;refine WC.nB hr [3,5,6,7,8,10,11,15] [3,6,8,11] (λ(⟨bv,aW,a1⟩:Zb×ŀ Addr×Nat)=>⟨[],D3 C ap X ah ax bX bv,λaV=>sl fS aV aW a1 bv.t,[(10,ö b4 (fx bv aW a1) 26)]⟩) ?_;rintro aV ⟨bv,aW,a1⟩ hr A cd;refine WC.nB hr [3,5,6,7,8] [3,6,8] (λ(_:Unit)=>⟨[],Ji C ap X ah ax,tr,[]⟩) ?_;intro bR _ hr aa _;refine Ν ?_;intro S bP ak q s k l ad ac Z ae a0 aR _ _ b6 hr _;refine WC.mC hr [5,7,8,16] [8,16] [5] [] (λ(al:Int)=>⟨al,[(18,i' al)],tr,[]⟩) (λ(_:Unit)=>⟨(.inr ()),[],tr,[]⟩) 0 ?_;intro _ aK al B _ hr;have N2:=mx (mx (mx (mx (mx (mx f p) m) A) aa) ak) B;refine o'<|sr<|ν z<|Γ (Bz z)<|Γ (n' 8 GV z z z)<|Γ (P' sc (U.mono N2) z)<|kr z<|nx<|I' hr z (λc6 hr=>?_) (λc6 hr=>?_)
 .refine q'<|b'<|o'<|Y'<|sr<|Ο z<|WC.mC hr [5,7,8,16,18] [8,16] [5,7,8,16,18] [8,16] (λ(am:Int)=>⟨am,[(19,i' am)],tr,[]⟩) (λ(_:Unit)=>⟨(.inr ()),[],tr,[]⟩) 0 ?_
  intro _ aN am t _ hr;have N3:=mx (mx (mx (mx (mx (mx (mx (mx g f) p) m) A) aa) ak) B) t;refine o'<|sr<|ν z ?_
  refine æ ?_;intro hr;refine I' hr z (λc0 hr=>?_) (λc0 hr=>?_)
  .refine q'<|b'<|o'<|Y'<|sr<|Γ (Bz z)<|Γ (n' 8 GV z z z)<|ν z<|oE hr λi cq hr=>Γ (kf sc sd (U.mono (mx N2 t)) z z cq) ?_
   obtain⟨R,W,L,J,aC,aD,aG,aE,cV,aU,aP,bZ,ci⟩:=GR (T' (iI U cq) (mx N2 t));refine Γ (mW _ tQ z z cV)<|W' 20 z zX z λb7=>fZ 20 sd z<|nx<|o'<|fE [ff,ff,ff,ff,ff,ff,ff,ff,ff,ff,ff,ff,ff,ff] eJ İ λN=>cn (λ_ e=>vP z)<|cn (λ_ e=>R' ((ÿ i.k R W L J)).toArray 20 mq z z z (lJ ([i' i.id]) ((ÿ i.k R W L J)) ([i' i.q.kind,δ aC i.q.p aD,δ aG i.q.o aE,i' i.ο,i' i.low,i' i.high,.bool i.done])))<|cn (λ_ e=>vP z) ?_
   refine æ ?_;intro hr;refine oE hr λdb cL hr=>tO z (λ_=>x' DZ z) (Ev _ _ _ _ _ _ _ _ _ _ _ cL) z (λG' e=>⟨(aU.mono e),(aP.mono e),((a0.mono (mx B t)).mono e),((aR.mono (mx B t)).mono e)⟩) ?_;cases db
   .exact Η
   refine fR z<|cy z z (λ_ e=>vP z)<|cy z z (λ_ e=>R' ((ÿ i.k R W L J)).toArray 20 mq z z z (lJ ([i' i.id]) ((ÿ i.k R W L J)) ([i' i.q.kind,δ aC i.q.p aD,δ aG i.q.o aE,i' i.ο,i' i.low,i' i.high,.bool i.done])))<|cy z z (λ_ e=>BI z)<|cy z z (λ_ e=>R' ([i' i.q.kind,δ aC i.q.p aD,δ aG i.q.o aE]).toArray 20 rz z z z (lJ ([i' i.id,i' i.k.n,δ R i.k.eqs W,δ L i.k.ε J]) ([i' i.q.kind,δ aC i.q.p aD,δ aG i.q.o aE]) ([i' i.ο,i' i.low,i' i.high,.bool i.done])))<|cy z z (λ_ e=>k' z)<|cy z z (λ_ e=>k' z)<|oE hr λx2 cl hr=>cy z z (λ_ e=>kf vQ oi ((D.mono N3).mono e) z z cl) ?_
   obtain⟨dy,du,dx,dE,dH,dq,dG,dC,dA,dF,cP,cA,cC,cJ,cv,cB⟩:=Nd (T' (iI D cl) N3);refine cy z z (λ_ e=>mW _ nN z z (λj v hv=>e _ _ _ (cP j v hv)))<|oM N<|oE hr λcR cN hr=>H' (C' z z) z (x' Yc z) (gv'.h cN) z (⟨aU,aP,bZ,ci,cA,cC,cJ,cv,cB⟩) ?_
   cases cR
   .exact Η
   exact Η
  exact Η
 exact Η
instance {e:(Ŀ Zq)}{C:Zq}{r:Bool}:SpcM ((JA e C)) r (∀{c:ŀ Addr}{d:Nat}{I:ŀ Addr}{F:Nat}{n:ŀ Addr}{o:Nat}{H:ŀ Addr}{E:Nat}{V:ŀ Addr}{T:Nat},Cr 7 #[δ c e d,.agg ((pz C I F n o H E V T)).toArray] (λG=>sl M1 G c d e/\sl tS G I F C.c.l/\sl (Rp.int .u8) G n o C.c.iu/\sl (gb .i8 5) G H E C.p.t/\sl xZ G V T C.l) (λG v=>v=.bool r)):=⟨λa {c d I F n o H E V T}=>Pf _ _ c d I F n o H E V T _ a⟩
end Go.Proofs.YtepbagkffgddlaaGreat

namespace Go.EL
open Go.IntKind (i8 i16 i32 i64 u8 u16 u32 u64)
open Go Go.RowKit
def B7:Ö:=[⟨ü 1,ζ (λ_=>0) (0:Int).toNat 1⟩]
def zQ:Zc:=⟨1,[B7],[]⟩
theorem ZAZ:ω B7:=ω.of (by decide +kernel)
theorem rq:eB zQ where
 ok:={
  n:=ĳ
  eqs:=⟨ĳ,λp hp=>by
   rw[Ĕ.1 (show p∈[B7]from hp)];exact⟨ZAZ,by decide +kernel,ĳ,by decide +kernel,by decide +kernel⟩,Ū _ _⟩
  ε:=⟨ĳ,λp hp=>absurd hp Ĝ,List.Pairwise.nil⟩ }
 n3:=ĳ
theorem B8:(L9 0).Α (B7,0):=⟨ĳ,_,(xO (n:=1) ĳ).1,rfl⟩
abbrev q4:Ze:=⟨4,[],[]⟩
abbrev q5:Ze:=⟨5,[],[]⟩
def jW:Zc:=(â zQ).1
def gT:Zb:=⟨[⟨1,jW,q4,0,0,-1,false⟩],2⟩
def uH:Zb:=⟨[⟨1,jW,q4,0,0,-1,false⟩,⟨2,jW,q5,0,0,-1,false⟩],3⟩
theorem YE:hW q4≠hW q5:=by intro e;have:=đ ByteArray.toList e;revert this;decide +kernel
theorem Gw:q4∈ù 5:=Ĕ.2 rfl
theorem UT:q5∈ù 6:=Ĕ.2 rfl
theorem YF:hQ jW q4≠hQ jW q5:=λe=>YE (VX rq.canon.ok rq.canon.ok e).2
theorem Vg:il gT jW q4=(gT,1):=by
 unfold il;have:eS gT.t (hQ jW q4)=some ⟨1,jW,q4,0,0,-1,false⟩:=by unfold eS gT;exact List.find?_cons_of_pos (Ą rfl)
 rw[this]
theorem Mk:gK jA zQ q4=(gT,1,0):=by unfold gK;rw[ă (E1 Gw rq.ok),E0 Gw];rfl
theorem ZzW:gK gT zQ q4=(gT,1,0):=by unfold gK;rw[ă (E1 Gw rq.ok),E0 Gw];show((il gT jW q4).1,(il gT jW q4).2,0)=_;rw[Vg]
theorem Ml:gK gT zQ q5=(uH,2,0):=by
 unfold gK;rw[ă (E1 UT rq.ok),E0 UT];have a:ij 4 gT jW q4=(gT,1):=Vg;have e:ij 5 gT jW q5=il (ij 4 gT jW q4).1 jW q5:=rfl;have c:il gT jW q5=(uH,2):=by
  unfold il;have:eS gT.t (hQ jW q5)=none:=by unfold eS gT;exact(List.find?_cons_of_neg (by rw[ę];exact YF)).trans rfl
  rw[this];rfl
 show((ij 5 gT jW q5).1,(ij 5 gT jW q5).2,0)=_;rw[e,a,c]
theorem ZzX:gK gT zQ ⟨11,[],[]⟩=(⟨[],0⟩,0,1):=rfl
theorem vG:ä gT:=by have:=(K6 y6 rq (fg.nil 4) (by rw[Mk])).ok;rwa [Mk]at this
theorem ZzV:ä uH:=by have:=(K6 vG rq (fg.nil 5) (by rw[Ml])).ok;rwa [Ml]at this
abbrev B6:Zh:=⟨5,[],1,0,0,[],[],[],[]⟩
abbrev sD(n:Int):Zh:=⟨12,[],n,0,0,[],[],[],[]⟩
theorem O3:jW.n=1:=rq.U9
theorem ZzY:gA gT 1 [B6] 3=(⟨[⟨1,jW,q4,4,0,-1,true⟩],2⟩,0):=by
 rw[oZ (rfl) ĳ (by
  show([B6].all (Χ jW))=true;unfold Χ;rw[O3];decide +kernel)]
 show(Zb.mk [stepT jW 1 [B6] 3 ⟨1,jW,q4,0,0,-1,false⟩] 2,(0:Int))=_;unfold stepT;rw[ă rfl];rfl
theorem ZzZ:gA gT 2 [] 3=(⟨[],0⟩,380):=uP rfl
theorem Zz0:gA gT 1 [] 13=(⟨[],0⟩,1):=q0 rfl ĳ
theorem Zz1:gA uH 2 [sD 5,sD 7] 0=(⟨[⟨1,jW,q4,0,0,-1,false⟩,⟨2,jW,q5,1,0,5,false⟩],3⟩,0):=by
 rw[oZ (rfl) ĳ (by
  show([sD 5,sD 7].all (Χ jW))=true;unfold Χ;rw[O3];decide +kernel)]
 show(Zb.mk [stepT jW 2 [sD 5,sD 7] 0 ⟨1,jW,q4,0,0,-1,false⟩,stepT jW 2 [sD 5,sD 7] 0 ⟨2,jW,q5,0,0,-1,false⟩] 3,(0:Int))=_;unfold stepT;rw[ă rfl,ă rfl];rfl
end Go.EL

namespace Go.EL
open Go.IntKind (i8 i16 i32 i64 u8 u16 u32 u64)
open Go Go.RowKit
theorem ZAY:Æ B6:=.BW 1 0 ĳ ĳ
theorem VA{n:Int}(h:0<=n/\n<=7):Æ (sD n):=.zL 12 n ĳ h
theorem Zoe:Ej.Α true:=by
 have w1:=Bh y6 ĳ rq (fg.nil 4);rw[Mk]at w1;have w2:=Bh vG ĳ rq (fg.nil 4);rw[ZzW]at w2;have w3:=tB vG ĳ 1 (l:=[B6]) ĳ (λc a=>by rw[Ĕ.1 a];exact ZAY) 3;rw[ZzY]at w3;have w4:=Bh vG ĳ rq (fg.nil 11);rw[ZzX]at w4;have w5:=tB vG ĳ 2 (l:=[]) ĳ (λc a=>absurd a Ĝ) 3;rw[ZzZ]at w5;have w6:=tB vG ĳ 1 (l:=[]) ĳ (λc a=>absurd a Ĝ) 13;rw[Zz0]at w6;have m:=(AX (B:=⟨[⟨1,jW,q4,4,0,-1,true⟩],2⟩) ĳ 1).1;have w8:=Qy vG.qE ĳ;have j:=Bh vG ĳ rq (fg.nil 5);rw[Ml]at j;have d:=tB ZzV ĳ 2 (l:=[sD 5,sD 7]) ĳ (λc a=>by
  rcases Ď.1 a with a|a
  .rw[a];exact VA ĳ
  rw[Ĕ.1 a];exact VA ĳ) 0
 rw[Zz1]at d;have f:=(AX (B:=⟨[⟨1,jW,q4,0,0,-1,false⟩,⟨2,jW,q5,1,0,5,false⟩],3⟩) ĳ 2).1;have g:(AO jA).Α true:=by
  rcases UX (Zwx y6.DI)with h|h
  .exact h.2
  exact absurd (y6.valid ĳ) h.1
 have i:=Zvt y6 ĳ;have k:(Jo (B7,0) (gT,1,0)).Α true:=by refine⟨_,rfl,_,j,Cq.wp.no (λe=>e rfl) ⟨_,d,_,f,Cq.wp.yes rfl (Cq.wp.yes rfl (Cq.wp.yes rfl (Cq.wp.yes rfl (Cq.wp.no ĳ ⟨jA,rfl,true,g,jA,rfl,_,i,?_⟩))))⟩⟩;rfl
 refine⟨_,B8,jA,rfl,_,rfl,_,w1,_,rfl,_,w2,_,w3,_,rfl,_,w4,_,w5,_,w6,_,m,?_⟩;exact Cq.wp.no (λe=>e rfl) (Cq.wp.no (λe=>e rfl) (Cq.wp.no (λe=>e rfl) (Cq.wp.no (λe=>e rfl) (Cq.wp.no (λe=>e rfl) (Cq.wp.no (λe=>e rfl) (Cq.wp.no (λe=>e rfl) ⟨true,w8,Cq.wp.yes rfl (Cq.wp.yes rfl (Cq.wp.no (λe=>e rfl) (Cq.wp.no (λe=>e rfl) k)))⟩))))))
end Go.EL

namespace Go.EL
open Go.IntKind (i8 i16 i32 i64 u8 u16 u32 u64)
open Go Go.RowKit
theorem ZAi{B:Zb}(h:ä B){s t:Zd}(g:s∈B.t)(k:t∈B.t)(e:s.id=t.id):s=t:=by obtain⟨i,hi,a⟩:=ķ.1 g;obtain⟨j,f,c⟩:=ķ.1 k;have h3:=h.ids i hi;have d:=h.ids j f;rw[a]at h3;rw[c]at d;have:i=j:=ŉ;subst this;rw[<-a,<-c]
theorem ZAc{B:Zb}(h:ä B){t:Zd}(c:t∈B.t):í B.t t.id=(t,true):=by
 unfold í;cases a:B.t.find? λu=>decide (u.id=t.id)with
 |some u=>
  have e:u.id=t.id:=by simpa using aan a
  rw[ZAi h (eu a) c e]
 |none=>
  have:=List.find?_eq_none.1 a t c;exact absurd (Ą rfl) this
end Go.EL

namespace Go.EL
open Go.IntKind (i8 i16 i32 i64 u8 u16 u32 u64)
open Go Go.RowKit
structure hU (t u:Zd):Prop where
 low:t.low<=u.low
 high:0<=t.high->0<=u.high/\u.high<=t.high
 MS:t.ο<=u.ο
 done:t.done=true->u.done=true
 k:u.k=t.k
 q:u.q=t.q
 id:u.id=t.id
theorem hU.refl(t:Zd):hU t t:=⟨ŋ _,λh=>⟨h,ŋ _⟩,ŋ _,λh=>h,rfl,rfl,rfl⟩
theorem hU.trans{s t u:Zd}(h:hU s t)(k:hU t u):hU s u:=
 ⟨ec h.low k.low,λa=>by have:=h.high a;have:=k.high this.1;omega,ec h.MS k.MS,λa=>k.done (h.done a),k.k.trans h.k,k.q.trans h.q,k.id.trans h.id⟩
theorem ZvN(t:Zd)(c:Zh):hU t (eW t c) where
 low:=by show t.low<=oB _ _;unfold oB;split<;>omega
 high h:=by
  show 0<=lr _ _/\lr _ _<=t.high;unfold lr;repeat' split
  all_goals omega
 MS:=ŋ _
 done h:=by show(t.done || _)=true;rw[h];rfl
 k:=rfl
 q:=rfl
 id:=rfl
theorem QV:∀(l:Ŀ Zh) (t:Zd),hU t (l.foldl eW t)
 |[],t=>hU.refl t
 |c::l,t=>(ZvN t c).trans (QV l _)
theorem Zvw(id tried:Int)(t:Zd):hU t (gM id tried t):=by
 unfold gM;split
 .refine⟨ŋ _,λh=>⟨h,ŋ _⟩,?_,λh=>h,rfl,rfl,rfl⟩;show t.ο<=(if t.ο<tried+1 then tried+1 else t.ο);split<;>omega
 exact hU.refl t
end Go.EL

namespace Go.EL
open Go.IntKind (i8 i16 i32 i64 u8 u16 u32 u64)
open Go Go.RowKit
theorem ZyJ(t:Zd)(a b:Zh):eW (eW t a) b=eW (eW t b) a:=by
 have lo:∀x p q:Int,oB (oB x p) q=oB (oB x q) p:=λx p q=>by
  unfold oB;repeat' split
  all_goals omega
 have hi:∀x p q:Int,lr (lr x p) q=lr (lr x q) p:=λx p q=>by
  unfold lr;repeat' split
  all_goals omega
 show Zd.mk t.id t.k t.q t.ο (oB (oB t.low _) _) (lr (lr t.high _) _) ((t.done || _) || _)=Zd.mk t.id t.k t.q t.ο (oB (oB t.low _) _) (lr (lr t.high _) _) ((t.done || _) || _);rw[lo,hi,Bool.or_right_comm];rfl
theorem Zxc{l m:Ŀ Zh}(h:l.Perm m):∀t:Zd,l.foldl eW t=m.foldl eW t:=by
 induction h with
 |nil=>exact λ_=>rfl
 |cons a _ d=>exact λt=>d (eW t a)
 |swap a b l=>exact λt=>by show l.foldl eW (eW (eW t b) a)=l.foldl eW (eW (eW t a) b);rw[ZyJ]
 |trans _ _ c h2=>exact λt=>(c t).trans (h2 t)
theorem ZAp(id tr:Int)(t:Zd)(c:Zh):eW (gM id tr t) c=gM id tr (eW t c):=by
 unfold gM;by_cases e:t.id=id
 .rw[ă e,ă (show(eW t c).id=id from e)];rfl
 rw[ā e,ā (show ¬(eW t c).id=id from e)]
theorem Gt{id tr a:Int}(h:a<=tr)(t:Zd):gM id tr (gM id a t)=gM id tr t:=by
 unfold gM;by_cases e:t.id=id
 .rw[ă e,ă e,ă e];congr 1;show(if(if t.ο<a+1 then a+1 else t.ο)<tr+1 then tr+1 else(if t.ο<a+1 then a+1 else t.ο))=_;repeat' split
  all_goals omega
 rw[ā e,ā e]
theorem V3(id tr:Int)(t:Zd):(gM id tr t).k=t.k:=by unfold gM;split<;>rfl
theorem ZxW{K:Zc}{id tr a:Int}(h:a<=tr)(m:Ŀ Zh)(c:Zh)(t:Zd):stepT K id [c] tr (stepT K id m a t)=stepT K id (m++[c]) tr t:=by
 unfold stepT;rw[V3];by_cases e:ø t.k=ø K
 .rw[ă e,ă e,(xC m t).2.1,ă e,aaG];show gM id tr (eW (gM id a _) c)=gM id tr (eW _ c);rw[ZAp,Gt h]
 rw[ā e,ā e,ā e,Gt h]
theorem Zzf{K:Zc}{id tr a:Int}(h:a<=tr)(m:Ŀ Zh)(t:Zd):stepT K id [] tr (stepT K id m a t)=stepT K id m tr t:=by
 unfold stepT;rw[V3];by_cases e:ø t.k=ø K
 .rw[ă e,(xC m t).2.1,ă e];exact Gt h _
 rw[ā e,ā e,Gt h]
theorem Sx:∀{l:Ŀ Zh}{t:Zd}{c:Zh},c∈l->mu t.k t.q c=true->(l.foldl eW t).done=true
 |a::l,t,c,d,e=>by
  rcases Ď.1 d with rfl|d
  .exact (QV l (eW t c)).done (by show(t.done || mu t.k t.q c)=true;rw[e,aa2])
  exact Sx (t:=eW t a) d e
theorem re{K:Zc}{id tr:Int}{l:Ŀ Zh}{t:Zd}{c:Zh}(e:ø t.k=ø K)(d:c∈l)(a:mu t.k t.q c=true):(stepT K id l tr t).done=true:=by unfold stepT;rw[ă e];exact(Zvw id tr _).done (Sx d a)
structure kv (B:Zb) (g:Zd->Zd):Prop where
 id:∀t,(g t).id=t.id
 k:∀t,(g t).k=t.k
 ok:ä ⟨B.t.map g,B.next⟩
theorem kv.next{B:Zb}{g:Zd->Zd}(c:kv B g){id:Int}(f:(í B.t id).2=true){tr:Int}(i:0<=tr/\tr<=12){m:Ŀ Zh}(h:m.all (Χ (í B.t id).1.k)=true):
  gA ⟨B.t.map g,B.next⟩ id m tr=(⟨B.t.map λt=>stepT (í B.t id).1.k id m tr (g t),B.next⟩,0)/\kv B λt=>stepT (í B.t id).1.k id m tr (g t):=by
 obtain⟨o1,o2⟩:=FA f
 have d:g (í B.t id).1∈B.t.map g:=ğ.2 ⟨_,o1,rfl⟩
 have a:=ZAc c.ok d
 rw[c.id,o2]at a
 have a:í (Zb.mk (B.t.map g) B.next).t id=(g (í B.t id).1,true):=a
 have e:gA ⟨B.t.map g,B.next⟩ id m tr=(⟨B.t.map λt=>stepT (í B.t id).1.k id m tr (g t),B.next⟩,0):=by rw[oZ (by rw[a]) ŉ (by rw[a];show m.all (Χ (g _).k)=true;rw[c.k];exact h),a];show(Zb.mk ((B.t.map g).map (stepT (g (í B.t id).1).k id m tr)) B.next,(0:Int))=_;rw[c.k,eF];rfl
 refine⟨e,λt=>(y3 _ _ _ _ _).1.trans (c.id t),λt=>(y3 _ _ _ _ _).2.1.trans (c.k t),?_⟩
 have:=(Lj c.ok (id:=id) (l:=m) (tried:=tr) (by rw[e])).1
 rwa [e]at this
theorem kv.WV{B:Zb}(h:ä B):kv B (λt=>t):=⟨λ_=>rfl,λ_=>rfl,by rw[abG];exact h⟩
theorem Td{l:Ŀ Zh}{j:Nat}(h:j<l.length):(l.take (j+1)).drop j=[l[j]]:=by rw[Ĉ h,aaU (by rw[č];omega),List.drop_take,aaC,ŗ];rfl
def gD(K:Zc)(id:Int)(l:Ŀ Zh)(tr:Int)(i:Nat)(t:Zd):Zd:=if i=0 then t else stepT K id (l.take i) tr t
theorem Mo{K:Zc}{id:Int}{l:Ŀ Zh}{tr:Int}{i:Nat}(hi:i<l.length):(λt=>stepT K id [l[i]] tr (gD K id l tr i t))=gD K id l tr (i+1):=by
 funext t;unfold gD;rw[ā (Nat.succ_ne_zero i)];by_cases h:i=0
 .subst h;rw[ă rfl,Ĉ hi];rfl
 rw[ā h,ZxW (ŋ _),<-Ĉ hi]
theorem ZtV{B:Zb}(h:ä B)(G:B.t.length<=900){x:Zq}{l:Ŀ Zh}(r:l.length<=4)(d:∀c∈l,Æ c)(j:(í B.t x.id).2=true)(C:0<=x.tried/\x.tried<=12)(hr:l.all (Χ (í B.t x.id).1.k)=true):
  (Pk x l (0,B,B)).Α (.inr (⟨B.t.map (gD (í B.t x.id).1.k x.id l x.tried l.length),B.next⟩,⟨B.t.map (gD (í B.t x.id).1.k x.id l.reverse 0 l.length),B.next⟩))/\
  kv B (gD (í B.t x.id).1.k x.id l.reverse 0 l.length):=by
 have p:∀c∈l,[c].all (Χ (í B.t x.id).1.k)=true:=λc d=>by rw[aaP,Ć.1 hr c d];rfl
 generalize g:(í B.t x.id).1.k=K at *
 have u:∀(m:Ŀ Zh) (tr:Int),(⟨B.t.map (gD K x.id m tr 0),B.next⟩:Zb)=B:=λm tr=>by rw[show gD K x.id m tr 0=λt=>t from funext λt=>ă rfl,abG]
 have a:∀(m:Ŀ Zh) (tr:Int),0<=tr/\tr<=12->(∀c∈m,c∈l)->∀i,i<=m.length->kv B (gD K x.id m tr i)/\∀(hi:i<m.length),gA ⟨B.t.map (gD K x.id m tr i),B.next⟩ x.id [m[i]] tr=(⟨B.t.map (gD K x.id m tr (i+1)),B.next⟩,0):=by
  intro m tr f k i;induction i with
  |zero=>
   intro _;have v:kv B (gD K x.id m tr 0):=by rw[show gD K x.id m tr 0=λt=>t from funext λt=>ă rfl];exact kv.WV h
   refine⟨v,λhi=>?_⟩;have:=(v.next j f (m:=[m[0]]) (by rw[g];exact p _ (k _ (Ă hi)))).1;rw[g,Mo hi]at this;exact this
  |succ i D=>
   intro hi;obtain⟨E,k2⟩:=D ŉ;have k3:=(E.next j f (m:=[m[i]]) (by rw[g];exact p _ (k _ (Ă ŉ)))).2;rw[g,Mo ŉ]at k3;refine⟨k3,λki=>?_⟩;have:=(k3.next j f (m:=[m[i+1]]) (by rw[g];exact p _ (k _ (Ă ki)))).1;rw[g,Mo ki]at this;exact this
 have H:l.reverse.length=l.length:=List.length_reverse
 refine⟨?_,((a l.reverse 0 ŉ (λc d=>aby.1 d)) l.length ŉ).1⟩
 refine Cq.Zn l.length (λi s=>s=((i:Int),⟨B.t.map (gD K x.id l x.tried i),B.next⟩,⟨B.t.map (gD K x.id l.reverse 0 i),B.next⟩)) (λi s hi n=>?_) (λs n=>?_) (by show _=_;rw[u,u];rfl)
 .subst n
  obtain⟨a1,a2⟩:=a l x.tried C (λc d=>d) i ŉ
  obtain⟨y,A⟩:=a l.reverse 0 ŉ (λc d=>aby.1 d) i ŉ
  have a3:=tB a1.ok (by show(B.t.map _).length<=1000;rw[ć];omega) x.id (l:=[l[i]]) (by show 1<=1000;decide) (λc mh=>by rw[Ĕ.1 mh];exact d _ (Ă hi)) x.tried
  rw[a2 hi]at a3
  have q:=tB y.ok (by show(B.t.map _).length<=1000;rw[ć];omega) x.id (l:=[l.reverse[i]'ŉ]) (by show 1<=1000;decide) (λc mh=>by rw[Ĕ.1 mh];exact d _ (aby.1 (Ă _))) 0
  rw[A ŉ]at q
  have w1:i64.wrap ((i:Int)+1)=((i+1:Nat):Int):=ψ ŉ
  have w2:i64.wrap (i64.wrap ((l.length:Int)-1)-(i:Int))=((l.length-1-i:Nat):Int):=by rw[wrap64 (x:=(l.length:Int)-1) ŉ,wrap64 ŉ];omega
  have w3:i64.wrap ((l.length:Int)-(i:Int))=((l.length-1-i+1:Nat):Int):=by rw[wrap64 ŉ];omega
  have F:[l.reverse[i]'ŉ]=(l.take (l.length-1-i+1)).drop (l.length-1-i):=by rw[Td ŉ,List.getElem_reverse]
  refine Cq.wp.yes ŉ ⟨by rw[w1];omega,_,by rw[w1,Ē,Ē,Td hi];exact a3,by rw[w2,w3];omega,_,by rw[w2,w3,Ē,Ē,<-F];exact q,Cq.wp.no (λe=>e rfl) (Cq.wp.no (λe=>e rfl) ?_)⟩
  show _=_
  rw[w1]
 subst n
 exact Cq.wp.no ŉ rfl
end Go.EL

namespace Go.EL
open Go.IntKind (i8 i16 i32 i64 u8 u16 u32 u64)
open Go Go.RowKit
theorem T7(n:Nat):((List.range n).all λ_=>true)=true:=Ć.2 λ_ _=>rfl
theorem Zxq{B:Zb}(h:ä B)(D:B.t.length<=900){x:Zq}{l:Ŀ Zh}(p:l.length<=4)(t:∀c∈l,Æ c)(u:(í B.t x.id).2=true){tr:Int}(n:Int)(e:Int)
  (C:ä ⟨B.t.map (stepT (í B.t x.id).1.k x.id l tr),n⟩):(Ji x true B l (⟨B.t.map (stepT (í B.t x.id).1.k x.id l tr),n⟩,e)).Α true:=by
 refine⟨_,(AX (B:=B) ŉ x.id).1,?_⟩
 obtain⟨o1,o2⟩:=FA u
 generalize í B.t x.id=own at *
 have v:(B.t.map (stepT own.1.k x.id l tr)).length=B.t.length:=ć _
 have key:(Ph l (⟨B.t.map (stepT own.1.k x.id l tr),n⟩,e) own 0).wp λo=>o=if((List.range B.t.length).all λ_=>true)=true then .inr ()else .inl false:=by
  refine xL B.t.length ŉ (λ_=>true) (λi hi=>?_) (Cq.wp.no (by show ¬(B.t.length:Int)<((B.t.map (stepT own.1.k x.id l tr)).length:Int);omega) rfl);rw[ă rfl];refine Cq.wp.yes (by show(i:Int)<((B.t.map (stepT own.1.k x.id l tr)).length:Int);omega) ?_;have a:(Pj l (⟨B.t.map (stepT own.1.k x.id l tr),n⟩,e) own (i:Int) 0).wp λo=>o=if((List.range l.length).all λ_=>true)=true then .inr ()else .inl false:=by
   refine xL l.length ŉ (λ_=>true) (λj g=>?_) (Cq.wp.no ŉ rfl);rw[ă rfl];have yd:i<(B.t.map (stepT own.1.k x.id l tr)).length:=ŉ;have f:(0:Int)<=(i:Int)/\(B.t.map (stepT own.1.k x.id l tr))[(i:Int).toNat]?=some (stepT own.1.k x.id l tr B.t[i]):=by have:=Λ yd;rwa [Ş]at this
   obtain⟨E,q,y⟩:=y3 own.1.k x.id l tr B.t[i];have m:=h.can _ (Ă hi);have A:=Fx m.ck.1.ok.rh (h.qE _ o1).k;refine Cq.wp.yes ŉ ⟨_,f,_,by rw[q];exact A,?_⟩;by_cases d:ø B.t[i].k=ø own.1.k
   .rw[Ą d];have r:=QH (k:=B.t[i].k) m.cq (t _ (Ă g));refine⟨_,Λ g,_,by rw[q,y];exact r,?_⟩;cases s:mu B.t[i].k B.t[i].q l[j]with
    |false=>exact rfl
    |true=>exact Cq.wp.no (by rw[re d (Ă g) s];decide) rfl
   rw[Č d];exact rfl
  rw[T7]at a;exact Cq.eT a rfl
 rw[T7]at key
 exact Cq.eT key rfl
theorem Zn8{l:Ŀ Zq}(h:∀x∈l,iT x){x:Zq}(F:iT x):(JA l x).Α true:=by
 obtain⟨B,y,i,G⟩:=Zvv h;obtain⟨k,q,m,hp⟩:=Uq F;have f:=hp.len;have D:=tB i ŉ x.id (l:=m) ŉ hp.l x.tried;have p:=tB i ŉ x.id (l:=[]) ĳ (λc r=>absurd r Ĝ) x.tried;refine⟨true,Zoe,Cq.wp.nr rfl ⟨B,y,m,hp.lO,_,D,?_⟩⟩;by_cases a:(gA B x.id m x.tried).2=0
 .refine Cq.wp.no (λe=>e a) ?_;have d:(í B.t x.id).2=true:=by
   cases d:(í B.t x.id).2 with
   |true=>rfl
   |false=>rw[uP d]at a;cases a
  have s:0<=x.tried/\x.tried<=12:=by
   by_cases j:x.tried<0\/12<x.tried
   .rw[q0 d j]at a;cases a
   omega
  have hr:m.all (Χ (í B.t x.id).1.k)=true:=by
   cases hr:m.all (Χ (í B.t x.id).1.k)with
   |true=>rfl
   |false=>rw[yg d ŉ hr]at a;cases a
  have n:=(Lj i a).1;rw[oZ d ŉ hr]at n⊢;obtain⟨w1,w2⟩:=ZtV i ŉ f hp.l d s hr;refine Cq.eT w1 ?_;have w3:=tB w2.ok (by show(B.t.map _).length<=1000;rw[ć];omega) x.id (l:=[]) ĳ (λc r=>absurd r Ĝ) x.tried;rw[(w2.next d s (m:=[]) rfl).1]at w3;have C:(λt=>stepT (í B.t x.id).1.k x.id [] x.tried (gD (í B.t x.id).1.k x.id m.reverse 0 m.length t))=stepT (í B.t x.id).1.k x.id m x.tried:=by
   funext t;unfold gD;by_cases g:m.length=0
   .rw[ă g,aaa.1 g]
   rw[ā g,Zzf s.1,Ę (by rw[List.length_reverse];exact ĉ _)];unfold stepT;rw[Zxc (List.reverse_perm m)]
  have u:(D3 x true B m (⟨B.t.map (stepT (í B.t x.id).1.k x.id m x.tried),B.next⟩,0) (⟨B.t.map (λt=>stepT (í B.t x.id).1.k x.id [] x.tried (gD (í B.t x.id).1.k x.id m.reverse 0 m.length t)),B.next⟩,0) ⟨B.t.map (stepT (í B.t x.id).1.k x.id m x.tried),B.next⟩).Α true:=by rw[C];have v:=Qy n.qE (by show(B.t.map _).length<=1000;rw[ć];omega);exact Cq.wp.no (λe=>e rfl) ⟨true,v,true,v,Cq.wp.nr rfl (Zxq i ŉ f hp.l d B.next 0 n)⟩
  refine⟨_,w3,?_⟩;by_cases g:m.length=0
  .have E:m=[]:=aaa.1 g;refine Cq.wp.yes ŉ ⟨_,p,?_⟩;rw[oZ d ŉ rfl];subst E;exact u
  refine Cq.wp.no ŉ ?_;have A:gD (í B.t x.id).1.k x.id m x.tried m.length=stepT (í B.t x.id).1.k x.id m x.tried:=by funext t;unfold gD;rw[ā g,Ĥ]
  rw[A];exact u
 exact Cq.wp.yes a rfl
end Go.EL

