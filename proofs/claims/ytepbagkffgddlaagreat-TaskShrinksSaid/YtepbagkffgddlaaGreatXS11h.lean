/- The law TaskShrinks holds for every input: a part of its proof (fC the code does, plain models, and fC they return). No condition. -/
import Derived.Test.YtepbagkffgddlaaGreatXS11gb
import Derived.Test.YtepbagkffgddlaaGreatXS11e
set_option linter.unusedVariables false
set_option linter.unusedSimpArgs false
namespace Go.Proofs.YtepbagkffgddlaaGreat
open Go.IntKind (i8 i16 i32 i64 u8 u16 u32 u64)
open Go.Proofs.Tryz
open Go Go.EL Go.RowKit Go.Proofs
set_option maxHeartbeats 4000000
set_option maxRecDepth 20000
instance iQ'{k n r}:SpcM ((Ld k n)) r (∀{f c d e m l},Cr 120 #[.agg ((Υ k f c d e)).toArray,δ m n l] (λG=>su G f c k.num.χ/\su G d e k.den.χ/\sl c' G m l n) (fS c' r)):=.mk λhr {f c d e m l}=>Ι
instance gF'{H K F O r}:SpcM ((Bh H K F O)) r (∀{s t},Cr 65 #[.agg ([δ s H.t t]).toArray,i' K,i' F,i' O] (λG=>sl (fV .i8 5) G s t H.t) (fS c' r)):=.mk λhr {s t}=>by
 refine Ο ?_;intro w0 G0 ay b1 p1 an M aP hr E;refine WC.mC hr [1,2,3,4] [4] [] [] (λ(⟨q,m,p,o⟩:(Ŀ Za)×ŀ Addr×Nat×Int)=>⟨(q,o),[(9,δ m q p),(10,i' o)],λQ=>sl c' Q m p q,[]⟩) (λ(⟨W,Y,L⟩:(Ŀ Za)×ŀ Addr×Nat)=>⟨W,[(9,δ Y W L)],λah=>sl c' ah Y L W,[]⟩) ⟨[],p1,0,0⟩ ?_;rintro _ Q ⟨q,m,p,o⟩ n ad hr;refine WC.nB hr [1,2,3,4,9,10] [4] (λ(_:Unit)=>⟨[],Q9 H K F q o,tr,[]⟩) ?_;intro T _ hr I _;refine Ο ?_;intro U hr;refine WC.mB hr [1,2,3,4,9,10,11] [4] [1,2,3,4,9,10,11] [4] (λ(⟨y,l,P⟩:Int×Int×(Fin 8->Int))=>⟨(y,l,P),[(12,i' y),(13,i' l)],tr,[(11,ü U (Ø P) 145)]⟩) (λ(J:(Fin 8->Int))=>⟨J,[],tr,[(11,ü U (Ø J) 145)]⟩) ⟨F,0,(λ_=>0)⟩ ?_;intro am J hr S _;refine b'<|fN [tt,ff,ff,ff,ff,ff,ff,ff,ff,ff,ff,ff] eP İ λhb=>uA z (k' z)<|cn (λ_ j=>Y0.VK z)<|cn (λ_ j=>n' 4 De z z z)<|fO z ?_
 obtain⟨x1,x,hr⟩:=hr;have a:=mx (mx (mx M n) I) S;refine cn (λ_ j=>ki fY' wF ((E.mono a).mono j) z z x)<|cn (λ_ j=>V8 underlying197 te z z ĳ)<|cn (λ_ j=>nF sU z (GO (T' (T' (iN E x) a) j) ĳ))<|cn (λ_ j=>vT z z ĳ)<|cn (λ_ j=>pD V9 dw' z)<|oE hr λu aE hr=>qK (post:=er u) (λ_=>z) (λ_ _=>x' D0 z) (GN.h aE) z (λG' j=>trivial) (λv X G2 j h=>?_) ?_
 .obtain⟨ac,aa,V,Z,rfl,B,A⟩:=h;exact⟨_,_,_,_,z,B.mono j,A.mono j⟩
 refine oE hr λk aF hr=>qK (post:=er k) (λ_=>z) (λ_ _=>x' D0 z) (GN.h aF) z (λG' j=>trivial) (λv X G2 j h=>?_) ?_
 .obtain⟨c,g,f,i,rfl,D,C⟩:=h;exact⟨_,_,_,_,z,D.mono j,C.mono j⟩
 refine cu (λ_ _ j=>y' 11 GH z z (U' _ _ _))<|GP (d:=67) (post:=er k) (d':=66) (post':=er u) (λa4 a5 ba af al ai=>?_)
 obtain⟨c,g,f,i,rfl,D,C⟩:=al;obtain⟨ac,aa,V,Z,rfl,B,A⟩:=ai;refine Γ (ma (vs:=#[(0,.agg ((Υ k c g f i)).toArray),(1,.agg (Ø J).toArray)]) (v:=.agg (((Υ k c g f i):Ŀ Value)++(Ø J)).toArray) z z (λ_=>İ))<|nb (e:=147) (r:=c') (vs:=#[(0,.agg (((Υ k c g f i):Ŀ Value)++(Ø J)).toArray)]) (cs:=(((Υ k c g f i):Ŀ Value)++(Ø J))++([])) ([(Za.mk k J)]:Ŀ Za) z z z z z ĳ (λ_=>İ) ⟨((Υ k c g f i):Ŀ Value)++(Ø J),[],z,⟨(Υ k c g f i),Ø J,z,⟨(θ k.num c g),(θ k.den f i),z,⟨[.bool k.num.neg],[δ c k.num.χ g],z,z,⟨_,z,D⟩⟩,⟨[.bool k.den.neg],[δ f k.den.χ i],z,z,⟨_,z,C⟩⟩⟩,z⟩,z⟩ (key:=999) z (by rw[ay];rfl) (λp2 bc R aQ=>?_)
 refine oE hr λbb aK hr=>gw z z (x' H6 z) (iQ'.h aK) z (⟨(B.mono R),(A.mono R),aQ⟩) (λa0 a9 N ak=>?_);obtain⟨aZ,a6,rfl,aD⟩:=ak;refine oE hr λaM aC hr=>gw z z (x' zV z) (WW.h aC) z (⟨(ad.mono (mx (mx (mx (mx I S) af) R) N)),aD⟩) (λa3 aT ar aj=>?_);obtain⟨aI,aH,rfl,aG⟩:=aj;have N2:=mx (mx (mx (mx (mx (mx n I) S) af) R) N) ar;exact Ι
instance iY'{x r}:SpcM ((FX x)) r (∀{Y V F H},Cr 63 #[.agg ((OE x Y V F H)).toArray] (λG=>sl tO G Y V x.l/\sl (Rp.int .u8) G F H x.il) (DP r)):=.mk λhr {Y V F H}=>by
 refine Ο ?_;intro w0 G0 _ aw al b1 b2 _ aH S bb hr _;obtain⟨bg,hr⟩:=hr;refine WL.slice3 (r:=Rp.str) z z BS yu z bb z z z bg λp2 bd=>?_;refine é ?_;intro b3 hr;refine WC.mC (hH:=by exact⟨bd,(X' _ _),la,(X' _ _),la⟩) hr [1,2,4,5] [1,2] [2,5] [2] (λ(⟨R,f,k,l,g,p,q,A,d,o,n,t,c⟩:Int×(Ŀ Ĳ)×ŀ Addr×Nat×(Ŀ Zo)×ŀ Addr×Nat×ŀ Ow×(Ŀ Zo)×ŀ Addr×Nat×ŀ Ow×Int)=>⟨(R,f,g,d,c),[(6,i' R)],λa=>sl Rp.str a k l f/\sl vS a p q g/\Tok 2 194 (δ p g q) g.length A/\sl vS a o n d/\Tok 2 194 (δ o d n) d.length t,[(5,ü b3 ([δ k f l,δ p g q,δ o d n,i' c]) 129),(310051,A),(310052,t)]⟩) (λ(⟨ac,ag,af,J,X,Z,ae,E,K,Q,U,ah⟩:(Ŀ Ĳ)×ŀ Addr×Nat×(Ŀ Zo)×ŀ Addr×Nat×ŀ Ow×(Ŀ Zo)×ŀ Addr×Nat×ŀ Ow×Int)=>⟨(ac,J,E,ah),[],λap=>sl Rp.str ap ag af ac/\sl vS ap X Z J/\Tok 2 194 (δ X J Z) J.length ae/\sl vS ap K Q E/\Tok 2 194 (δ K E Q) E.length U,[(5,ü b3 ([δ ag ac af,δ X J Z,δ K E Q,i' ah]) 129),(310051,ae),(310052,U)]⟩) ⟨0,(([AJ,AI,AH].take (i64.wrap (Int.tmod x.n 4)).toNat).drop (0:Int).toNat),p2,(([AJ,AI,AH].take (i64.wrap (Int.tmod x.n 4)).toNat).drop (0:Int).toNat).length,[],none,0,none,[],none,0,none,1⟩ ?_;rintro _ a ⟨R,f,k,l,g,p,q,A,d,o,n,t,c⟩ C ⟨L,e,M,P,I⟩ hr;refine WC.nD hr [1,2,4,5,6] [1,2,5,310051,310052] (λ(_:Unit)=>⟨[],EV x R f g d c,tr,[]⟩) ?_ ?_
 .refine sr<|η z<|Γ (Y0.VJ z)<|Γ (n' 1 yn z z z)<|Γ (P' fd' (al.mono (mx S C)) z)<|Ð hr z (Z' z z) z (λbj hr=>?_) (λbj hr=>?_)
  .refine Ο ?_;intro _ hr;refine oj ⟨a,f,k,l,g,p,q,A,d,o,n,t,c⟩ ⟨hr,C,L,e,M,P,I⟩ (Ç z) (w4 z z z z)
  refine Ο ?_;intro hr;refine oj ⟨a,f,k,l,g,p,q,A,d,o,n,t,c⟩ ⟨hr,C,L,e,M,P,I⟩ (Ç z) (w4 z z z z)
 intro ao _ hr y _;refine o'<|Y'<|sr<|Μ z<|WC.nB hr [1,2,4,5,6] [1,2,5,310051,310052] (λ(m:Int)=>⟨[(7,i' m)],EU x R f g d c m,tr,[]⟩) ?_
 intro aG m hr D _;refine o'<|fN [ff,ff,ff,ff,ff,ff,ff,ff,ff,ff,ff,ff,ff] eP İ λhb=>cn (λ_ s=>B9 z)<|cn (λ_ s=>n' 5 dN z z z) ?_
 refine é ?_;intro _ _ _ _ _ _ _ _ _ B hr _;refine kq (φ:=λG v=>∃p3 T,v=.agg ([i' (i64.wrap (c+m)),δ p3 B T]).toArray/\sl c' G p3 T B) (λ_=>z) (λv G1 G2 s h=>?_) (λu G' s hu=>?_) ?_
 .obtain⟨p3,T,rfl,aA⟩:=h;exact⟨_,_,z,aA.mono s⟩
 .obtain⟨⟨j,i,aM,ar⟩,_⟩:=(show(fS c' B) G'.m (u 55)/\True from hu);simp only[υ,aM];exact⟨_,ma (vs:=#[(0,i' (i64.wrap (c+m))),(1,δ j B i)]) (v:=.agg ([i' (i64.wrap (c+m)),δ j B i]).toArray) z z (λ_=>İ),j,i,z,ar⟩
 refine lr (λ_=>z) z194<|GY (λbA bs bt X1 W aJ aE aC=>?_)
 obtain⟨b4,rfl,aU⟩:=aJ;obtain⟨p3,T,rfl,aA⟩:=aE;obtain⟨j,i,rfl,ar⟩:=aC;refine pT aU (my (show WL _ _ _ _ _ _ (St w0 G0 X1.m _)from ?_));refine fY 8 oc z<|t'<|Κ<|b'<|o' ?_
 refine é ?_;intro hr;refine I' hr z (λbk hr=>?_) (λbk hr=>?_)
 .refine Ο ?_;intro _ _ aj a8 hr;obtain⟨aT,hr⟩:=hr;have N:=mx (mx (mx y D) W) aj;refine jU (r:=vS) 310052 z z vN vW z ĳ z z (P.mono N) z (by rw[aw];rfl) I a8 aT λp5 aF a3 bc au bi a0=>Γ (GZ z)<|rp 5 ([δ k f l,δ p g q,.slice p5 (d++[(Zo.mk (i64.wrap (c+m)) B)]).length aF,i' c]).toArray z wC z z z (show 2<4 by decide) z z ?_
  refine é ?_;intro hr;refine N' ⟨bc,i64.wrap (R+1),f,k,l,g,p,q,A,(d++[(Zo.mk (i64.wrap (c+m)) B)]),p5,aF,a3,i64.wrap ((i64.wrap (c+m))+1)⟩ hr ⟨(mx (mx (mx (mx (mx C y) D) W) aj) au),(L.mono (mx N au)),(e.mono (mx N au)),M,bi,a0⟩ (Ç z) (w5 z z z z z)
 refine Ο ?_;intro _ _ ak a6 hr;obtain⟨aZ,hr⟩:=hr;have O:=mx (mx (mx y D) W) ak;refine jU (r:=vS) 310051 z z vN vW z ĳ z z (e.mono O) z (by rw[aw];rfl) M a6 aZ λp7 aK aS bh aq a9 aX=>Γ (G4 z)<|rp 5 ([δ k f l,.slice p7 (g++[(Zo.mk (i64.wrap (c+m)) B)]).length aK,δ o d n,i' c]).toArray z wC z z z (show 1<4 by decide) z z ?_
 refine é ?_;intro hr;refine N' ⟨bh,i64.wrap (R+1),f,k,l,(g++[(Zo.mk (i64.wrap (c+m)) B)]),p7,aK,aS,d,o,n,t,i64.wrap ((i64.wrap (c+m))+1)⟩ hr ⟨(mx (mx (mx (mx (mx C y) D) W) ak) aq),(L.mono (mx O aq)),a9,aX,(P.mono (mx O aq)),I⟩ (Ç z) (w5 z z z z z)
instance Ww{n A g r}:SpcM ((Bj n A g)) r (∀{m l},Cr 202 #[δ m n l,i' A,i' g] (λG=>sl vS G m l n) (λG v=>v=.bool r)):=.mk λhr {m l}=>by
 refine Ο ?_;intro F i _ _ hr e;refine WC.mC hr [0,1,2] [] [] [] (λ(k:Int)=>⟨k,[(7,i' k)],tr,[]⟩) (λ(_:Unit)=>⟨(.inr ()),[],tr,[]⟩) 0 ?_;intro _ f k d _ hr;refine o'<|sr<|η z<|η z<|Γ (P' vN (e.mono d) z)<|ku z<|nx<|I' hr z (λE hr=>?_) (λE hr=>?_)
 .exact q'<|b'<|o'<|Y'<|o'<|fN [ff,ff,ff,ff,ff,ff,ff,ff,ff,ff,ff,ff,ff,ff,ff,ff,ff,ff,ff,ff,ff,ff,ff,ff,ff,ff,ff,ff,ff,ff,ff,ff,ff,ff,ff,ff,ff,ff,ff,ff] eP İ λh=>fO z<|fO z<|oE hr λa t hr=>cn (λ_ c=>ki vN oc ((e.mono d).mono c) z z t)<|cn (λ_ c=>M0 z)<|cn (λ_ c=>nF dN z (zA (T' (T' (se (nT (iN e t))) d) c)))<|Ι
 exact Ι
instance nK{c r}:SpcM ((AN c)) r (Cr 260 #[.int .u8 c] (λG=>True) (λG v=>v=.bool r)):=.mk λhr=>by
 refine Ο ?_;intro _ _ _ _ _ hr _;refine î (M' z z) z<|î (M' z z) z<|sf z z z<|Β z<|Μ z<|m' (Å hr z z)
instance iZ'{e r}:SpcM ((FY e)) r (Cr 203 #[.string e] (λG=>True) (λG v=>v=.bool r)):=.mk λhr=>by
 refine é ?_;intro k h _ hr _;refine WC.nB hr [0] [] (λ(_:Unit)=>⟨[],Re e,tr,[]⟩) ?_;intro f _ hr I _;refine o'<|sr<|Μ z<|WC.mC hr [0] [] [] [] (λ(g:Int)=>⟨g,[(3,i' g)],tr,[]⟩) (λ(_:Unit)=>⟨(.inr ()),[],tr,[]⟩) 1 ?_
 intro _ d g c _ hr;refine o'<|sr<|η z<|η z<|Γ (Y0.CP xN z)<|ku z<|nx<|I' hr z (λH hr=>?_) (λH hr=>?_)
 .refine q'<|b'<|o'<|Y'<|sr<|η z<|η z<|oA hr λn hr=>Γ (eJ' (s:=e) xN z z n)<|oE hr λt m hr=>H' z z (x' IL z) (nK.h m) z (trivial) ?_
  cases t
  .exact Ι
  exact Γ (gS z)<|η z<|gK z<|î (M' z z) z<|î (M' z z) z<|î (M' z z) z<|î (M' z z) z<|wz z<|ν z<|η z<|lG z<|ν z<|nx<|qO z<|Ι
 exact Ι
instance iR'{j r}:SpcM ((FK j)) r (∀{d c i h f e},Cr 116 #[.agg ((tw j d c i h f e)).toArray] (λG=>DT G d c i h f e j) (λG v=>v=.bool r)):=.mk λhr {d c i h f e}=>by
 refine J' (args:=[_]) (N:=96) func116 z z z (λJ C au K=>?_);obtain⟨k,p,m⟩:=K;refine sr<|jO 1 z z z λu=>dE z<|nr<|Γ (G5 z)<|Γ (n' 1 oa z z z)<|Γ (P' BS k z)<|Μ z<|WC.nD hr [1,3] [1] (λ(_:Unit)=>⟨[],QD j,tr,[]⟩) ?_ ?_
 .refine sr<|η z<|Ð hr z (uu z z) z (λal hr=>?_) (λal hr=>?_)
  .refine η z<|fh z<|Β z<|η z<|fh z<|Β z<|η z<|rb z<|Β z<|η z<|rb z<|Β z<|nx<|kC z<|sr<|Μ z<|m'<|a' (Å hr z z)
  refine η z<|gy z z (B9 z) z<|gy z z (n' 1 dN z z z) z<|Ð hr (C' z z) (Z' z z) z (λai hr=>?_) (λai hr=>?_)
  .refine ν z<|η z<|fh z<|Β z<|η z<|rb z<|Β z<|η z<|rb z<|Β z<|nx<|kC z<|sr<|Μ z<|m'<|a' (Å hr z z)
  refine ν z<|η z<|gy z z (B9 z) z<|gy z z (n' 1 dN z z z) z<|Ð hr (C' z z) (uu z z) z (λam hr=>?_) (λam hr=>?_)
  .refine ν z<|η z<|rb z<|Β z<|η z<|rb z<|Β z<|nx<|kC z<|sr<|Μ z<|m'<|a' (Å hr z z)
  refine ν z<|η z<|gy z z (G4 z) z<|gy z z (n' 1 l1 z z z) z<|iO z<|gy z z (B9 z) z<|gy z z (n' 1 dN z z z) z<|oE hr λad Y hr=>H' (C' z z) z (x' Aa z) (Ww.h Y) z (p) ?_
  cases ad
  .refine gy z z (gS z) z<|ν z<|η z<|rb z<|Β z<|nx<|kC z<|sr<|Μ z<|m'<|a' (Å hr z z)
  refine gy z z (gS z) z<|ν z<|η z<|gy z z (GZ z) z<|gy z z (n' 1 l1 z z z) z<|iO z<|gy z z (B9 z) z<|gy z z (n' 1 dN z z z) z<|oE hr λar a hr=>H' (C' z z) z (x' Aa z) (Ww.h a) z (m)<|gy z z (gS z) z<|ν z<|nx<|iS hr z (λaj hr=>?_) (λaj hr=>?_)
  .refine sr<|Μ z<|m'<|a' (Å hr z z)
  refine q'<|pG ⟨C,()⟩ ⟨hr,mr,trivial⟩ (Ç z) (w1 z)
 intro E _ hr l _;refine o'<|sr<|Μ z<|WC.mD hr [1,3] [1] [1] [1] (λ(x:Int)=>⟨x,[(4,i' x)],tr,[]⟩) (λ(_:Unit)=>⟨(.inr ()),[],tr,[]⟩) 0 ?_ ?_
 .intro _ A x n _ hr;refine o'<|sr<|η z<|η z<|ku z<|nx<|I' hr z (λaf hr=>?_) (λaf hr=>?_)
  .refine q'<|b'<|o'<|Y'<|o'<|sr<|Μ z<|WC.mD hr [1,3,4] [1] [1,3,4] [1] (λ(F:Int)=>⟨F,[(5,i' F)],tr,[]⟩) (λ(_:Unit)=>⟨(.inr ()),[],tr,[]⟩) 0 ?_ ?_
   .intro _ L F s _ hr;refine o'<|sr<|η z<|η z<|ku z<|nx<|I' hr z (λak hr=>?_) (λak hr=>?_)
    .refine q'<|b'<|o'<|Y'<|o'<|fN [ff,ff,ff,ff,ff,ff,ff,ff,ff,ff] eP İ λZ=>cn (λ_ g=>G5 z)<|cn (λ_ g=>n' 1 oa z z z)<|fO z<|oE hr λx4 U hr=>cn (λ_ g=>ki BS yu ((k.mono (mx (mx l n) s)).mono g) z z U)<|cn (λ_ g=>nF Dg z (AtK.str (T' (T' (iN k U) (mx (mx l n) s)) g)))<|cn (λ_ g=>G5 z)<|cn (λ_ g=>n' 1 oa z z z)<|fO z<|oE hr λx5 W hr=>cn (λ_ g=>ki BS yu ((k.mono (mx (mx l n) s)).mono g) z z W)<|cn (λ_ g=>nF Dg z (AtK.str (T' (T' (iN k W) (mx (mx l n) s)) g)))<|pF Z<|Γ (Y0.uD xN z z)<|t'<|Κ<|b'<|I' hr z (λag hr=>?_) (λag hr=>?_)
     .refine sr<|Μ z<|m'<|g'<|a'<|a'<|g'<|jt<|a'<|g'<|a'<|a'<|g'<|jt<|a' (Å hr z z)
     refine q'<|E'<|b'<|w'<|η z<|iT z<|dE z<|t'<|N' ⟨L,i64.wrap (F+1)⟩ hr ⟨s,trivial⟩ (Ç z) (w1 z)
    refine nH<|p'<|p'<|K'<|oj ⟨L,()⟩ ⟨hr,s,trivial⟩ (Ç z) (w1 z)
   intro O _ hr I _;refine b'<|sr<|Γ (G5 z)<|Γ (n' 1 oa z z z)<|η z<|oE hr λx3 S hr=>Γ (ki BS yu (k.mono (mx (mx l n) I)) z z S)<|Γ (nF Dg z (AtK.str (T' (iN k S) (mx (mx l n) I))))<|oE hr λaq X hr=>H' z z (x' Iv z) (iZ'.h X) z (trivial)<|Γ (gS z)<|nx<|iS hr z (λae hr=>?_) (λae hr=>?_)
   .refine sr<|Μ z<|m'<|g'<|a'<|a'<|g'<|jt<|a' (Å hr z z)
   refine q'<|E'<|b'<|w'<|η z<|iT z<|dE z<|t'<|N' ⟨O,i64.wrap (x+1)⟩ hr ⟨(mx n I),trivial⟩ (Ç z) (w1 z)
  refine nH<|p'<|p'<|K'<|oj ⟨A,()⟩ ⟨hr,n,trivial⟩ (f1 z) (w1 z)
 intro D _ hr t _;refine b'<|o'<|sr<|Μ z<|WC.mD hr [1] [1] [] [] (λ(y:Int)=>⟨y,[(6,i' y)],tr,[]⟩) (λ(_:Unit)=>⟨(.inr ()),[],tr,[]⟩) 0 ?_ ?_
 .intro _ B y o _ hr;refine o'<|sr<|η z<|Γ (G4 z)<|Γ (n' 1 l1 z z z)<|Γ (P' vN (p.mono (mx (mx l t) o)) z)<|ku z<|nx<|I' hr z (λao hr=>?_) (λao hr=>?_)
  .refine q'<|b'<|o'<|Y'<|sr<|Μ z<|WC.mD hr [1,6] [1] [1,6] [1] (λ(H:Int)=>⟨H,[(7,i' H)],tr,[]⟩) (λ(_:Unit)=>⟨(.inr ()),[],tr,[]⟩) 0 ?_ ?_
   .intro _ M H q _ hr;refine o'<|sr<|η z<|Γ (GZ z)<|Γ (n' 1 l1 z z z)<|Γ (P' vN (m.mono (mx (mx (mx l t) o) q)) z)<|ku z<|nx<|I' hr z (λah hr=>?_) (λah hr=>?_)
    .refine q'<|b'<|o'<|Y'<|o'<|fN [ff,ff,ff,ff,ff,ff,ff,ff,ff,ff,ff,ff] eP İ λZ=>cn (λ_ g=>G4 z)<|cn (λ_ g=>n' 1 l1 z z z)<|fO z<|oE hr λx1 V hr=>cn (λ_ g=>ki vN oc ((p.mono (mx (mx (mx l t) o) q)).mono g) z z V)<|cn (λ_ g=>M0 z)<|cn (λ_ g=>nF dN z (zA (T' (T' (se (nT (iN p V))) (mx (mx (mx l t) o) q)) g)))<|cn (λ_ g=>GZ z)<|cn (λ_ g=>n' 1 l1 z z z)<|fO z<|oE hr λx2 T hr=>cn (λ_ g=>ki vN oc ((m.mono (mx (mx (mx l t) o) q)).mono g) z z T)<|cn (λ_ g=>M0 z)<|cn (λ_ g=>nF dN z (zA (T' (T' (se (nT (iN m T))) (mx (mx (mx l t) o) q)) g)))<|pF Z<|Γ (eB z z)<|t'<|Κ<|b'<|I' hr z (λan hr=>?_) (λan hr=>?_)
     .refine sr<|Μ z<|m'<|g'<|a'<|a'<|g'<|jt<|g'<|a'<|a'<|g'<|jt<|a' (Å hr z z)
     refine q'<|E'<|b'<|w'<|η z<|iT z<|dE z<|t'<|N' ⟨M,i64.wrap (H+1)⟩ hr ⟨q,trivial⟩ (Ç z) (w1 z)
    refine nH<|p'<|p'<|K'<|oj ⟨M,()⟩ ⟨hr,q,trivial⟩ (Ç z) (w1 z)
   intro P _ hr R _;refine E'<|b'<|w'<|η z<|iT z<|dE z<|t'<|N' ⟨P,i64.wrap (y+1)⟩ hr ⟨(mx o R),trivial⟩ (Ç z) (w1 z)
  refine nH<|p'<|p'<|K'<|oj ⟨B,()⟩ ⟨hr,o,trivial⟩ fn (wk ln)
 intro Q _ hr ap _;refine b'<|sr<|Μ z<|m' (Å hr z z)
instance mg{E r}:SpcM ((FJ E)) r (∀{B y},Cr 117 #[δ B E y] (λG=>sl vS G B y E) (fS (Rp.sl c') r)):=.mk λhr {B y}=>by
 refine Ο ?_;intro Q P x p1 u _ S hr _;refine WC.mC (hH:=by exact⟨S,la⟩) hr [0] [] [] [] (λ(⟨c,g,d,f,D⟩:(Ŀ (Ŀ Za))×ŀ Addr×Nat×ŀ Ow×Int)=>⟨(c,D),[(3,δ g c d),(4,i' D)],λn=>sq n g d c/\Tok 1 50 (δ g c d) c.length f,[(1003,f)]⟩) (λ(⟨i,k,j,l⟩:(Ŀ (Ŀ Za))×ŀ Addr×Nat×ŀ Ow)=>⟨i,[(3,δ k i j)],λp=>sq p k j i/\Tok 1 50 (δ k i j) i.length l,[(1003,l)]⟩) ⟨[],p1,0,none,0⟩ ?_;rintro _ n ⟨c,g,d,f,D⟩ h ⟨s,o⟩ hr;refine Ο ?_;intro _ A _ _ _ _ _ _ _ _ _ q V hr _;refine oA hr λL hr=>jU (r:=(Rp.sl c')) 1003 z z jT jA z ĳ z z (s.mono q) z (by rw[x];rfl) o V L λp4 O M T C Z J=>dE z<|t'<|E'<|b'<|w'<|η z<|iT z<|dE z<|t'<|N' ⟨T,(c++[A.p]),p4,O,M,i64.wrap (D+1)⟩ hr ⟨(mx (mx h q) C),Z,J⟩ (Ç z) (w1 z)
instance ja'{Q r}:SpcM ((LC Q)) r (∀{m o C B p s},Cr 62 #[.agg ((tw Q m o C B p s)).toArray] (λG=>DT G m o C B p s Q) (l8 r)):=.mk λhr {m o C B p s}=>by
 refine é ?_;intro _ _ _ _ _ _ _ _ _ hr _;refine o' ?_;refine é ?_;intro _ hr _;refine iS hr z (λy hr=>?_) (λy hr=>?_)
 .exact Ι
 refine q'<|b'<|o'<|fN [ff,ff,ff,ff,ff,ff,ff,ff,ff,ff,ff,tt] eP İ λhb=>?_
 refine é ?_;intro K _ R hr _;refine oE hr λA X hr=>mo (f:=74) (φ:=l8 A) (λ_=>z) (λv n Z c h=>?_) (λu E c a=>?_) ?_
 .obtain⟨l,k,j,g,rfl,e,d⟩:=h;exact⟨_,_,_,_,z,e.mono c,d.mono c⟩
 .obtain⟨⟨O,P,V,t⟩,⟨L,M,U,x⟩,_⟩:=(show(fS (Rp.sl c') R) E.m (u 17)/\(fS (Rp.sl c') K) E.m (u 14)/\True from a);exact⟨_,_,_,λ_=>x' Yo z,gW'.h X,(by simp only[V,U]<;>rfl),⟨x,t⟩⟩
 refine γ.nq (kk:=18) (φ:=u6 A.1) İ (λ_=>z) (λv n Z c h=>?_) (λu E c a=>?_) ?_
 .obtain⟨p1,af,p2,q,rfl,S,T⟩:=h;exact⟨_,_,_,_,z,S.mono c,T.mono c⟩
 .obtain⟨⟨l,k,j,g,D,e,d⟩,_,_,_⟩:=(show(l8 A) E.m (u 18)/\True/\True/\True from a);exact⟨_,_,D,(by simp only[υ,D]<;>rfl),z,l,k,j,g,z,e,d⟩
 refine γ.tm (d0:=19) (post0:=u6 A.1) (d1:=18) (post1:=l8 A) (d2:=17) (post2:=fS (Rp.sl c') R) (d3:=14) (post3:=fS (Rp.sl c') K) (λY W am an ap N F I H J=>?_);obtain⟨p1,af,p2,q,rfl,S,T⟩:=F;obtain⟨l,k,j,g,rfl,e,d⟩:=I;obtain⟨O,P,rfl,t⟩:=H;obtain⟨L,M,rfl,x⟩:=J;refine kr z<|fY 2 tM z<|dE z<|t'<|Κ<|b'<|m' ?_
 obtain rfl:_=r:=hr;exact ur z (kL (i:=2) kz z z z) z ⟨_,_,_,_,z,S,T⟩
instance Wq{e r}:SpcM ((Bl e)) r (∀{g f d c j h n m},Cr 25 #[.agg ((pj e g f d c j h n m)).toArray] (λG=>sl tO G g f e.c.l/\sl (Rp.int .u8) G d c e.c.il/\sl (fV .i8 5) G j h e.p.t/\sl xX G n m e.l) (u6 r)):=.mk λhr {g f d c j h n m}=>Ι
instance jl'{r}:SpcM ((UA)) r (Cr 121 #[] (λG=>True) (fS (fV .i64 8) r)):=.mk λhr=>Ι
instance ot{r}:SpcM ((E4)) r (Cl 122 #[] [] (λG=>True) (λG L v=>∃m g c,L=[(7000,c)]/\v=δ m r g/\Ε (fV .i64 8) 71 G (δ m r g) r c)):=.mk λhr=>by
 refine rz (args:=[]) (N:=3) func122 z z z λn k h o=>sr<|dE z<|nr<|Γ (ma (vs:=#[(0,i' 1),(1,i' 1),(2,i' 1),(3,i' 1),(4,i' 1),(5,i' 1),(6,i' 1),(7,i' 1)]) (v:=.agg (Ø (ζ (ζ (ζ (ζ (ζ (ζ (ζ (ζ (λ_=>0) 0 1) 1 1) 2 1) 3 1) 4 1) 5 1) 6 1) 7 1)).toArray) z z (λ_=>İ))<|WL.sI (e:=71) (r:=(fV .i64 8)) (vs:=#[(0,.agg (Ø (ζ (ζ (ζ (ζ (ζ (ζ (ζ (ζ (λ_=>0) 0 1) 1 1) 2 1) 3 1) 4 1) 5 1) 6 1) 7 1)).toArray)]) (cs:=(Ø (ζ (ζ (ζ (ζ (ζ (ζ (ζ (ζ (λ_=>0) 0 1) 1 1) 2 1) 3 1) 4 1) 5 1) 6 1) 7 1))++([])) ([ζ (ζ (ζ (ζ (ζ (ζ (ζ (ζ (λ_=>0) 0 1) 1 1) 2 1) 3 1) 4 1) 5 1) 6 1) 7 1]:Ŀ (Fin 8->Int)) 4002 z z z z z ĳ (λ_=>İ) ⟨Ø (ζ (ζ (ζ (ζ (ζ (ζ (ζ (ζ (λ_=>0) 0 1) 1 1) 2 1) 3 1) 4 1) 5 1) 6 1) 7 1),[],z,z,z⟩ λp d l=>Μ z<|m' ?_
 obtain rfl:_=r:=hr;refine mT (S':=St n k k [(7000,d)]) ?_ ?_
 .intro w f;have f:=f.Þ (i:=4002) (j:=7000) z (by rw[h];rfl);exact f.weaken (lc z ln)
 exact j' z z ⟨_,_,_,z,z,l⟩
instance gL'{r}:SpcM ((ES)) r (Cr 123 #[] (λG=>True) (fS (fV .i64 8) r)):=.mk λhr=>by
 refine Ο ?_;intro K P g hr _;have a:=tS (w0:=K);refine oE hr λO M hr=>mU z z (x' zW z) (ot.h M) z (trivial) ln a (λp t m d s=>?_);obtain⟨I,H,B,rfl,rfl,F⟩:=s;refine mz (λw x=>x.Þ (i:=7000) (j:=4003) z (by rw[g];rfl))<|Μ z<|o'<|sr<|Μ z<|nG (X:=(Ŀ (Fin 8->Int))×ŀ Addr×Nat×ŀ Ow×Int×Mem) hr (λ⟨k,q,l,c,A,f⟩=>⟨(k,A),[(1,δ q k l),(2,i' A)],Mem.le t f/\Ε (fV .i64 8) 71 f (δ q k l) k c,St K P f [(4001,c)]⟩) (λ(⟨v,u,y,h,n⟩:(Ŀ (Fin 8->Int))×ŀ Addr×Nat×ŀ Ow×Mem)=>⟨v,[(1,δ u v y)],Mem.le t n/\Ε (fV .i64 8) 71 n (δ u v y) v h,St K P n [(4001,h)]⟩) ⟨O,I,H,B,7,t⟩ z (Ç z) ⟨mr,F⟩ ?_ ?_ ?_
 .intro w x;have x:=x.Þ (i:=4003) (j:=4001) z (by rw[g];rfl);exact x.weaken (lc z ln)
 .rintro _ ⟨k,q,l,c,A,f⟩ ⟨o,C⟩ hr;exact Ι
 rintro⟨v,u,y,h,n⟩ ⟨hr,W,R⟩;refine Ο ?_;intro hr;obtain rfl:_=r:=hr;refine uB (r:=(fV .i64 8)) (e:=71) 4001 R z (by rw[g];rfl) λD J Z E Y=>j' z z ⟨_,_,z,E⟩
instance jn'{c d r}:SpcM ((Vo c d)) r (Cr 209 #[.int .u8 c,i' d] (λG=>True) (λG v=>v=.bool r)):=.mk λhr=>Ι
instance im{i r}:SpcM ((Jy i)) r (Cr 124 #[.int .u8 i] (λG=>True) (fS (fV .i64 8) r)):=.mk λhr=>by
 refine Ο ?_;intro D k L q hr _;refine WC.mB hr [0,3] [] [3] [] (λ(⟨j,c⟩:Int×(Fin 8->Int))=>⟨(j,c),[(4,i' j)],tr,[(3,ü q (Ø c) 71)]⟩) (λ(d:(Fin 8->Int))=>⟨d,[],tr,[(3,ü q (Ø d) 71)]⟩) ⟨0,(λ_=>0)⟩ ?_;intro p d hr P _;refine b'<|o'<|fN [ff,ff,ff] eP İ λv=>cn (λ_ m=>y' 3 zH z z (U' _ _ _))<|γ.nt (r:=(fV .i64 8)) (e:=71) ([d]:Ŀ (Fin 8->Int)) (λ_=>z) z ĳ (λu U m E=>?_) ?_
 .exact⟨#[(0,.agg (Ø d).toArray)],(Ø d)++([]),z,z,λ_=>by kernel_rfl,⟨Ø d,[],z,z,z⟩⟩
 refine Ο ?_;intro _ hr _;refine γ.ny (λg V a T o n=>?_);obtain⟨y,B,rfl,l⟩:=o;refine WL.kO n (λZ Y R t C W=>?_);subst t;refine my (show WL _ _ _ _ _ _ (St D k a.m _)from ?_);refine oA hr λF hr=>GR (r:=(fV .i64 8)) (e:=71) 16 z z tI nY z ĳ z z C z l F λp1 s f M=>dE z<|t'<|Κ<|b'<|m' ?_
 obtain rfl:_=r:=hr;refine uB (r:=(fV .i64 8)) (e:=71) 16 M z (by rw[L];rfl) λaf h S H Q=>j' z z ⟨_,_,z,H⟩
instance hJ'{f r}:SpcM ((xw f)) r (Cr 66 #[.int .u8 f] (λG=>True) (fS (fV .i64 8) r)):=.mk λhr=>by
 refine é ?_;intro H n d hr _;have g:=tS (w0:=H);refine I' hr z (λL hr=>?_) (λL hr=>?_)
 .exact Ι
 refine sr<|Γ (eB z z)<|Μ z<|I' hr z (λF hr=>?_) (λF hr=>?_)
 .refine sr<|oE hr λt o hr=>mU z z (x' zW z) (ot.h o) z (trivial) ln g (λp v k U l=>?_)
  obtain⟨Y,Z,P,rfl,rfl,A⟩:=l;refine mz (λw a=>a.Þ (i:=7000) (j:=4010) z (by rw[d];rfl))<|pS (r:=(fV .i64 8)) (e:=71) 4010 A z (by rw[d];rfl) λq x R s Q=>Μ z<|m'<|g'<|a' ?_
  obtain rfl:_=r:=hr;exact j' z z ⟨_,_,z,s⟩
 refine WC.nD hr [0,4] [] (λ(c:Bool)=>⟨[(11,.bool c)],ET f c,tr,[]⟩) ?_ ?_
 .refine sr<|Γ (eB z z)<|Μ z<|I' hr z (λJ hr=>?_) (λJ hr=>?_)
  .exact Ι
  exact Ι
 intro m c hr M _;refine iS hr z (λC hr=>?_) (λC hr=>?_)
 .exact Ι
 refine sr<|Γ (eB z z)<|Μ z<|I' hr z (λE hr=>?_) (λE hr=>?_)
 .refine Ο ?_;intro _;refine nb (e:=71) (r:=(fV .i64 8)) (vs:=#[(0,.agg (Ø (ζ (ζ (ζ (ζ (ζ (ζ (ζ (ζ (λ_=>0) 0 2) 1 3) 2 1) 3 1) 4 1) 5 1) 6 1) 7 1)).toArray)]) (cs:=(Ø (ζ (ζ (ζ (ζ (ζ (ζ (ζ (ζ (λ_=>0) 0 2) 1 3) 2 1) 3 1) 4 1) 5 1) 6 1) 7 1))++([])) ([ζ (ζ (ζ (ζ (ζ (ζ (ζ (ζ (λ_=>0) 0 2) 1 3) 2 1) 3 1) 4 1) 5 1) 6 1) 7 1]:Ŀ (Fin 8->Int)) z z z z z ĳ (λ_=>İ) ⟨Ø (ζ (ζ (ζ (ζ (ζ (ζ (ζ (ζ (λ_=>0) 0 2) 1 3) 2 1) 3 1) 4 1) 5 1) 6 1) 7 1),[],z,z,z⟩ (key:=999) z (by rw[d];rfl) λp1 h S I=>?_;exact Ι
 refine Ο ?_;intro _ hr;refine nb (e:=71) (r:=(fV .i64 8)) (vs:=#[(0,.agg (Ø (ζ (ζ (ζ (ζ (ζ (ζ (ζ (ζ (λ_=>0) 0 1) 1 1) 2 0) 3 0) 4 0) 5 0) 6 0) 7 0)).toArray),(1,.agg (Ø (ζ (ζ (ζ (ζ (ζ (ζ (ζ (ζ (λ_=>0) 0 1) 1 0) 2 2) 3 1) 4 1) 5 1) 6 1) 7 1)).toArray)]) (cs:=(Ø (ζ (ζ (ζ (ζ (ζ (ζ (ζ (ζ (λ_=>0) 0 1) 1 1) 2 0) 3 0) 4 0) 5 0) 6 0) 7 0))++((Ø (ζ (ζ (ζ (ζ (ζ (ζ (ζ (ζ (λ_=>0) 0 1) 1 0) 2 2) 3 1) 4 1) 5 1) 6 1) 7 1))++([]))) ([ζ (ζ (ζ (ζ (ζ (ζ (ζ (ζ (λ_=>0) 0 1) 1 1) 2 0) 3 0) 4 0) 5 0) 6 0) 7 0,ζ (ζ (ζ (ζ (ζ (ζ (ζ (ζ (λ_=>0) 0 1) 1 0) 2 2) 3 1) 4 1) 5 1) 6 1) 7 1]:Ŀ (Fin 8->Int)) z z z z z ĳ (λ_=>İ) ⟨Ø (ζ (ζ (ζ (ζ (ζ (ζ (ζ (ζ (λ_=>0) 0 1) 1 1) 2 0) 3 0) 4 0) 5 0) 6 0) 7 0),(Ø (ζ (ζ (ζ (ζ (ζ (ζ (ζ (ζ (λ_=>0) 0 1) 1 0) 2 2) 3 1) 4 1) 5 1) 6 1) 7 1))++([]),z,z,⟨Ø (ζ (ζ (ζ (ζ (ζ (ζ (ζ (ζ (λ_=>0) 0 1) 1 0) 2 2) 3 1) 4 1) 5 1) 6 1) 7 1),[],z,z,z⟩⟩ (key:=999) z (by rw[d];rfl) λp2 u T K=>Μ z<|m'<|g'<|a' ?_
 obtain rfl:_=r:=hr;exact j' z z ⟨_,_,z,K⟩
instance gH'{c F r}:SpcM ((Bk c F)) r (∀{m k e d h g q p u x n o},Cr 26 #[.agg ((pj c m k e d h g q p)).toArray,.agg ((ñ F u x n o)).toArray] (λG=>sl tO G m k c.c.l/\sl (Rp.int .u8) G e d c.c.il/\sl (fV .i8 5) G h g c.p.t/\sl xX G q p c.l/\sq G u x F.eqs/\sq G n o F.ε) (λG v=>∃L P M Q,v=.agg ([i' r.kind,δ L r.p P,δ M r.o Q]).toArray/\sl c' G L P r.p/\sv G M Q r.o)):=.mk λhr {m k e d h g q p u x n o}=>by
 refine J' (args:=[_,_]) (N:=29) func26 z z z (λw0 W au Y=>?_);obtain⟨al,aa,K,an,ad,ab⟩:=Y;refine sr<|jO 2 z z z λb1=>jO 3 z z z λb2=>W' 4 z z54 z λb3=>nr<|Γ (Y0.YK z)<|Γ (n' 2 Df z z z)<|Γ (vT z z ĳ)<|Γ (pD GG Bx z)<|Γ (ma (vs:=#[(0,i' (i64.wrap (Int.tmod c.kind 12)))]) (v:=.agg ([i' (i64.wrap (Int.tmod c.kind 12)),.slice none 0 0,.slice none 0 0]).toArray) z z (λ_=>İ))<|W' 5 z z54 z λb4=>fY 5 od z<|nx<|WC.nD hr [2,4,5] [2,4] (λ(⟨f,j,l,t,s⟩:Zc×ŀ Addr×Nat×ŀ Addr×Nat)=>⟨[],EW c f,λy=>sl c' y j l f.p/\sv y t s f.o,[(5,ü b4 ([i' f.kind,δ j f.p l,δ t f.o s]) 54)]⟩) ?_ ?_
 .refine sr<|Γ (BK z)<|Γ (n' 5 dN z z z)<|oE hr λar R hr=>H' z z (x' Yi z) (gm'.h R) z (trivial)<|nx<|iS hr z (λa hr=>?_) (λa hr=>?_)
  .refine w'<|Γ (Y0.YL z)<|Γ (R' ([δ h c.p.t g]).toArray 2 BC z z z (jh ([.int .u8 c.fC,.int .u8 c.c.n,δ m c.c.l k,δ e c.c.il d,.int .u8 c.kind]) ([δ h c.p.t g]) ([.int .u8 c.o,δ q c.l p,i' c.id,i' c.Ζ])))<|Γ (rC z)<|Γ (n' 3 dN z z z)<|Γ (Y0.min2 z z)<|oE hr λO T hr=>gw z z (x' Yj z) (gF'.h T) z (K) (λap ai I B=>?_)
   obtain⟨D,E,rfl,S⟩:=B;exact Γ (GM z)<|rp 5 ([i' (i64.wrap (Int.tmod c.kind 12)),δ D O E,.slice none 0 0]).toArray z pK z z z (show 1<3 by decide) z z<|Ι
  exact Ι
 rintro y ⟨f,j,l,t,s⟩ hr ak ⟨A,H⟩;refine o'<|sr<|Γ (BK z)<|Γ (n' 5 dN z z z)<|Γ (eB z z)<|nx<|I' hr z (λaj hr=>?_) (λaj hr=>?_)
 .refine w'<|Γ (Y0.YM z)<|Γ (n' 2 Df z z z)<|oE hr λaf Z hr=>gw z z (x' Yk z) (hJ'.h Z) z (trivial) (λam aq J C=>?_)
  obtain⟨X,V,rfl,U⟩:=C;refine Γ (Wb z)<|rp 5 ([i' f.kind,δ j f.p l,δ X af V]).toArray z Dy z z z (show 2<3 by decide) z z<|nr<|Γ (y' 5 ng z z z)<|fY 4 od z<|nx<|m' ?_
  obtain rfl:_=r:=hr;exact j' z (kL (i:=4) ng z z z) ⟨_,_,_,_,z,(A.mono J),U⟩
 refine q'<|b'<|sr<|Γ (y' 5 ng z z z)<|fY 4 od z<|nx<|m' ?_
 obtain rfl:_=r:=hr;exact j' z (kL (i:=4) ng z z z) ⟨_,_,_,_,z,A,H⟩
instance jb'{L U x l p r}:SpcM ((LB L U x l p)) r (∀{H F},Cr 143 #[δ H L F,i' U,i' x,i' l,i' p] (λG=>sl tO G H F L) (fS (Rp.sl c') r)):=.mk λhr {H F}=>by
 refine Ο ?_;intro w0 Z I p1 E _ e hr _;refine WC.mC (hH:=by exact⟨e,la⟩) hr [0,1,2,3,4] [] [] [] (λ(⟨c,g,f,d,K⟩:(Ŀ (Ŀ Za))×ŀ Addr×Nat×ŀ Ow×Int)=>⟨(c,K),[(11,δ g c f),(12,i' K)],λo=>sq o g f c/\Tok 1 50 (δ g c f) c.length d,[(1011,d)]⟩) (λ(⟨i,k,j,m⟩:(Ŀ (Ŀ Za))×ŀ Addr×Nat×ŀ Ow)=>⟨i,[(11,δ k i j)],λA=>sq A k j i/\Tok 1 50 (δ k i j) i.length m,[(1011,m)]⟩) ⟨[],p1,0,none,0⟩ ?_;rintro _ o ⟨c,g,f,d,K⟩ h ⟨q,n⟩ hr;refine Ο ?_;intro _ _ _ _ _ _ _ _ _ _ _ t _ B _ _ _ _ _ y u hr _;refine oA hr λV hr=>jU (r:=(Rp.sl c')) 1011 z z jT jA z ĳ z z (q.mono (mx B y)) z (by rw[I];rfl) n u V λp3 Y R a J s Q=>dE z<|t'<|E'<|b'<|w'<|η z<|iT z<|dE z<|t'<|N' ⟨a,(c++[t]),p3,Y,R,i64.wrap (K+1)⟩ hr ⟨(mx (mx (mx h B) y) J),s,Q⟩ (Ç z) (w1 z)
instance gI'{I L V r}:SpcM ((xx I L V)) r (∀{E C},Cr 144 #[δ E I C,i' L,i' V] (λG=>sq G E C I) (fS (Rp.sl c') r)):=.mk λhr {E C}=>by
 refine Ο ?_;intro w0 G0 o p1 y _ A hr _;refine WC.mC (hH:=by exact⟨A,la⟩) hr [0,1,2] [] [] [] (λ(⟨c,h,f,g,B⟩:(Ŀ (Ŀ Za))×ŀ Addr×Nat×ŀ Ow×Int)=>⟨(c,B),[(7,δ h c f),(8,i' B)],λq=>sq q h f c/\Tok 1 50 (δ h c f) c.length g,[(1007,g)]⟩) (λ(⟨i,k,j,m⟩:(Ŀ (Ŀ Za))×ŀ Addr×Nat×ŀ Ow)=>⟨i,[(7,δ k i j)],λv=>sq v k j i/\Tok 1 50 (δ k i j) i.length m,[(1007,m)]⟩) ⟨[],p1,0,none,0⟩ ?_;rintro _ q ⟨c,h,f,g,B⟩ d ⟨p,n⟩ hr;refine o'<|sr<|η z<|η z<|ku z<|nx<|I' hr z (λK hr=>?_) (λK hr=>?_)
 .refine é ?_;intro hr;refine I' hr z (λs hr=>?_) (λs hr=>?_)
  .refine Ο ?_;intro _ _ x _ _ _ t J hr;refine oA hr λW hr=>jU (r:=(Rp.sl c')) 1007 z z jT jA z ĳ z z (p.mono (mx x t)) z (by rw[o];rfl) n J W λp4 Z Q af F N R=>dE z<|t'<|E'<|b'<|w'<|η z<|iT z<|dE z<|t'<|N' ⟨af,(c++[[]]),p4,Z,Q,i64.wrap (B+1)⟩ hr ⟨(mx (mx (mx d x) t) F),N,R⟩ (Ç z) (w1 z)
  refine Ο ?_;intro D _ _ _ _ _ _ _ _ _ u a hr _;refine oA hr λS hr=>jU (r:=(Rp.sl c')) 1007 z z jT jA z ĳ z z (p.mono u) z (by rw[o];rfl) n a S λp7 l U e H Y O=>dE z<|t'<|E'<|b'<|w'<|η z<|iT z<|dE z<|t'<|N' ⟨e,(c++[D]),p7,l,U,i64.wrap (B+1)⟩ hr ⟨(mx (mx d u) H),Y,O⟩ (Ç z) (w1 z)
 exact Ι
instance Wn{g i r}:SpcM ((tY g i)) r (∀{e d},Cr 145 #[δ e g d,i' i] (λG=>sl (Rp.int .i8) G e d g) (λG v=>v=i' r)):=.mk λhr {e d}=>by
 refine J' (args:=[_,_]) (N:=16) func145 z z z (λm o l h=>?_);have c:=h;refine sr<|Μ z<|o'<|sr<|η z<|Γ (P' Nb c z)<|Γ (eB z z)<|nx<|I' hr z (λk hr=>?_) (λk hr=>?_)
 .refine sr<|Μ z<|m'<|a' (Å hr z z)
 refine q'<|b'<|sr<|η z<|η z<|η z<|Γ (P' Nb c z)<|oA hr λj hr=>Γ (vT z z j)<|oE hr λn f hr=>Γ (ki Nb te c z z f)<|Γ (nF sU z (zA (iN c f)))<|Γ (pD V9 Bx z)<|Μ z<|m' (Å hr z z)
instance hK'{H r}:SpcM ((xv H)) r (Cr 220 #[.agg ((DM H)).toArray] (λG=>True) (er r)):=.mk λhr=>by
 refine J' (args:=[_]) (N:=49) func220 z z z λw0 G0 t k=>sr<|jO 1 z z z λQ=>W' 2 z rE z λW=>nx<|o'<|fN [ff,ff,ff,ff,ff,ff,ff,ff,ff,ff] eP İ λE=>cn (λ_ c=>Y0.ZzH z) ?_
 refine é ?_;intro u _ _ hr _;refine lr (λ_=>z) vP<|lr (λ_=>z) vP<|Wo (λv x y B a D M n K C=>?_)
 obtain⟨p,q,rfl,l⟩:=K;obtain⟨m,f,rfl,j⟩:=C;refine vV M (λX g h=>?_);subst g;replace n:=GU n ĳ h;refine vV n (λO i s=>?_);subst i;refine my (show WL _ _ _ _ _ _ (St w0 G0 a.m _)from ?_);refine fY 3 vM z<|fY 4 vM z<|t'<|Κ<|b'<|WC.nA hr [1,2,3,4] [1,2,3] (λ(⟨o,d,e⟩:Zg×ŀ Addr×Nat)=>⟨[],QH H u o,λA=>su A d e o.χ,[(4,ü X (θ o d e) 118)]⟩)
instance jm'{v1 k1 r}:SpcM ((Mk v1 k1)) r (∀{aq am},Cr 146 #[δ aq v1 am,i' k1] (λG=>sl (Rp.int .i8) G aq am v1) (λG v=>∃zk zu,v=.agg (zk).toArray/\Ê iD 8 G zk zu r)):=.mk λhr {aq am}=>by
 refine Ο ?_;intro w0 M _ a d hr _;refine nG (X:=Int×(Ŀ Zl)×Ŀ Value×Unit×Mem) hr (λ⟨i2,ar,ai,af,ap⟩=>⟨(i2,ar),[(0,δ aq v1 am),(1,i' k1),(4,iJ a),(5,iJ d),(6,i' i2)],Mem.le M ap/\Ê iD 8 ap ai af ar,St w0 M ap [(4,ü a (jz) 225),(5,ü d (ai) 225)]⟩) (λ(⟨aB,al,az,N⟩:(Ŀ Zl)×Ŀ Value×Unit×Mem)=>⟨aB,[(0,δ aq v1 am),(1,i' k1),(4,iJ a),(5,iJ d)],Mem.le M N/\Ê iD 8 N al az aB,St w0 M N [(4,ü a (jz) 225),(5,ü d (al) 225)]⟩) ⟨0,(List.replicate 8 (Zl.mk (Zf.mk (Zg.mk false []) (Zg.mk false [])) (Zf.mk (Zg.mk false []) (Zg.mk false [])))),jz,(),M⟩ z (Ç z) ⟨mr,(show Ê iD 8 M jz () _ from zM (G:=M) (r:=iD) (n:=8) (zc:=[.bool false,.slice none 0 0,.bool false,.slice none 0 0,.bool false,.slice none 0 0,.bool false,.slice none 0 0]) (z:=(Zl.mk (Zf.mk (Zg.mk false []) (Zg.mk false [])) (Zf.mk (Zg.mk false []) (Zg.mk false [])))) ⟨[.bool false,.slice none 0 0,.bool false,.slice none 0 0],[.bool false,.slice none 0 0,.bool false,.slice none 0 0],z,⟨[.bool false,.slice none 0 0],[.bool false,.slice none 0 0],z,⟨[.bool false],[.slice none 0 0],z,z,⟨_,z,(X' _ _)⟩⟩,⟨[.bool false],[.slice none 0 0],z,z,⟨_,z,(X' _ _)⟩⟩⟩,⟨[.bool false,.slice none 0 0],[.bool false,.slice none 0 0],z,⟨[.bool false],[.slice none 0 0],z,z,⟨_,z,(X' _ _)⟩⟩,⟨[.bool false],[.slice none 0 0],z,z,⟨_,z,(X' _ _)⟩⟩⟩⟩)⟩ (w2 z z) ?_ ?_
 .rintro _ ⟨i2,ar,ai,af,ap⟩ ⟨aC,aw⟩ hr;refine o'<|sr<|η z<|ku z<|nx<|I' hr z (λa8 hr=>?_) (λa8 hr=>?_)
  .refine Ο ?_;intro D _ _ aj k t A y ae ah H ba P q B s x ac ag hr _;refine oE hr λx2 aR hr=>Γ (rD zN kg z z (rG (aw.mono (mx aj P)) aR))<|Ca (cs':=[.bool D.num.neg,δ k D.num.χ t,.bool D.den.neg,δ A D.den.χ y,.bool H.num.neg,δ q H.num.χ B,.bool H.den.neg,δ s H.den.χ x]) (z':=(Zl.mk D H)) 5 z kg z ĳ (aw.mono (mx aj P)) z z z z ⟨(Υ D k t A y),(Υ H q B s x),z,⟨(θ D.num k t),(θ D.den A y),z,⟨[.bool D.num.neg],[δ k D.num.χ t],z,z,⟨_,z,(ae.mono P)⟩⟩,⟨[.bool D.den.neg],[δ A D.den.χ y],z,z,⟨_,z,(ah.mono P)⟩⟩⟩,⟨(θ H.num q B),(θ H.den s x),z,⟨[.bool H.num.neg],[δ q H.num.χ B],z,z,⟨_,z,ac⟩⟩,⟨[.bool H.den.neg],[δ s H.den.χ x],z,z,⟨_,z,ag⟩⟩⟩⟩ aR λd2 bc=>t'<|E' ?_
   refine é ?_;intro hr;refine N' ⟨i64.wrap (i2+1),ar.set i2.toNat (Zl.mk D H),d2,af,ba⟩ hr ⟨(mx (mx aC aj) P),bc⟩ (Ç z) (w2 z z)
  refine nH<|p'<|p'<|K'<|oj ⟨ar,ai,af,ap⟩ ⟨hr,aC,aw⟩ (Ç z) (w2 z z)
 rintro⟨aB,al,az,N⟩ ⟨hr,aA,aZ⟩;refine b'<|o'<|sr<|Μ z<|nG (X:=Int×(Ŀ Zl)×Ŀ Value×Unit×Mem) hr (λ⟨i1,au,ad,ak,ao⟩=>⟨(i1,au),[(0,δ aq v1 am),(1,i' k1),(4,iJ a),(5,iJ d),(7,i' i1)],Mem.le N ao/\Ê iD 8 ao ad ak au,St w0 M ao [(4,ü a (jz) 225),(5,ü d (ad) 225)]⟩) (λ(⟨aN,ax,aO,ab⟩:(Ŀ Zl)×Ŀ Value×Unit×Mem)=>⟨aN,[(4,iJ a),(5,iJ d)],Mem.le N ab/\Ê iD 8 ab ax aO aN,St w0 M ab [(4,ü a (jz) 225),(5,ü d (ax) 225)]⟩) ⟨0,aB,al,az,N⟩ z (Ç z) ⟨mr,aZ⟩ (w2 z z) ?_ ?_
 .rintro _ ⟨i1,au,ad,ak,ao⟩ ⟨W,ay⟩ hr;refine o'<|sr<|η z<|ku z<|nx<|I' hr z (λa6 hr=>?_) (λa6 hr=>?_)
  .refine Ο ?_;intro aT hr _;refine Γ (ma (vs:=#[(0,.int .i8 (i8.wrap aT)),(1,.int .i8 3)]) (v:=.agg ([.int .i8 (i8.wrap aT),.int .i8 3,.int .u8 0]).toArray) z z (λ_=>İ))<|oE hr λE a1 hr=>gw z z (x' IB z) (hK'.h a1) z (trivial) (λbl bq Y aI=>?_)
   obtain⟨l,o,m,p,rfl,U,R⟩:=aI;refine W' 8 z rE z λb3=>fY 8 ke z<|nx<|fN [tt,ff,ff,ff,ff,ff,ff,ff,ff,ff,ff] eP İ λhb=>uA z (k' z) ?_
   refine é ?_;intro aS hr _;refine cn (λ_ F=>ma (vs:=#[(0,.int .i8 (i8.wrap (i64.wrap (BitVec.ofInt i64.bits aS &&& BitVec.ofInt i64.bits 7).toNat))),(1,.int .i8 2)]) (v:=.agg ([.int .i8 (i8.wrap (i64.wrap (BitVec.ofInt i64.bits aS &&& BitVec.ofInt i64.bits 7).toNat)),.int .i8 2,.int .u8 0]).toArray) z z (λ_=>İ)) ?_;refine é ?_;intro aJ hr _;refine oE hr λC a2 hr=>mo (f:=205) (φ:=er C) (λ_=>z) (λv G1 G2 F h=>?_) (λu G' F hu=>?_) ?_
   .obtain⟨j,c,e,g,rfl,K,L⟩:=h;exact⟨_,_,_,_,z,K.mono F,L.mono F⟩
   .obtain⟨⟨T,S,Q,O,aP,I,J⟩,_⟩:=(show(er aJ) G'.m (u 40)/\True from hu);exact⟨_,_,_,λ_=>x' Iw z,gX'.h a2,(by simp only[aP]<;>rfl),⟨(U.mono F),(R.mono F),I,J⟩⟩
   refine Ο ?_;intro a9 V j c e g K L _ _ _ _ _ _ hr;refine oE hr λx1 aU hr=>Γ (rD zN kg z z (rG (ay.mono (mx Y V)) aU))<|Ca (cs':=[.bool E.num.neg,δ l E.num.χ o,.bool E.den.neg,δ m E.den.χ p,.bool C.num.neg,δ j C.num.χ c,.bool C.den.neg,δ e C.den.χ g]) (z':=(Zl.mk E C)) 5 z kg z ĳ (ay.mono (mx Y V)) z z z z ⟨(Υ E l o m p),(Υ C j c e g),z,⟨(θ E.num l o),(θ E.den m p),z,⟨[.bool E.num.neg],[δ l E.num.χ o],z,z,⟨_,z,(U.mono V)⟩⟩,⟨[.bool E.den.neg],[δ m E.den.χ p],z,z,⟨_,z,(R.mono V)⟩⟩⟩,⟨(θ C.num j c),(θ C.den e g),z,⟨[.bool C.num.neg],[δ j C.num.χ c],z,z,⟨_,z,K⟩⟩,⟨[.bool C.den.neg],[δ e C.den.χ g],z,z,⟨_,z,L⟩⟩⟩⟩ aU λd1 a7=>t'<|Κ ?_
   refine é ?_;intro hr;refine N' ⟨i64.wrap (i1+1),au.set i1.toNat (Zl.mk E C),d1,ak,a9⟩ hr ⟨(mx (mx W Y) V),a7⟩ (Ç z) (w2 z z)
  refine nH<|p'<|p'<|K'<|oj ⟨au,ad,ak,ao⟩ ⟨hr,W,ay⟩ (Ç z) (w2 z z)
 rintro⟨aN,ax,aO,ab⟩ ⟨hr,bd,Z⟩;refine b'<|sr<|Γ (y' 5 mR z z (lM Z))<|A' 4 z l5 z z z (lM (show Ê iD 8 ab jz () _ from zM (G:=ab) (r:=iD) (n:=8) (zc:=[.bool false,.slice none 0 0,.bool false,.slice none 0 0,.bool false,.slice none 0 0,.bool false,.slice none 0 0]) (z:=(Zl.mk (Zf.mk (Zg.mk false []) (Zg.mk false [])) (Zf.mk (Zg.mk false []) (Zg.mk false [])))) ⟨[.bool false,.slice none 0 0,.bool false,.slice none 0 0],[.bool false,.slice none 0 0,.bool false,.slice none 0 0],z,⟨[.bool false,.slice none 0 0],[.bool false,.slice none 0 0],z,⟨[.bool false],[.slice none 0 0],z,z,⟨_,z,(X' _ _)⟩⟩,⟨[.bool false],[.slice none 0 0],z,z,⟨_,z,(X' _ _)⟩⟩⟩,⟨[.bool false,.slice none 0 0],[.bool false,.slice none 0 0],z,⟨[.bool false],[.slice none 0 0],z,z,⟨_,z,(X' _ _)⟩⟩,⟨[.bool false],[.slice none 0 0],z,z,⟨_,z,(X' _ _)⟩⟩⟩⟩)) (lM Z) (Ê.one Z)<|nx<|m' ?_
 obtain rfl:_=r:=hr;exact j' z (kL (i:=4) mR z z (lM Z)) ⟨_,_,z,Z⟩
set_option maxHeartbeats 2000000 in
instance hM'{g r}:SpcM ((El g)) r (∀{U S Q T},Cr 81 #[.agg ((DK g U S Q T)).toArray] (λG=>sl tO G U S g.l/\sl (Rp.int .i8) G Q T g.v) (OI r)):=.mk λhr {U S Q T}=>by
 refine J' (args:=[_]) (N:=122) func81 z z z (λw0 G0 b0 cv=>?_);obtain⟨bu,O⟩:=cv;refine sr<|jO 1 z z z λb1=>W' 2 z HX z λb2=>nr<|Γ (Y0.ZzE z)<|Γ (n' 1 yn z z z)<|oE hr λbi ci hr=>gw z z (x' Ih z) (jb'.h ci) z (bu) (λc7 db av bo=>?_)
 obtain⟨bD,bw,rfl,a9⟩:=bo;refine dE z<|nr<|Γ (Y0.ZzD z)<|Γ (n' 1 Df z z z)<|Γ (vT z z ĳ)<|Γ (pD GG Bx z)<|iT z<|Γ (ma (vs:=#[(0,i' (i64.wrap (1+(i64.wrap (Int.tmod g.kind 13)))))]) (v:=.agg ([i' (i64.wrap (1+(i64.wrap (Int.tmod g.kind 13)))),.slice none 0 0,i' 0,i' 0,i' 0,.slice none 0 0,.slice none 0 0,.slice none 0 0,.slice none 0 0]).toArray) z z (λ_=>İ))<|W' 4 z HX z λb3=>fY 4 tg z<|nx<|o'<|fN [ff,ff,ff,ff,ff,ff,ff,ff,ff] eP İ λhb=>?_
 refine é ?_;intro aM hr _;refine oE hr λX bX hr=>kq (φ:=λG v=>∃p1 ax,v=.pointer (some ⟨pb p1,po p1+(0:Int).toNat*1,none⟩)/\sq G p1 ax aM) (λ_=>z) (λv G1 G2 j h=>?_) (λu G' j a=>?_) ?_
 .obtain⟨p1,ax,rfl,bh⟩:=h;exact⟨_,_,z,bh.mono j⟩
 .obtain⟨⟨a8,a5,bJ,aI⟩,_⟩:=(show(fS (Rp.sl c') aM) G'.m (u 18)/\True from a);simp only[υ,bJ];exact⟨_,ki jT pK aI z z bX,a8,a5,z,aI⟩
 refine kq (φ:=fS c' X) (λ_=>z) (λv G1 G2 j h=>?_) (λu G' j a=>?_) ?_
 .obtain⟨p4,bz,rfl,be⟩:=h;exact⟨_,_,z,be.mono j⟩
 .obtain⟨⟨p1,ax,bL,bh⟩,_,_⟩:=(show(λG v=>∃p1 ax,v=.pointer (some ⟨pb p1,po p1+(0:Int).toNat*1,none⟩)/\sq G p1 ax aM) G'.m (u 19)/\True/\True from a);obtain⟨p3,cH,cC,cO⟩:=xV (iN bh bX);simp only[υ,bL];exact⟨_,nF ry z (cC),p3,cH,z,cO⟩
 refine cu (λ_ _ j=>Ws z)<|cu (λ_ _ j=>n' 1 sT z z z)<|oE hr λq cr hr=>γ.vQ (f:=145) (c:=i' q) (λ_=>z) (λu G' j a=>?_) ?_
 .obtain⟨_,_,_,_⟩:=(show True/\True/\True/\True from a);exact⟨_,_,_,λ_=>x' zZ z,Wn.h cr,z,((O.mono av).mono j)⟩
 refine cu (λ_ _ j=>Y0.and z z)<|kq (φ:=fS c' X) (λ_=>z) (λv G1 G2 j h=>?_) (λu G' j a=>?_) ?_
 .obtain⟨p5,ad,rfl,a2⟩:=h;exact⟨_,_,z,a2.mono j⟩
 .obtain⟨⟨p4,bz,bH,be⟩,_,_,_⟩:=(show(fS c' X) G'.m (u 20)/\True/\True/\True from a);simp only[υ,bH];exact⟨_,rB z,p4,bz,z,be⟩
 refine γ.tm (d0:=5) (post0:=fS c' X) (d1:=20) (post1:=fS c' X) (d2:=19) (post2:=λG v=>∃p1 ax,v=.pointer (some ⟨pb p1,po p1+(0:Int).toNat*1,none⟩)/\sq G p1 ax aM) (d3:=18) (post3:=fS (Rp.sl c') aM) (λc2 c4 c3 c5 bd V bm bp bs bt=>?_);obtain⟨p5,ad,rfl,a2⟩:=bm;obtain⟨p4,bz,rfl,be⟩:=bp;obtain⟨p1,ax,rfl,bh⟩:=bs;obtain⟨a8,a5,rfl,aI⟩:=bt;refine dE z<|t'<|Κ<|b'<|o'<|sr<|Γ (zC z)<|Γ (n' 4 dN z z z)<|nx<|Y'<|WC.nD hr [1,2,3,4,5,6,26] [1,2,4] (λ(aW:Bool)=>⟨[(27,.bool aW)],w7 g bi X q aW,tr,[]⟩) ?_ ?_
 .refine sr<|Γ (eB z z)<|Μ z<|I' hr z (λcl hr=>?_) (λcl hr=>?_)
  .exact Ι
  refine sr<|Γ (eB z z)<|Μ z<|I' hr z (λcc hr=>?_) (λcc hr=>?_)
  .exact Ι
  exact Ι
 intro aO aW hr C _;refine iS hr z (λcV hr=>?_) (λcV hr=>?_)
 .refine Ο ?_;intro hr;obtain rfl:_=r:=hr;exact j' z (kL (i:=2) nU z z z) ⟨_,_,_,_,_,_,_,_,_,_,z,(a2.mono C),(X' (fV .i64 8) _),(X' (Rp.sl c') _),(X' (Rp.int .i64) _),(X' (Rp.arr iD 8) _)⟩
 refine sr<|Γ (eB z z)<|Μ z<|I' hr z (λcL hr=>?_) (λcL hr=>?_)
 .refine Ο ?_;intro _ _ _ _ _ _ _ _ cy _ _ bK _ _ ch hr _;obtain rfl:_=r:=hr;exact j' z (kL (i:=2) nU z z z) ⟨_,_,_,_,_,_,_,_,_,_,z,(X' c' _),(cy.mono bK),ch,(X' (Rp.int .i64) _),(X' (Rp.arr iD 8) _)⟩
 refine sr<|Γ (eB z z)<|Μ z<|I' hr z (λcP hr=>?_) (λcP hr=>?_)
 .refine Ο ?_;intro _ hr _;obtain rfl:_=r:=hr;exact j' z (kL (i:=2) nU z z z) ⟨_,_,_,_,_,_,_,_,_,_,z,(X' c' _),(X' (fV .i64 8) _),(X' (Rp.sl c') _),(X' (Rp.int .i64) _),(X' (Rp.arr iD 8) _)⟩
 refine sr<|Γ (eB z z)<|Μ z<|I' hr z (λcJ hr=>?_) (λcJ hr=>?_)
 .refine Ο ?_;intro hr;obtain rfl:_=r:=hr;exact j' z (kL (i:=2) nU z z z) ⟨_,_,_,_,_,_,_,_,_,_,z,(X' c' _),(X' (fV .i64 8) _),(X' (Rp.sl c') _),(X' (Rp.int .i64) _),(X' (Rp.arr iD 8) _)⟩
 refine WC.nD hr [1,2,3,4,5,6,26] [1,2,4] (λ(aV:Bool)=>⟨[(69,.bool aV)],Jf g bi X q aV,tr,[]⟩) ?_ ?_
 .refine sr<|Γ (eB z z)<|Μ z<|I' hr z (λco hr=>?_) (λco hr=>?_)
  .exact Ι
  exact Ι
 intro aN aV hr ai _;refine iS hr z (λcS hr=>?_) (λcS hr=>?_)
 .refine o'<|sr<|Μ z<|WC.mD (hH:=by exact⟨(X' _ _),(X' _ _),(X' _ _),(X' _ _),la,(X' _ _),la⟩) hr [1,2,4,5,6] [1,2] [2,4,5] [2] (λ(⟨aF,m,af,Z,Y,K,L,M,I,y,A,H,B,x,t,E,D,R,s,ar,al,ap⟩:Int×Int×(Ŀ Za)×ŀ Addr×Nat×Int×Int×Int×(Ŀ (Fin 8->Int))×ŀ Addr×Nat×(Ŀ (Ŀ Za))×ŀ Addr×Nat×(Ŀ Int)×ŀ Addr×Nat×ŀ Ow×(Ŀ (Ŀ Zl))×ŀ Addr×Nat×ŀ Ow)=>⟨(aF,m,af,K,L,M,I,H,t,s),[(7,i' aF)],λaj=>sl c' aj Z Y af/\sv aj y A I/\sq aj B x H/\sl (Rp.int .i64) aj E D t/\Tok 1 3 (δ E t D) t.length R/\sl (Rp.arr iD 8) aj ar al s/\Tok 64 225 (δ ar s al) s.length ap,[(4,ü b3 ([i' m,δ Z af Y,i' K,i' L,i' M,δ y I A,δ B H x,δ E t D,δ ar s al]) 89),(310047,R),(310048,ap)]⟩) (λ(⟨W,aT,aR,aU,aQ,aY,aZ,aJ,az,aB,aG,aA,aC,ag,am,ao,aE,ah,aq,ak,aD⟩:Int×(Ŀ Za)×ŀ Addr×Nat×Int×Int×Int×(Ŀ (Fin 8->Int))×ŀ Addr×Nat×(Ŀ (Ŀ Za))×ŀ Addr×Nat×(Ŀ Int)×ŀ Addr×Nat×ŀ Ow×(Ŀ (Ŀ Zl))×ŀ Addr×Nat×ŀ Ow)=>⟨(W,aT,aQ,aY,aZ,aJ,aG,ag,ah),[],λaw=>sl c' aw aR aU aT/\sv aw az aB aJ/\sq aw aA aC aG/\sl (Rp.int .i64) aw am ao ag/\Tok 1 3 (δ am ag ao) ag.length aE/\sl (Rp.arr iD 8) aw aq ak ah/\Tok 64 225 (δ aq ah ak) ah.length aD,[(4,ü b3 ([i' W,δ aR aT aU,i' aQ,i' aY,i' aZ,δ az aJ aB,δ aA aG aC,δ am ag ao,δ aq ah ak]) 89),(310047,aE),(310048,aD)]⟩) ⟨0,i64.wrap (1+(i64.wrap (Int.tmod g.kind 13))),[],none,0,0,0,0,[],none,0,[],none,0,[],none,0,none,[],none,0,none⟩ ?_ ?_
  .rintro _ aj ⟨aF,m,af,Z,Y,K,L,M,I,y,A,H,B,x,t,E,D,R,s,ar,al,ap⟩ ab ⟨bl,aP,aX,aS,aH,bj,a1⟩ hr;refine o' ?_;refine é ?_;intro hr;refine I' hr z (λcG hr=>?_) (λcG hr=>?_)
   .refine q'<|b'<|o'<|Y'<|o'<|fN [ff,ff,ff,ff,ff,ff,ff] eP İ λhb=>cn (λ_ j=>zF z)<|cn (λ_ j=>n' 4 q9 z z z) ?_
    refine é ?_;intro J hr _;refine tN (r:=(Rp.arr iD 8)) (e:=225) ([J]:Ŀ (Ŀ Zl)) (λ_=>z) z ĳ (λu G' j a=>?_) ?_
    .obtain⟨⟨k,F,bv,an⟩,_⟩:=(show(λG v=>∃k F,v=.agg (k).toArray/\Ê iD 8 G k F J) G'.m (u 83)/\True from a);simp only[υ,bv];exact⟨#[(0,.agg (k).toArray)],k++([]),z,z,wi (n:=64) (lM an) (λ_=>(λ_=>İ)),⟨k,[],z,an,z⟩⟩
    refine GP (d:=84) (post:=λG v=>∃p6 bZ,v=.slice p6 1 1/\jy (Rp.arr iD 8) G (.slice p6 1 1) bZ [J]) (d':=83) (post':=λG v=>∃k F,v=.agg (k).toArray/\Ê iD 8 G k F J) (λcW cZ da o a6 a7=>?_);obtain⟨p6,bZ,rfl,cD⟩:=a6;obtain⟨k,F,rfl,an⟩:=a7;refine oA hr λb9 hr=>jU (r:=(Rp.arr iD 8)) 310048 z z ux B0 z ĳ z z (bj.mono o) z (by rw[b0];rfl) a1 cD b9 λp7 a3 bx cI p b4 bA=>Γ (zF z)<|rp 4 ([i' m,δ Z af Y,i' K,i' L,i' M,δ y I A,δ B H x,δ E t D,.slice p7 (s++[J]).length a3]).toArray z DA z z z (show 8<9 by decide) z z<|t' ?_
    refine é ?_;intro hr;refine I' hr z (λcM hr=>?_) (λcM hr=>?_)
    .refine WC.pU (Bt:=λ_=>True) (l:=iu [0,1,2,3,4,5,6,7,8,9,10,12,11,13,14,15] _) (Fx İ) (λ_ _ _ _ _=>trivial) [tt,ff,ff,ff,ff,ff,ff,ff,ff,ff,ff,tt] eP İ λhb=>uA z (k' z)<|cn (λ_ j=>BR z)<|cn (λ_ j=>n' 4 sX z z z)<|cn (λ_ j=>Ws z)<|cn (λ_ j=>n' 1 sT z z z)<|fO z ?_
     obtain⟨ae,bQ,hr⟩:=hr;have N1:=mx (mx (mx (mx (mx (mx av V) C) ai) ab) o) p;refine uy z (λ_=>x' zZ z) (Wn.h bQ) z (λG' j=>((O.mono N1).mono j))<|cn (λ_ j=>Y0.and z z)<|cn (λ_ j=>vT z z ĳ)<|cn (λ_ j=>GI z z)<|tN (r:=(Rp.int .i64)) (e:=3) ([i64.wrap ((Int.tmod (i64.wrap (BitVec.ofInt i64.bits ae &&& BitVec.ofInt i64.bits 127).toNat) 3)-1)]:Ŀ Int) (λ_=>z) z ĳ (λu G' j a=>?_) ?_
     .exact⟨#[(0,i' (i64.wrap ((Int.tmod (i64.wrap (BitVec.ofInt i64.bits ae &&& BitVec.ofInt i64.bits 127).toNat) 3)-1)))],[i' (i64.wrap ((Int.tmod (i64.wrap (BitVec.ofInt i64.bits ae &&& BitVec.ofInt i64.bits 127).toNat) 3)-1))]++([]),z,z,λ_=>by kernel_rfl,⟨[i' (i64.wrap ((Int.tmod (i64.wrap (BitVec.ofInt i64.bits ae &&& BitVec.ofInt i64.bits 127).toNat) 3)-1))],[],z,z,z⟩⟩
     refine γ.sC (λ_=>z) (λ_=>GK z)<|BI (d:=100) (post:=λG v=>∃p8 b6,v=.slice p8 1 1/\jy (Rp.int .i64) G (.slice p8 1 1) b6 [i64.wrap ((Int.tmod (i64.wrap (BitVec.ofInt i64.bits ae &&& BitVec.ofInt i64.bits 127).toNat) 3)-1)]) (λcX dc aa ba=>?_)
     obtain⟨p8,b6,rfl,cA⟩:=ba;obtain⟨cm,hr⟩:=hr;have N2:=mx (mx o p) aa;refine jU (r:=(Rp.int .i64)) 310047 z z zz M5 z ĳ z z (aS.mono N2) z (by rw[b0];rfl) aH cA cm λp9 b5 cb b7 P cF ck=>rp 4 ([i' m,δ p5 X ad,i' K,i' L,i' M,δ y I A,δ B H x,δ E t D,.slice p7 (s++[J]).length a3]).toArray z pK z z z (show 1<9 by decide) z z<|Γ (BR z)<|rp 4 ([i' m,δ p5 X ad,i' K,i' L,i' M,δ y I A,δ B H x,.slice p9 (t++[i64.wrap ((Int.tmod (i64.wrap (BitVec.ofInt i64.bits ae &&& BitVec.ofInt i64.bits 127).toNat) 3)-1)]).length b5,.slice p7 (s++[J]).length a3]).toArray z Dx z z z (show 7<9 by decide) z z<|t'<|Κ<|E' ?_
     refine é ?_;intro hr;refine N' ⟨b7,i64.wrap (aF+1),m,X,p5,ad,K,L,M,I,y,A,H,B,x,(t++[i64.wrap ((Int.tmod (i64.wrap (BitVec.ofInt i64.bits ae &&& BitVec.ofInt i64.bits 127).toNat) 3)-1)]),p9,b5,cb,(s++[J]),p7,a3,bx⟩ hr ⟨(mx (mx (mx (mx ab o) p) aa) P),(a2.mono (mx (mx (mx (mx (mx (mx C ai) ab) o) p) aa) P)),(aP.mono (mx N2 P)),(aX.mono (mx N2 P)),cF,ck,(b4.mono (mx aa P)),bA⟩ (Ç z) (w5 z z z z z)
    refine Ο ?_;intro hr;refine N' ⟨cI,i64.wrap (aF+1),m,af,Z,Y,K,L,M,I,y,A,H,B,x,t,E,D,R,(s++[J]),p7,a3,bx⟩ hr ⟨(mx (mx ab o) p),(bl.mono (mx o p)),(aP.mono (mx o p)),(aX.mono (mx o p)),(aS.mono (mx o p)),aH,b4,bA⟩ (Ç z) (w5 z z z z z)
   refine nH<|p'<|p'<|K'<|oj ⟨aj,m,af,Z,Y,K,L,M,I,y,A,H,B,x,t,E,D,R,s,ar,al,ap⟩ ⟨hr,ab,bl,aP,aX,aS,aH,bj,a1⟩ (Ç z) (w4 z z z z)
  rintro aw ⟨W,aT,aR,aU,aQ,aY,aZ,aJ,az,aB,aG,aA,aC,ag,am,ao,aE,ah,aq,ak,aD⟩ hr bG ⟨bN,bf,bk,bg,cT,bc,cE⟩;refine é ?_;intro hr;refine I' hr z (λcN hr=>?_) (λcN hr=>?_)
  .refine Ο ?_;intro hr;obtain rfl:_=r:=hr;exact j' z (kL (i:=2) nU z z z) ⟨_,_,_,_,_,_,_,_,_,_,z,(a2.mono (mx (mx C ai) bG)),bf,bk,bg,bc⟩
  refine Ο ?_;intro hr;obtain rfl:_=r:=hr;exact j' z (kL (i:=2) nU z z z) ⟨_,_,_,_,_,_,_,_,_,_,z,bN,bf,bk,bg,bc⟩
 refine sr<|Γ (eB z z)<|Μ z<|I' hr z (λcK hr=>?_) (λcK hr=>?_)
 .refine Ο ?_;intro _ _ _ _ _ bP hr _;obtain rfl:_=r:=hr;exact j' z (kL (i:=2) nU z z z) ⟨_,_,_,_,_,_,_,_,_,_,z,(X' c' _),(X' (fV .i64 8) _),bP,(X' (Rp.int .i64) _),(X' (Rp.arr iD 8) _)⟩
 refine o'<|sr<|Γ (eB z z)<|Μ z<|I' hr z (λcp hr=>?_) (λcp hr=>?_)
 .refine q'<|b'<|I' hr z (λce hr=>?_) (λce hr=>?_)
  .refine Ο ?_;intro hr;obtain rfl:_=r:=hr;exact j' z (kL (i:=2) nU z z z) ⟨_,_,_,_,_,_,_,_,_,_,z,(X' c' _),(X' (fV .i64 8) _),(X' (Rp.sl c') _),(X' (Rp.int .i64) _),(X' (Rp.arr iD 8) _)⟩
  refine Ο ?_;intro hr;obtain rfl:_=r:=hr;exact j' z (kL (i:=2) nU z z z) ⟨_,_,_,_,_,_,_,_,_,_,z,(X' c' _),(X' (fV .i64 8) _),(X' (Rp.sl c') _),(X' (Rp.int .i64) _),(X' (Rp.arr iD 8) _)⟩
 refine w'<|Γ (eB z z)<|Μ z<|I' hr z (λcx hr=>?_) (λcx hr=>?_)
 .refine Ο ?_;intro hr;obtain rfl:_=r:=hr;exact j' z (kL (i:=2) nU z z z) ⟨_,_,_,_,_,_,_,_,_,_,z,(X' c' _),(X' (fV .i64 8) _),(X' (Rp.sl c') _),(X' (Rp.int .i64) _),(X' (Rp.arr iD 8) _)⟩
 refine Ο ?_;intro hr;obtain rfl:_=r:=hr;exact j' z (kL (i:=2) nU z z z) ⟨_,_,_,_,_,_,_,_,_,_,z,(X' c' _),(X' (fV .i64 8) _),(X' (Rp.sl c') _),(X' (Rp.int .i64) _),(X' (Rp.arr iD 8) _)⟩
instance gq'{I r}:SpcM ((AO I)) r (∀{A B p q y C K F},Cr 35 #[.agg ((pj I A B p q y C K F)).toArray] (λG=>sl tO G A B I.c.l/\sl (Rp.int .u8) G p q I.c.il/\sl (fV .i8 5) G y C I.p.t/\sl xX G K F I.l) (fS r9 r)):=.mk λhr {A B p q y C K F}=>by
 refine Ο ?_;intro w0 G0 _ T _ _ _ _ _ b1 p1 U _ av hr _;refine WC.mC (hH:=by exact⟨av,la⟩) hr [1] [1] [] [] (λ(⟨x,t,u,s,a⟩:(Ŀ Zj)×ŀ Addr×Nat×ŀ Ow×Int)=>⟨(x,a),[(3,δ t x u),(4,i' a)],λv=>sl r9 v t u x/\Tok 9 89 (δ t x u) x.length s,[(1003,s)]⟩) (λ(⟨S,M,O,J⟩:(Ŀ Zj)×ŀ Addr×Nat×ŀ Ow)=>⟨S,[(3,δ M S O)],λQ=>sl r9 Q M O S/\Tok 9 89 (δ M S O) S.length J,[(1003,J)]⟩) ⟨[],p1,0,none,0⟩ ?_;rintro _ v ⟨x,t,u,s,a⟩ m ⟨V,E⟩ hr;refine Ο ?_;intro _ _ _ _ _ _ _ _ _ _ _ _ _ _ _ ai hr al;refine oE hr λc aj hr=>gw z z (x' Yq z) (hM'.h aj) z (⟨ai,al⟩) (λaI aM L R=>?_);obtain⟨o,n,l,k,j,i,h,g,d,f,rfl,Z,D,W,H,Y⟩:=R;refine nb (e:=89) (r:=r9) (vs:=#[(0,.agg ((ka c o n l k j i h g d f)).toArray)]) (cs:=(ka c o n l k j i h g d f)++([])) ([c]:Ŀ Zj) z z z z z ĳ (λ_=>İ) ⟨(ka c o n l k j i h g d f),[],z,⟨[i' c.kind],[δ o c.p n,i' c.n,i' c.d,i' c.r,δ l c.o k,δ j c.l i,δ h c.s g,δ d c.b f],z,z,⟨[δ o c.p n],[i' c.n,i' c.d,i' c.r,δ l c.o k,δ j c.l i,δ h c.s g,δ d c.b f],z,⟨_,z,Z⟩,⟨[i' c.n],[i' c.d,i' c.r,δ l c.o k,δ j c.l i,δ h c.s g,δ d c.b f],z,z,⟨[i' c.d],[i' c.r,δ l c.o k,δ j c.l i,δ h c.s g,δ d c.b f],z,z,⟨[i' c.r],[δ l c.o k,δ j c.l i,δ h c.s g,δ d c.b f],z,z,⟨[δ l c.o k],[δ j c.l i,δ h c.s g,δ d c.b f],z,⟨_,z,D⟩,⟨[δ j c.l i],[δ h c.s g,δ d c.b f],z,⟨_,z,W⟩,⟨[δ h c.s g],[δ d c.b f],z,⟨_,z,H⟩,⟨_,z,Y⟩⟩⟩⟩⟩⟩⟩⟩⟩,z⟩ (key:=999) z (by rw[T];rfl) (λp2 aN P ax=>?_);refine oA hr λX hr=>jU (r:=r9) 1003 z z MR M7 z ĳ z z (V.mono (mx L P)) z (by rw[T];rfl) E ax X λp3 ar af an N aw ah=>dE z<|t'<|E'<|b'<|w'<|η z<|iT z<|dE z<|t'<|N' ⟨an,(x++[c]),p3,ar,af,i64.wrap (a+1)⟩ hr ⟨(mx (mx (mx m L) P) N),aw,ah⟩ (Ç z) (w2 z z)
instance mf{b1 a r}:SpcM ((KM b1 a)) r (∀{aw ao Z i I K Y N av aq},Cr 12 #[.agg ((fZ b1 aw ao)).toArray,.agg ((pj a Z i I K Y N av aq)).toArray] (λG=>sl gg G aw ao b1.t/\sl tO G Z i a.c.l/\sl (Rp.int .u8) G I K a.c.il/\sl (fV .i8 5) G Y N a.p.t/\sl xX G av aq a.l) (É r)):=.mk λhr {aw ao Z i I K Y N av aq}=>by
 refine é ?_;intro w0 G0 _ _ _ M _ P _ A R _ _ _ hr V;refine o' ?_;refine é ?_;intro hr;refine I' hr z (λa0 hr=>?_) (λa0 hr=>?_)
 .refine sr<|Γ (y' 3 uv z z z)<|oE hr λbh aK hr=>gw z z (x' OU z) (Wq.h aK) z (⟨P,A,R,V⟩) (λbe bg p ad=>?_)
  obtain⟨aS,aT,aG,aO,rfl,J,F⟩:=ad;refine W' 7 z rM z λb5=>fY 7 tM z<|nx<|o'<|fN [ff,ff,ff,ff,ff,ff,ff,ff,tt,tt,ff] eP İ λhb=>cn (λ_ d=>y' 2 lC z z z) ?_
  refine é ?_;intro q hr _;refine oE hr λt aP hr=>mo (f:=27) (φ:=É t) (λ_=>z) (λv U W d h=>?_) (λu l d m=>?_) ?_
  .obtain⟨x,B,rfl,o⟩:=h;exact⟨_,_,z,o.mono d⟩
  .obtain⟨⟨e,j,k,g,aB,E,D⟩,_⟩:=(show(λG v=>∃e j k g,v=.agg ([i' q.kind,δ e q.p j,δ k q.o g]).toArray/\sl c' G e j q.p/\sv G k g q.o) l.m (u 24)/\True from m);exact⟨_,_,_,λ_=>x' Ae z,B7.h aP,(by simp only[aB]<;>rfl),⟨((M.mono p).mono d),(J.mono d),(F.mono d),E,D⟩⟩
  refine kq (φ:=É t) (λ_=>z) (λv U W d h=>?_) (λu l d m=>?_) ?_
  .obtain⟨p1,T,rfl,L⟩:=h;exact⟨_,_,z,L.mono d⟩
  .obtain⟨⟨x,B,aC,o⟩,_,_⟩:=(show(É t) l.m (u 25)/\True/\True from m);simp only[υ,aC];exact⟨_,k' z,x,B,z,o⟩
  refine kq (φ:=kK t.1) (λ_=>z) (λv U W d h=>?_) (λu l d m=>?_) ?_
  .obtain⟨p2,aX,rfl,ap⟩:=h;exact⟨_,_,z,ap.mono d⟩
  .obtain⟨⟨p1,T,s,L⟩,_,_,_⟩:=(show(É t) l.m (u 19)/\True/\True/\True from m);simp only[υ,s];exact⟨_,O' z z,p1,T,z,L⟩
  refine nh (c:=i' t.2.1) (λ_=>z) (λu l d m=>?_) ?_
  .obtain⟨_,⟨p1,T,s,L⟩,_,_,_⟩:=(show True/\(É t) l.m (u 19)/\True/\True/\True from m);simp only[υ,s];exact O' z z
  refine nh (c:=i' t.2.2) (λ_=>z) (λu l d m=>?_) ?_
  .obtain⟨_,⟨p1,T,s,L⟩,_,_,_⟩:=(show True/\(É t) l.m (u 19)/\True/\True/\True from m);simp only[υ,s];exact O' z z
  refine lr (λ_=>z) z26<|x0 (λbi a5 bb a6 bc X1 aN au ag ae aj ak=>?_)
  obtain⟨b6,rfl,aI⟩:=au;obtain⟨p2,aX,rfl,ap⟩:=ag;obtain⟨p1,T,rfl,L⟩:=ae;obtain⟨x,B,rfl,o⟩:=aj;obtain⟨e,j,k,g,rfl,E,D⟩:=ak;refine pT aI (my (show WL _ _ _ _ _ _ (St w0 G0 X1.m _)from ?_));exact Ι
 refine q'<|b'<|o'<|fN [ff,ff,ff,ff,ff,ff,ff,ff,ff,ff,tt,ff] eP İ λhb=>?_
 refine é ?_;intro aE hr _;refine oE hr λH aQ hr=>mo (f:=36) (φ:=jq H) (λ_=>z) (λv U W d h=>?_) (λu l d m=>?_) ?_
 .obtain⟨y,C,rfl,n⟩:=h;exact⟨_,_,z,n.mono d⟩
 .obtain⟨⟨ar,am,aD,Q⟩,_⟩:=(show(fS r9 aE) l.m (u 42)/\True from m);exact⟨_,_,_,λ_=>x' I6 z,MY.h aQ,(by simp only[aD]<;>rfl),⟨(M.mono d),Q⟩⟩
 refine kq (φ:=jq H) (λ_=>z) (λv U W d h=>?_) (λu l d m=>?_) ?_
 .obtain⟨p3,X,rfl,S⟩:=h;exact⟨_,_,z,S.mono d⟩
 .obtain⟨⟨y,C,aA,n⟩,_,_⟩:=(show(jq H) l.m (u 45)/\True/\True from m);simp only[υ,aA];exact⟨_,k' z,y,C,z,n⟩
 refine kq (φ:=kK H.1) (λ_=>z) (λv U W d h=>?_) (λu l d m=>?_) ?_
 .obtain⟨p4,aU,rfl,an⟩:=h;exact⟨_,_,z,an.mono d⟩
 .obtain⟨⟨p3,X,O,S⟩,_,_,_⟩:=(show(jq H) l.m (u 37)/\True/\True/\True from m);simp only[υ,O];exact⟨_,O' z z,p3,X,z,S⟩
 refine nh (c:=i' H.2) (λ_=>z) (λu l d m=>?_) ?_
 .obtain⟨_,⟨p3,X,O,S⟩,_,_,_⟩:=(show True/\(jq H) l.m (u 37)/\True/\True/\True from m);simp only[υ,O];exact O' z z
 refine lr (λ_=>z) z26<|x0 (λbj bd a3 ba a4 X2 aM ax ah af al ac=>?_)
 obtain⟨b7,rfl,aH⟩:=ax;obtain⟨p4,aU,rfl,an⟩:=ah;obtain⟨p3,X,rfl,S⟩:=af;obtain⟨y,C,rfl,n⟩:=al;obtain⟨ar,am,rfl,Q⟩:=ac;refine pT aH (my (show WL _ _ _ _ _ _ (St w0 G0 X2.m _)from ?_));exact Ι
instance hN'{Z W r}:SpcM ((LG Z W)) r (∀{S R},Cr 20 #[.agg ((fZ Z S R)).toArray,i' W] (λG=>sl gg G S R Z.t) (λG v=>∃J E x u P O K L,v=.tuple #[.agg ((fz r.1 J E x u P O K L)).toArray,.bool r.2]/\sq G J E r.1.k.eqs/\sq G x u r.1.k.ε/\sl c' G P O r.1.q.p/\sv G K L r.1.q.o)):=.mk λhr {S R}=>by refine Ο ?_;intro w0 V _ i a hr _;refine WC.mA hr [1,2,4] [2] [4] [] (λ(⟨g,q,e,f,c,d,m,j,n,k⟩:Int×Zd×ŀ Addr×Nat×ŀ Addr×Nat×ŀ Addr×Nat×ŀ Addr×Nat)=>⟨(g,q),[(6,i' g)],λs=>sq s e f q.k.eqs/\sq s c d q.k.ε/\sl c' s m j q.q.p/\sv s n k q.q.o,[(4,ü a (fz q e f c d m j n k) 56)]⟩) (λ(⟨B,p,o,l,h,C,A,y,F⟩:Zd×ŀ Addr×Nat×ŀ Addr×Nat×ŀ Addr×Nat×ŀ Addr×Nat)=>⟨(.inr B),[],λI=>sq I p o B.k.eqs/\sq I l h B.k.ε/\sl c' I C A B.q.p/\sv I y F B.q.o,[(4,ü a (fz B p o l h C A y F) 56)]⟩) ⟨0,(Zd.mk 0 (Zb.mk 0 [] []) (Zc.mk 0 [] []) 0 0 0 false),none,0,none,0,none,0,none,0⟩
instance Wx{k n r}:SpcM ((FW k n)) r (∀{i h},Cr 162 #[δ i k h,i' n] (λG=>sq G i h k) (λG v=>v=.bool r)):=.mk λhr {i h}=>by refine Ο ?_;intro s f _ hr _;refine WC.mA hr [0,1] [] [] [] (λ(j:Int)=>⟨j,[(5,i' j)],tr,[]⟩) (λ(_:Unit)=>⟨(.inr ()),[],tr,[]⟩) 0
instance Nd{c r}:SpcM ((FH c)) r (Cr 163 #[i' c] (λG=>True) (λG v=>v=.bool r)):=.mk λhr=>Ι
instance ic'{k r}:SpcM ((JW k)) r (∀{i e h f d c j g},Cr 237 #[.agg ((wH k i e h f d c j g)).toArray] (λG=>su G i e k.lo.num.χ/\su G h f k.lo.den.χ/\su G d c k.hi.num.χ/\su G j g k.hi.den.χ) (λG v=>v=.bool r)):=.mk λhr {i e h f d c j g}=>Ι
instance Wy{u r}:SpcM ((vy u)) r (∀{i f j g},Cr 238 #[.agg ((Υ u i f j g)).toArray] (λG=>su G i f u.num.χ/\su G j g u.den.χ) (λG v=>v=.bool r)):=.mk λhr {i f j g}=>Ι
instance lu{x E r}:SpcM ((FG x E)) r (∀{p n},Cr 164 #[δ p x n,i' E] (λG=>sl (Rp.arr iD 8) G p n x) (λG v=>v=.bool r)):=.mk λhr {p n}=>by
 refine J' (args:=[_,_]) (N:=55) func164 z z z (λP s aw af=>?_);have e:=af;refine sr<|Μ z<|o'<|sr<|η z<|Γ (P' ux e z)<|Γ (uu z z)<|nx<|I' hr z (λar hr=>?_) (λar hr=>?_)
 .exact (show False from hr).elim
 refine q'<|b'<|o'<|sr<|Μ z<|WC.mD hr [0,1] [] [] [] (λ(u:Int)=>⟨u,[(5,i' u)],tr,[]⟩) (λ(_:Unit)=>⟨(.inr ()),[],tr,[]⟩) 0 ?_ ?_
 .intro _ f u d _ hr;refine o'<|sr<|η z<|η z<|Γ (P' ux (e.mono d) z)<|ku z<|nx<|I' hr z (λan hr=>?_) (λan hr=>?_)
  .refine q'<|b'<|o'<|Y'<|sr<|Μ z<|WC.mD hr [0,1,5] [] [0,1,5] [] (λ(y:Int)=>⟨y,[(6,i' y)],tr,[]⟩) (λ(_:Unit)=>⟨(.inr ()),[],tr,[]⟩) 0 ?_ ?_
   .intro _ k y c _ hr;refine o'<|sr<|η z<|ku z<|nx<|I' hr z (λaq hr=>?_) (λaq hr=>?_)
    .refine q'<|b'<|o'<|Y'<|sr<|η z<|η z<|η z<|oE hr λx1 B hr=>Γ (ki ux l5 (e.mono (mx d c)) z z B)<|oE hr λx2 T hr=>Γ (uF zN kg z z (uG (iN e B) T)) ?_
     obtain⟨L,F,K,I,H,O,J,M,ao,h,j,i,g⟩:=Pp (T' (AtK.arr (iN e B) T) (mx d c));refine Γ (nf _ r7 z z ao)<|oE hr λal ah hr=>H' z z (x' IE z) (ic'.h ah) z (⟨h,j,i,g⟩) ?_
     cases al
     .refine Γ (gS z)<|η z<|lG z<|î (M' z z) z<|î (M' z z) z<|î (M' z z) z<|î (M' z z) z<|î (M' z z) z<|î (M' z z) z<|î (M' z z) z<|î (M' z z) z<|î (M' z z) z<|î (M' z z) z<|î (M' z z) z<|î (M' z z) z<|î (M' z z) z<|î (M' z z) z<|î (M' z z) z<|î (M' z z) z<|î (M' z z) z<|î (M' z z) z<|î (M' z z) z<|î (M' z z) z<|sf z z z<|Β z<|nx<|kC z<|sr<|Μ z<|m'<|g'<|a'<|a'<|g'<|jt<|g'<|a'<|a'<|g'<|jt<|a' (Å hr z z)
     refine Γ (gS z)<|η z<|iO z<|iO z<|Ð hr (C' z z) (uz z z) z (λap hr=>?_) (λap hr=>?_)
     .refine iO z<|iO z<|iO z<|iO z<|oE hr λx3 A hr=>gy z z (ki ux l5 (e.mono (mx d c)) z z A) z<|oE hr λx4 a hr=>gy z z (uF zN kg z z (uG (iN e A) a)) z<|gy z z (eV' z) z ?_
      obtain⟨V,ac,S,W,ai,l,m⟩:=pH (T' (se (nT (AtK.arr (iN e A) a))) (mx d c));refine gy z z (nf _ mn z z ai) z<|oE hr λaj X hr=>H' (C' z z) z (x' Ac z) (Wy.h X) z (⟨l,m⟩) ?_
      cases aj
      .refine gy z z (gS z) z<|iO z<|XR z<|gy z z (h' z z) z<|gy z z (h' z z) z<|ν z<|nx<|kC z<|sr<|Μ z<|m'<|g'<|a'<|a'<|g'<|jt<|g'<|a'<|a'<|g'<|jt<|a' (Å hr z z)
      refine gy z z (gS z) z<|iO z<|iO z<|iO z<|iO z<|oE hr λx5 C hr=>gy z z (ki ux l5 (e.mono (mx d c)) z z C) z<|oE hr λx6 Y hr=>gy z z (uF zN kg z z (uG (iN e C) Y)) z<|gy z z (eW' z) z ?_
      obtain⟨ab,U,R,Z,ak,o,q⟩:=pH (T' (xP (nT (AtK.arr (iN e C) Y))) (mx d c));refine gy z z (nf _ mn z z ak) z<|oE hr λav ae hr=>H' (C' z z) z (x' Ac z) (Wy.h ae) z (⟨o,q⟩)<|gy z z (gS z) z<|gy z z (f' z z) z<|gy z z (h' z z) z<|ν z<|nx<|iS hr z (λam hr=>?_) (λam hr=>?_)
      .refine sr<|Μ z<|m'<|g'<|a'<|a'<|g'<|jt<|g'<|a'<|a'<|g'<|jt<|a' (Å hr z z)
      refine q'<|E'<|b'<|w'<|η z<|iT z<|dE z<|t'<|N' ⟨k,i64.wrap (y+1)⟩ hr ⟨c,trivial⟩ (Ç z) (wk ln)
     refine iO z<|XR z<|sk z z z<|î (M' z z) z<|î (M' z z) z<|î (M' z z) z<|î (M' z z) z<|î (M' z z) z<|î (M' z z) z<|î (M' z z) z<|î (M' z z) z<|î (M' z z) z<|sk z z z<|gy z z (f' z z) z<|ν z<|nx<|qO z<|q'<|E'<|b'<|w'<|η z<|iT z<|dE z<|t'<|N' ⟨k,i64.wrap (y+1)⟩ hr ⟨c,trivial⟩ (Ç z) (wk ln)
    refine nH<|p'<|p'<|K'<|oj ⟨k,()⟩ ⟨hr,c,trivial⟩ (Ç z) (wk ln)
   intro t _ hr Q _;refine E'<|b'<|w'<|η z<|iT z<|dE z<|t'<|N' ⟨t,i64.wrap (u+1)⟩ hr ⟨(mx d Q),trivial⟩ (Ç z) (wk ln)
  refine nH<|p'<|p'<|K'<|oj ⟨f,()⟩ ⟨hr,d,trivial⟩ fn (wk ln)
 intro D _ hr au _;refine b'<|sr<|Μ z<|m' (Å hr z z)
instance iS'{k r}:SpcM ((Lf k)) r (∀{i h},Cr 165 #[δ i k h] (λG=>sl (Rp.int .i64) G i h k) (λG v=>v=.bool r)):=.mk λhr {i h}=>by refine Ο ?_;intro p f _ hr _;refine WC.mA hr [0] [] [] [] (λ(j:Int)=>⟨j,[(3,i' j)],tr,[]⟩) (λ(_:Unit)=>⟨(.inr ()),[],tr,[]⟩) 0
set_option maxHeartbeats 2000000 in
instance iT'{l c r}:SpcM ((FF l c)) r (∀{j k i h t s n u y q o x p m},Cr 92 #[.agg ((ñ l j k i h)).toArray,.agg ((ka c t s n u y q o x p m)).toArray] (λG=>sq G j k l.eqs/\sq G i h l.ε/\sl c' G t s c.p/\sv G n u c.o/\sq G y q c.l/\sl (Rp.int .i64) G o x c.s/\sl (Rp.arr iD 8) G p m c.b) (λG v=>v=.bool r)):=.mk λhr {j k i h t s n u y q o x p m}=>by
 refine J' (args:=[_,_]) (N:=314) func92 z z z (λX O bA a0=>?_);obtain⟨R,L,M,P,B,E,C⟩:=a0;refine sr<|jO 2 z z z λT=>jO 3 z z z λQ=>Μ z<|o'<|sr<|Γ (y' 2 kz z z z)<|oE hr λbB az hr=>H' z z (x' Ys z) (gz'.h az) z (⟨R,L⟩)<|Γ (gS z)<|nx<|iS hr z (λbt hr=>?_) (λbt hr=>?_)
 .exact (show False from hr).elim
 refine q'<|b'<|o'<|fN [ff,ff,ff,ff,ff,ff,ff,ff,ff,ff,ff,ff,ff,ff,ff,ff,ff,ff,ff,ff,ff,ff,ff,ff] eP İ λhb=>cn (λ_ d=>GK z)<|cn (λ_ d=>n' 3 ry z z z)<|cn (λ_ d=>P' Q' (M.mono d) z)<|cn (λ_ d=>eB z z)<|cn (λ_ d=>BW z)<|cn (λ_ d=>n' 3 jY z z z)<|cn (λ_ d=>P' jT (B.mono d) z)<|cn (λ_ d=>eB z z)<|cn (λ_ d=>Wj z)<|cn (λ_ d=>n' 3 sY z z z)<|cn (λ_ d=>P' tI (P.mono d) z)<|cn (λ_ d=>eB z z)<|cn (λ_ d=>BR z)<|cn (λ_ d=>n' 3 sX z z z)<|cn (λ_ d=>P' zz (E.mono d) z)<|cn (λ_ d=>eB z z)<|cn (λ_ d=>zF z)<|cn (λ_ d=>n' 3 q9 z z z)<|cn (λ_ d=>P' ux (C.mono d) z)<|cn (λ_ d=>eB z z)<|cn (λ_ d=>rB z)<|cn (λ_ d=>rB z)<|cn (λ_ d=>rB z)<|cn (λ_ d=>rB z)<|pF hb<|dE z<|t'<|Κ<|b'<|WC.nD hr [2,3,5,6,7,8,9] [2,3] (λ(A:Bool)=>⟨[(10,.bool A)],wV l c A,tr,[]⟩) ?_ ?_
 .refine w'<|Γ (zD z)<|Γ (n' 3 dN z z z)<|Ð hr z (eB z z) z (λap hr=>?_) (λap hr=>?_)
  .refine η z<|gy z z (xQ z) z<|gy z z (n' 3 dN z z z) z<|Ð hr (C' z z) (eB z z) z (λaV hr=>?_) (λaV hr=>?_)
   .refine Β z<|η z<|gy z z (zI z) z<|gy z z (n' 3 dN z z z) z<|gy z z (eB z z) z<|Β z<|dE z<|t'<|pG ⟨O,decide (c.r=0)⟩ ⟨hr,mr,trivial⟩ (Ç z) (w2 z z)
   refine Β z<|η z<|fh z<|ν z<|dE z<|t'<|pG ⟨O,false⟩ ⟨hr,mr,trivial⟩ (Ç z) (w2 z z)
  refine η z<|fh z<|ν z<|η z<|fh z<|ν z<|dE z<|t'<|pG ⟨O,false⟩ ⟨hr,mr,trivial⟩ (Ç z) (w2 z z)
 intro F A hr e _;refine sr<|Γ (GK z)<|Γ (n' 3 ry z z z)<|Γ (rC z)<|Γ (n' 2 dN z z z)<|oE hr λS aA hr=>H' z z (x' z1 z) (Wv.h aA) z ((M.mono e))<|Μ z<|o'<|sr<|Γ (zC z)<|Γ (n' 3 dN z z z)<|nx<|Y'<|WC.nD hr [2,3,5,6,7,8,9,10,11,54] [2,3] (λ(K:Bool)=>⟨[(55,.bool K)],AF l c A S K,tr,[]⟩) ?_ ?_
 .refine sr<|Γ (eB z z)<|Μ z<|I' hr z (λaL hr=>?_) (λaL hr=>?_)
  .refine q'<|pG ⟨F,decide (c.kind=1)⟩ ⟨hr,mr,trivial⟩ (f11 z z z z z z z z z z z) (w2 z z)
  refine sr<|Γ (eB z z)<|Μ z<|I' hr z (λaH hr=>?_) (λaH hr=>?_)
  .refine q'<|pG ⟨F,decide (c.kind=2)⟩ ⟨hr,mr,trivial⟩ (f11 z z z z z z z z z z z) (w2 z z)
  refine w'<|Γ (eB z z)<|dE z<|t'<|pG ⟨F,decide (c.kind=10)⟩ ⟨hr,mr,trivial⟩ (f11 z z z z z z z z z z z) (w2 z z)
 intro I K hr g _;refine iS hr z (λbg hr=>?_) (λbg hr=>?_)
 .refine sr<|Ð hr z (lB (k' z) (đ Value.bool (me _))) z (λbs hr=>?_) (λbs hr=>?_)
  .refine η z<|Ð hr (C' z z) (k' z) z (λbi hr=>?_) (λbi hr=>?_)
   .refine Β z<|η z<|Ð hr (C' z z) (k' z) z (λbl hr=>?_) (λbl hr=>?_)
    .refine Β z<|η z<|Ð hr (C' z z) (k' z) z (λbr hr=>?_) (λbr hr=>?_)
     .refine Β z<|η z<|Ð hr (C' z z) (k' z) z (λbp hr=>?_) (λbp hr=>?_)
      .refine Β z<|η z<|iO z<|Β z<|Μ z<|m'<|g'<|a' (Å hr z z)
      refine Β z<|η z<|sk z z z<|ν z<|Μ z<|m'<|g'<|a' (Å hr z z)
     refine Β z<|η z<|sk z z z<|ν z<|η z<|sk z z z<|ν z<|Μ z<|m'<|g'<|a' (Å hr z z)
    refine Β z<|η z<|sk z z z<|ν z<|η z<|sk z z z<|ν z<|η z<|sk z z z<|ν z<|Μ z<|m'<|g'<|a' (Å hr z z)
   refine Β z<|η z<|sk z z z<|ν z<|η z<|sk z z z<|ν z<|η z<|sk z z z<|ν z<|η z<|sk z z z<|ν z<|Μ z<|m'<|g'<|a' (Å hr z z)
  refine η z<|sk z z z<|ν z<|η z<|sk z z z<|ν z<|η z<|sk z z z<|ν z<|η z<|sk z z z<|ν z<|η z<|sk z z z<|ν z<|Μ z<|m'<|g'<|a' (Å hr z z)
 refine WC.nD hr [2,3,5,6,7,8,9,10,11,54] [2,3] (λ(J:Bool)=>⟨[(75,.bool J)],EB l c A S J,tr,[]⟩) ?_ ?_
 .refine sr<|Γ (eB z z)<|Μ z<|I' hr z (λa2 hr=>?_) (λa2 hr=>?_)
  .refine q'<|pG ⟨I,decide (c.kind=3)⟩ ⟨hr,mr,trivial⟩ (f11 z z z z z z z z z z z) (w2 z z)
  refine w'<|Γ (eB z z)<|dE z<|t'<|pG ⟨I,decide (c.kind=9)⟩ ⟨hr,mr,trivial⟩ (f11 z z z z z z z z z z z) (w2 z z)
 intro H J hr f _;refine iS hr z (λbm hr=>?_) (λbm hr=>?_)
 .refine sr<|Ð hr z (k' z) z (λbn hr=>?_) (λbn hr=>?_)
  .refine η z<|Ð hr (C' z z) (k' z) z (λbq hr=>?_) (λbq hr=>?_)
   .refine Β z<|η z<|Ð hr (C' z z) (k' z) z (λbc hr=>?_) (λbc hr=>?_)
    .refine Β z<|η z<|Ð hr (C' z z) (k' z) z (λbd hr=>?_) (λbd hr=>?_)
     .refine Β z<|η z<|Ð hr (C' z z) (k' z) z (λaO hr=>?_) (λaO hr=>?_)
      .refine Β z<|η z<|iO z<|Β z<|Μ z<|m'<|g'<|a' (Å hr z z)
      refine Β z<|η z<|sk z z z<|ν z<|Μ z<|m'<|g'<|a' (Å hr z z)
     refine Β z<|η z<|sk z z z<|ν z<|η z<|sk z z z<|ν z<|Μ z<|m'<|g'<|a' (Å hr z z)
    refine Β z<|η z<|sk z z z<|ν z<|η z<|sk z z z<|ν z<|η z<|sk z z z<|ν z<|Μ z<|m'<|g'<|a' (Å hr z z)
   refine Β z<|η z<|sk z z z<|ν z<|η z<|sk z z z<|ν z<|η z<|sk z z z<|ν z<|η z<|sk z z z<|ν z<|Μ z<|m'<|g'<|a' (Å hr z z)
  refine η z<|sk z z z<|ν z<|η z<|sk z z z<|ν z<|η z<|sk z z z<|ν z<|η z<|sk z z z<|ν z<|η z<|sk z z z<|ν z<|Μ z<|m'<|g'<|a' (Å hr z z)
 refine sr<|Γ (eB z z)<|Μ z<|I' hr z (λbe hr=>?_) (λbe hr=>?_)
 .refine sr<|Ð hr z (k' z) z (λag hr=>?_) (λag hr=>?_)
  .refine η z<|Ð hr (C' z z) (k' z) z (λaD hr=>?_) (λaD hr=>?_)
   .refine Β z<|η z<|Ð hr (C' z z) (k' z) z (λa3 hr=>?_) (λa3 hr=>?_)
    .refine Β z<|η z<|Ð hr (C' z z) (lB (k' z) (đ Value.bool (me _))) z (λav hr=>?_) (λav hr=>?_)
     .refine Β z<|η z<|gy z z (Wj z) z<|gy z z (n' 3 sY z z z) z<|oE hr λbh aR hr=>H' (C' z z) z (x' Ik z) (fK'.h aR) z ((P.mono (mx (mx e g) f))) ?_
      cases bh
      .refine Β z<|η z<|lG z<|ν z<|η z<|gK z<|ν z<|Μ z<|m'<|g'<|a' (Å hr z z)
      refine Β z<|η z<|gy z z (BW z) z<|gy z z (n' 3 jY z z z) z<|gy z z (P' jT (B.mono (mx (mx e g) f)) z) z<|Ð hr (C' z z) (BN z z) z (λaW hr=>?_) (λaW hr=>?_)
      .refine Β z<|η z<|gy z z (BW z) z<|gy z z (n' 3 jY z z z) z<|gy z z (rC z) z<|gy z z (n' 2 dN z z z) z<|oE hr λbz ac hr=>H' (C' z z) z (x' z6 z) (Wx.h ac) z ((B.mono (mx (mx e g) f)))<|Β z<|Μ z<|m'<|g'<|a' (Å hr z z)
      refine Β z<|η z<|gK z<|ν z<|Μ z<|m'<|g'<|a' (Å hr z z)
     refine Β z<|η z<|fh z<|ν z<|η z<|lG z<|ν z<|η z<|gK z<|ν z<|Μ z<|m'<|g'<|a' (Å hr z z)
    refine Β z<|η z<|sk z z z<|ν z<|η z<|fh z<|ν z<|η z<|lG z<|ν z<|η z<|gK z<|ν z<|Μ z<|m'<|g'<|a' (Å hr z z)
   refine Β z<|η z<|sk z z z<|ν z<|η z<|sk z z z<|ν z<|η z<|fh z<|ν z<|η z<|lG z<|ν z<|η z<|gK z<|ν z<|Μ z<|m'<|g'<|a' (Å hr z z)
  refine η z<|sk z z z<|ν z<|η z<|sk z z z<|ν z<|η z<|sk z z z<|ν z<|η z<|fh z<|ν z<|η z<|lG z<|ν z<|η z<|gK z<|ν z<|Μ z<|m'<|g'<|a' (Å hr z z)
 refine sr<|Γ (eB z z)<|Μ z<|I' hr z (λbo hr=>?_) (λbo hr=>?_)
 .refine sr<|Ð hr z (k' z) z (λan hr=>?_) (λan hr=>?_)
  .refine η z<|Ð hr (C' z z) (k' z) z (λaB hr=>?_) (λaB hr=>?_)
   .refine Β z<|η z<|Ð hr (C' z z) (k' z) z (λY hr=>?_) (λY hr=>?_)
    .refine Β z<|η z<|Ð hr (C' z z) (k' z) z (λaG hr=>?_) (λaG hr=>?_)
     .refine Β z<|η z<|Ð hr (C' z z) (k' z) z (λaf hr=>?_) (λaf hr=>?_)
      .refine Β z<|η z<|gy z z (zI z) z<|gy z z (n' 3 dN z z z) z<|Ð hr (C' z z) (eB z z) z (λar hr=>?_) (λar hr=>?_)
       .refine Β z<|η z<|gy z z (xQ z) z<|gy z z (n' 3 dN z z z) z<|Ð hr (C' z z) (uz z z) z (λaI hr=>?_) (λaI hr=>?_)
        .refine Β z<|η z<|gy z z (xQ z) z<|gy z z (n' 3 dN z z z) z<|gy z z (rC z) z<|gy z z (n' 2 dN z z z) z<|Ð hr (C' z z) (BN z z) z (λaa hr=>?_) (λaa hr=>?_)
         .refine Β z<|η z<|gy z z (zD z) z<|gy z z (n' 3 dN z z z) z<|oE hr λbE aQ hr=>H' (C' z z) z (x' wM z) (Nd.h aQ) z (trivial)<|Β z<|Μ z<|m'<|g'<|a' (Å hr z z)
         refine Β z<|η z<|fh z<|ν z<|Μ z<|m'<|g'<|a' (Å hr z z)
        refine Β z<|η z<|gK z<|ν z<|η z<|fh z<|ν z<|Μ z<|m'<|g'<|a' (Å hr z z)
       refine Β z<|η z<|fh z<|ν z<|η z<|gK z<|ν z<|η z<|fh z<|ν z<|Μ z<|m'<|g'<|a' (Å hr z z)
      refine Β z<|η z<|fh z<|ν z<|η z<|fh z<|ν z<|η z<|gK z<|ν z<|η z<|fh z<|ν z<|Μ z<|m'<|g'<|a' (Å hr z z)
     refine Β z<|η z<|sk z z z<|ν z<|η z<|fh z<|ν z<|η z<|fh z<|ν z<|η z<|gK z<|ν z<|η z<|fh z<|ν z<|Μ z<|m'<|g'<|a' (Å hr z z)
    refine Β z<|η z<|sk z z z<|ν z<|η z<|sk z z z<|ν z<|η z<|fh z<|ν z<|η z<|fh z<|ν z<|η z<|gK z<|ν z<|η z<|fh z<|ν z<|Μ z<|m'<|g'<|a' (Å hr z z)
   refine Β z<|η z<|sk z z z<|ν z<|η z<|sk z z z<|ν z<|η z<|sk z z z<|ν z<|η z<|fh z<|ν z<|η z<|fh z<|ν z<|η z<|gK z<|ν z<|η z<|fh z<|ν z<|Μ z<|m'<|g'<|a' (Å hr z z)
  refine η z<|sk z z z<|ν z<|η z<|sk z z z<|ν z<|η z<|sk z z z<|ν z<|η z<|sk z z z<|ν z<|η z<|fh z<|ν z<|η z<|fh z<|ν z<|η z<|gK z<|ν z<|η z<|fh z<|ν z<|Μ z<|m'<|g'<|a' (Å hr z z)
 refine sr<|Γ (eB z z)<|Μ z<|I' hr z (λbk hr=>?_) (λbk hr=>?_)
 .refine sr<|Ð hr z (k' z) z (λa5 hr=>?_) (λa5 hr=>?_)
  .refine η z<|Ð hr (C' z z) (k' z) z (λaj hr=>?_) (λaj hr=>?_)
   .refine Β z<|η z<|Ð hr (C' z z) (k' z) z (λa1 hr=>?_) (λa1 hr=>?_)
    .refine Β z<|η z<|Ð hr (C' z z) (k' z) z (λa4 hr=>?_) (λa4 hr=>?_)
     .refine Β z<|η z<|Ð hr (C' z z) (k' z) z (λak hr=>?_) (λak hr=>?_)
      .refine Β z<|η z<|gy z z (zD z) z<|gy z z (n' 3 dN z z z) z<|oE hr λba ae hr=>H' (C' z z) z (x' wM z) (Nd.h ae) z (trivial) ?_
       cases ba
       .refine Β z<|η z<|fh z<|ν z<|η z<|gK z<|ν z<|η z<|gK z<|ν z<|Μ z<|m'<|g'<|a' (Å hr z z)
       refine Β z<|η z<|gy z z (zI z) z<|gy z z (n' 3 dN z z z) z<|Ð hr (C' z z) (uz z z) z (λaC hr=>?_) (λaC hr=>?_)
       .refine Β z<|η z<|gy z z (zI z) z<|gy z z (n' 3 dN z z z) z<|gy z z (xQ z) z<|gy z z (n' 3 dN z z z) z<|Ð hr (C' z z) (BN z z) z (λaY hr=>?_) (λaY hr=>?_)
        .refine Β z<|η z<|gy z z (xQ z) z<|gy z z (n' 3 dN z z z) z<|gy z z (zD z) z<|gy z z (n' 3 dN z z z) z<|gy z z (BN z z) z<|Β z<|Μ z<|m'<|g'<|a' (Å hr z z)
        refine Β z<|η z<|gK z<|ν z<|Μ z<|m'<|g'<|a' (Å hr z z)
       refine Β z<|η z<|gK z<|ν z<|η z<|gK z<|ν z<|Μ z<|m'<|g'<|a' (Å hr z z)
      refine Β z<|η z<|fh z<|ν z<|η z<|fh z<|ν z<|η z<|gK z<|ν z<|η z<|gK z<|ν z<|Μ z<|m'<|g'<|a' (Å hr z z)
     refine Β z<|η z<|sk z z z<|ν z<|η z<|fh z<|ν z<|η z<|fh z<|ν z<|η z<|gK z<|ν z<|η z<|gK z<|ν z<|Μ z<|m'<|g'<|a' (Å hr z z)
    refine Β z<|η z<|sk z z z<|ν z<|η z<|sk z z z<|ν z<|η z<|fh z<|ν z<|η z<|fh z<|ν z<|η z<|gK z<|ν z<|η z<|gK z<|ν z<|Μ z<|m'<|g'<|a' (Å hr z z)
   refine Β z<|η z<|sk z z z<|ν z<|η z<|sk z z z<|ν z<|η z<|sk z z z<|ν z<|η z<|fh z<|ν z<|η z<|fh z<|ν z<|η z<|gK z<|ν z<|η z<|gK z<|ν z<|Μ z<|m'<|g'<|a' (Å hr z z)
  refine η z<|sk z z z<|ν z<|η z<|sk z z z<|ν z<|η z<|sk z z z<|ν z<|η z<|sk z z z<|ν z<|η z<|fh z<|ν z<|η z<|fh z<|ν z<|η z<|gK z<|ν z<|η z<|gK z<|ν z<|Μ z<|m'<|g'<|a' (Å hr z z)
 refine sr<|Γ (eB z z)<|Μ z<|I' hr z (λbb hr=>?_) (λbb hr=>?_)
 .refine sr<|Ð hr z (k' z) z (λal hr=>?_) (λal hr=>?_)
  .refine η z<|Ð hr (C' z z) (k' z) z (λab hr=>?_) (λab hr=>?_)
   .refine Β z<|η z<|Ð hr (C' z z) (k' z) z (λah hr=>?_) (λah hr=>?_)
    .refine Β z<|η z<|Ð hr (C' z z) (k' z) z (λaT hr=>?_) (λaT hr=>?_)
     .refine Β z<|η z<|Ð hr (C' z z) (lB (k' z) (đ Value.bool (me _))) z (λau hr=>?_) (λau hr=>?_)
      .refine Β z<|η z<|gy z z (zF z) z<|gy z z (n' 3 q9 z z z) z<|gy z z (rC z) z<|gy z z (n' 2 dN z z z) z<|oE hr λbD aX hr=>H' (C' z z) z (x' z7 z) (lu.h aX) z ((C.mono (mx (mx e g) f)))<|Β z<|Μ z<|m'<|g'<|a' (Å hr z z)
      refine Β z<|η z<|gK z<|ν z<|Μ z<|m'<|g'<|a' (Å hr z z)
     refine Β z<|η z<|sk z z z<|ν z<|η z<|gK z<|ν z<|Μ z<|m'<|g'<|a' (Å hr z z)
    refine Β z<|η z<|sk z z z<|ν z<|η z<|sk z z z<|ν z<|η z<|gK z<|ν z<|Μ z<|m'<|g'<|a' (Å hr z z)
   refine Β z<|η z<|sk z z z<|ν z<|η z<|sk z z z<|ν z<|η z<|sk z z z<|ν z<|η z<|gK z<|ν z<|Μ z<|m'<|g'<|a' (Å hr z z)
  refine η z<|sk z z z<|ν z<|η z<|sk z z z<|ν z<|η z<|sk z z z<|ν z<|η z<|sk z z z<|ν z<|η z<|gK z<|ν z<|Μ z<|m'<|g'<|a' (Å hr z z)
 refine sr<|Γ (eB z z)<|Μ z<|I' hr z (λbj hr=>?_) (λbj hr=>?_)
 .refine sr<|Ð hr z (lB (k' z) (đ Value.bool (me _))) z (λay hr=>?_) (λay hr=>?_)
  .refine η z<|Ð hr (C' z z) (k' z) z (λao hr=>?_) (λao hr=>?_)
   .refine Β z<|η z<|Ð hr (C' z z) (k' z) z (λaP hr=>?_) (λaP hr=>?_)
    .refine Β z<|η z<|Ð hr (C' z z) (lB (k' z) (đ Value.bool (me _))) z (λaw hr=>?_) (λaw hr=>?_)
     .refine Β z<|η z<|gy z z (zF z) z<|gy z z (n' 3 q9 z z z) z<|gy z z (rC z) z<|gy z z (n' 2 dN z z z) z<|oE hr λa a7 hr=>H' (C' z z) z (x' z7 z) (lu.h a7) z ((C.mono (mx (mx e g) f))) ?_
      cases a
      .refine Β z<|η z<|rb z<|ν z<|η z<|fh z<|ν z<|Μ z<|m'<|g'<|a' (Å hr z z)
      refine Β z<|η z<|gy z z (BR z) z<|gy z z (n' 3 sX z z z) z<|gy z z (P' zz (E.mono (mx (mx e g) f)) z) z<|gy z z (zF z) z<|gy z z (n' 3 q9 z z z) z<|gy z z (P' ux (C.mono (mx (mx e g) f)) z) z<|Ð hr (C' z z) (eB z z) z (λZ hr=>?_) (λZ hr=>?_)
      .refine Β z<|η z<|gy z z (BR z) z<|gy z z (n' 3 sX z z z) z<|oE hr λbC ax hr=>H' (C' z z) z (x' Il z) (iS'.h ax) z ((E.mono (mx (mx e g) f)))<|Β z<|Μ z<|m'<|g'<|a' (Å hr z z)
      refine Β z<|η z<|fh z<|ν z<|Μ z<|m'<|g'<|a' (Å hr z z)
     refine Β z<|η z<|gK z<|ν z<|η z<|rb z<|ν z<|η z<|fh z<|ν z<|Μ z<|m'<|g'<|a' (Å hr z z)
    refine Β z<|η z<|sk z z z<|ν z<|η z<|gK z<|ν z<|η z<|rb z<|ν z<|η z<|fh z<|ν z<|Μ z<|m'<|g'<|a' (Å hr z z)
   refine Β z<|η z<|sk z z z<|ν z<|η z<|sk z z z<|ν z<|η z<|gK z<|ν z<|η z<|rb z<|ν z<|η z<|fh z<|ν z<|Μ z<|m'<|g'<|a' (Å hr z z)
  refine η z<|sk z z z<|ν z<|η z<|sk z z z<|ν z<|η z<|sk z z z<|ν z<|η z<|gK z<|ν z<|η z<|rb z<|ν z<|η z<|fh z<|ν z<|Μ z<|m'<|g'<|a' (Å hr z z)
 refine sr<|Γ (eB z z)<|Μ z<|I' hr z (λbf hr=>?_) (λbf hr=>?_)
 .refine sr<|Ð hr z (k' z) z (λaZ hr=>?_) (λaZ hr=>?_)
  .refine η z<|Ð hr (C' z z) (k' z) z (λaN hr=>?_) (λaN hr=>?_)
   .refine Β z<|η z<|Ð hr (C' z z) (k' z) z (λam hr=>?_) (λam hr=>?_)
    .refine Β z<|η z<|Ð hr (C' z z) (k' z) z (λaK hr=>?_) (λaK hr=>?_)
     .refine Β z<|η z<|Ð hr (C' z z) (lB (k' z) (đ Value.bool (me _))) z (λa6 hr=>?_) (λa6 hr=>?_)
      .refine Β z<|η z<|gy z z (BW z) z<|gy z z (n' 3 jY z z z) z<|gy z z (P' jT (B.mono (mx (mx e g) f)) z) z<|Ð hr (C' z z) (BN z z) z (λaU hr=>?_) (λaU hr=>?_)
       .refine Β z<|η z<|gy z z (BW z) z<|gy z z (n' 3 jY z z z) z<|gy z z (rC z) z<|gy z z (n' 2 dN z z z) z<|oE hr λbw W hr=>H' (C' z z) z (x' z6 z) (Wx.h W) z ((B.mono (mx (mx e g) f)))<|Β z<|Μ z<|m'<|g'<|a' (Å hr z z)
       refine Β z<|η z<|gK z<|ν z<|Μ z<|m'<|g'<|a' (Å hr z z)
      refine Β z<|η z<|lG z<|ν z<|η z<|gK z<|ν z<|Μ z<|m'<|g'<|a' (Å hr z z)
     refine Β z<|η z<|sk z z z<|ν z<|η z<|lG z<|ν z<|η z<|gK z<|ν z<|Μ z<|m'<|g'<|a' (Å hr z z)
    refine Β z<|η z<|sk z z z<|ν z<|η z<|sk z z z<|ν z<|η z<|lG z<|ν z<|η z<|gK z<|ν z<|Μ z<|m'<|g'<|a' (Å hr z z)
   refine Β z<|η z<|sk z z z<|ν z<|η z<|sk z z z<|ν z<|η z<|sk z z z<|ν z<|η z<|lG z<|ν z<|η z<|gK z<|ν z<|Μ z<|m'<|g'<|a' (Å hr z z)
  refine η z<|sk z z z<|ν z<|η z<|sk z z z<|ν z<|η z<|sk z z z<|ν z<|η z<|sk z z z<|ν z<|η z<|lG z<|ν z<|η z<|gK z<|ν z<|Μ z<|m'<|g'<|a' (Å hr z z)
 refine WC.nD hr [3,5,6,7,8,9] [3] (λ(D:Bool)=>⟨[(283,.bool D)],EA c D,tr,[]⟩) ?_ ?_
 .refine sr<|Γ (eB z z)<|Μ z<|I' hr z (λaq hr=>?_) (λaq hr=>?_)
  .refine q'<|pG ⟨H,decide (c.kind=12)⟩ ⟨hr,mr,trivial⟩ (Ç z) (w1 z)
  refine w'<|Γ (eB z z)<|dE z<|t'<|pG ⟨H,decide (c.kind=13)⟩ ⟨hr,mr,trivial⟩ (Ç z) (w1 z)
 intro U D hr bu _;refine iS hr z (λaM hr=>?_) (λaM hr=>?_)
 .refine sr<|Ð hr z (k' z) z (λaE hr=>?_) (λaE hr=>?_)
  .refine η z<|Ð hr (C' z z) (k' z) z (λaJ hr=>?_) (λaJ hr=>?_)
   .refine Β z<|η z<|Ð hr (C' z z) (k' z) z (λaF hr=>?_) (λaF hr=>?_)
    .refine Β z<|η z<|Ð hr (C' z z) (k' z) z (λad hr=>?_) (λad hr=>?_)
     .refine Β z<|η z<|Ð hr (C' z z) (k' z) z (λai hr=>?_) (λai hr=>?_)
      .refine Β z<|η z<|gy z z (xQ z) z<|gy z z (n' 3 dN z z z) z<|Ð hr (C' z z) (eB z z) z (λa8 hr=>?_) (λa8 hr=>?_)
       .refine Β z<|η z<|gy z z (zI z) z<|gy z z (n' 3 dN z z z) z<|Ð hr (C' z z) (eB z z) z (λaS hr=>?_) (λaS hr=>?_)
        .refine Β z<|η z<|gy z z (zD z) z<|gy z z (n' 3 dN z z z) z<|oE hr λbx V hr=>H' (C' z z) z (x' wM z) (Nd.h V) z (trivial)<|Β z<|Μ z<|m'<|g'<|a' (Å hr z z)
        refine Β z<|η z<|fh z<|ν z<|Μ z<|m'<|g'<|a' (Å hr z z)
       refine Β z<|η z<|fh z<|ν z<|η z<|fh z<|ν z<|Μ z<|m'<|g'<|a' (Å hr z z)
      refine Β z<|η z<|fh z<|ν z<|η z<|fh z<|ν z<|η z<|fh z<|ν z<|Μ z<|m'<|g'<|a' (Å hr z z)
     refine Β z<|η z<|sk z z z<|ν z<|η z<|fh z<|ν z<|η z<|fh z<|ν z<|η z<|fh z<|ν z<|Μ z<|m'<|g'<|a' (Å hr z z)
    refine Β z<|η z<|sk z z z<|ν z<|η z<|sk z z z<|ν z<|η z<|fh z<|ν z<|η z<|fh z<|ν z<|η z<|fh z<|ν z<|Μ z<|m'<|g'<|a' (Å hr z z)
   refine Β z<|η z<|sk z z z<|ν z<|η z<|sk z z z<|ν z<|η z<|sk z z z<|ν z<|η z<|fh z<|ν z<|η z<|fh z<|ν z<|η z<|fh z<|ν z<|Μ z<|m'<|g'<|a' (Å hr z z)
  refine η z<|sk z z z<|ν z<|η z<|sk z z z<|ν z<|η z<|sk z z z<|ν z<|η z<|sk z z z<|ν z<|η z<|fh z<|ν z<|η z<|fh z<|ν z<|η z<|fh z<|ν z<|Μ z<|m'<|g'<|a' (Å hr z z)
 refine q'<|E'<|b'<|sr<|Μ z<|m' (Å hr z z)
instance iK'{p d r}:SpcM ((Kz p d)) r (∀{J M L O n m i o h k l g j f},Cr 166 #[.agg ([i' p.kind,δ J p.p M,δ L p.o O]).toArray,.agg ((ka d n m i o h k l g j f)).toArray] (λG=>sl c' G J M p.p/\sv G L O p.o/\sl c' G n m d.p/\sv G i o d.o/\sq G h k d.l/\sl (Rp.int .i64) G l g d.s/\sl (Rp.arr iD 8) G j f d.b) (λG v=>v=.tuple #[i' r.1,i' r.2])):=.mk λhr {J M L O n m i o h k l g j f}=>by
 refine J' (args:=[_,_]) (N:=87) func166 z z z (λU E av W=>?_);obtain⟨Y,I,Q,V,Z,X,K⟩:=W;refine sr<|jO 2 z z z λb1=>jO 3 z z z λq=>dE z<|Μ z<|WC.nB hr [3] [3] (λ(⟨u,e⟩:Bool×Bool)=>⟨[(6,.bool u),(7,.bool e)],yK d u e,tr,[]⟩) ?_
 rintro A ⟨u,e⟩ hr P _;refine o'<|Y'<|WC.nB hr [3,6,7] [3] (λ(H:Bool)=>⟨[(19,.bool H)],JC d u e H,tr,[]⟩) ?_
 intro t H hr T _;refine iS hr z (λa hr=>?_) (λa hr=>?_)
 .exact Ι
 refine WC.nB hr [3,7] [3] (λ(D:Bool)=>⟨[(30,.bool D)],Ek d e D,tr,[]⟩) ?_;intro y D hr R _;refine iS hr z (λc hr=>?_) (λc hr=>?_)
 .exact Ι
 refine WC.nB hr [3,7] [3] (λ(F:Bool)=>⟨[(42,.bool F)],JB d e F,tr,[]⟩) ?_;intro s F hr S _;refine iS hr z (λB hr=>?_) (λB hr=>?_)
 .exact Ι
 refine WC.nC hr [3,7] [3] (λ(C:Bool)=>⟨[(53,.bool C)],Ej d e C,tr,[]⟩) ?_;refine w'<|Ð hr z (lB (k' z) (đ Value.bool (me _))) z (λx hr=>?_) (λx hr=>?_)
 .exact Ι
 exact η z<|lG z<|î (M' z z) z<|î (M' z z) z<|î (M' z z) z<|sk z z z<|Ι
instance jc'{p n r}:SpcM ((FR p n)) r (∀{i l g k},Cr 239 #[δ i p l,δ g n k] (λG=>sv G i l p/\sv G g k n) (λG v=>v=.bool r)):=.mk λhr {i l g k}=>by refine Ο ?_;intro x h _ _ _ _ hr _;refine WC.mA hr [0,1] [] [] [] (λ(o:Int)=>⟨o,[(5,i' o)],tr,[]⟩) (λ(_:Unit)=>⟨(.inr ()),[],tr,[]⟩) 0
instance iy'{t n i r}:SpcM ((J9 t n i)) r (∀{q s p o I H C K J A O L B y D M F P},Cr 167 #[.agg ((ñ t q s p o)).toArray,.agg ([i' n.kind,δ I n.p H,δ C n.o K]).toArray,.agg ((ka i J A O L B y D M F P)).toArray] (λG=>sq G q s t.eqs/\sq G p o t.ε/\sl c' G I H n.p/\sv G C K n.o/\sl c' G J A i.p/\sv G O L i.o/\sq G B y i.l/\sl (Rp.int .i64) G D M i.s/\sl (Rp.arr iD 8) G F P i.b) (λG v=>v=.bool r)):=.mk λhr {q s p o I H C K J A O L B y D M F P}=>by
 refine é ?_;intro _ _ _ _ _ _ _ _ _ _ _ _ _ _ _ _ _ _ _ _ _ _ _ _ hr _;refine I' hr z (λS hr=>?_) (λS hr=>?_)
 .exact Ι
 refine sr<|Γ (eB z z)<|Μ z<|I' hr z (λaw hr=>?_) (λaw hr=>?_)
 .refine o'<|fN [ff,ff,ff,ff,ff,ff,ff,ff,ff,ff,ff,ff,ff,ff,ff,ff,ff,ff] eP İ λhb=>cn (λ_ c=>zC z)<|cn (λ_ c=>n' 5 dN z z z)<|BM hr z (λ_ c=>eB z z) (λE hr=>?_) (λE hr=>?_)
  .refine Ο ?_;intro _;refine î (M' z z) z ?_;exact Ι
  refine Ο ?_;intro _ _ hr;refine oE hr λV T hr=>qK (post:=er V) (λ_=>(C' z z)) (λ_ _=>x' D0 z) (GN.h T) z (λG' c=>trivial) (λv a d c h=>?_) ?_
  .obtain⟨j,l,k,m,rfl,g,e⟩:=h;exact⟨_,_,_,_,z,g.mono c,e.mono c⟩
  refine oE hr λZ U hr=>mo (f:=133) (φ:=fS c' Z) (λ_=>(C' z z)) (λv a d c h=>?_) (λu G' c hu=>?_) ?_
  .obtain⟨ae,al,rfl,Q⟩:=h;exact⟨_,_,z,Q.mono c⟩
  .obtain⟨⟨j,l,k,m,X,g,e⟩,_⟩:=(show(er V) G'.m (u 46)/\True from hu);exact⟨_,_,_,λ_=>x' Ia z,gC'.h U,(by simp only[X]<;>rfl),⟨g,e⟩⟩
  exact Ι
 refine sr<|Γ (eB z z)<|Μ z<|I' hr z (λN hr=>?_) (λN hr=>?_)
 .exact Ι
 refine sr<|Γ (eB z z)<|Μ z<|I' hr z (λau hr=>?_) (λau hr=>?_)
 .exact Ι
 refine sr<|Γ (eB z z)<|Μ z<|I' hr z (λR hr=>?_) (λR hr=>?_)
 .exact Ι
 refine sr<|Γ (eB z z)<|Μ z<|I' hr z (λx hr=>?_) (λx hr=>?_)
 .exact Ι
 refine sr<|Γ (eB z z)<|Μ z<|I' hr z (λW hr=>?_) (λW hr=>?_)
 .exact Ι
 refine sr<|Γ (eB z z)<|Μ z<|I' hr z (λaz hr=>?_) (λaz hr=>?_)
 .refine sr<|Γ (zC z)<|Γ (n' 5 dN z z z)<|Ð hr z (eB z z) z (λY hr=>?_) (λY hr=>?_)
  .refine Ο ?_;intro hr;refine î (M' z z) z<|î (M' z z) z<|î (M' z z) z<|sf z z z<|Β z<|Μ z<|m'<|g'<|a' (Å hr z z)
  refine Ο ?_;intro _ hr;refine î (M' z z) z<|î (M' z z) z<|î (M' z z) z<|sf z z z<|Β z<|Μ z<|m'<|g'<|a' (Å hr z z)
 exact Ι
instance iz'{c J r}:SpcM ((Kc c J)) r (∀{h g f e l n o m U X L M S Q W Y P R},Cr 93 #[.agg ((fz c h g f e l n o m)).toArray,.agg ((ka J U X L M S Q W Y P R)).toArray] (λG=>sq G h g c.k.eqs/\sq G f e c.k.ε/\sl c' G l n c.q.p/\sv G o m c.q.o/\sl c' G U X J.p/\sv G L M J.o/\sq G S Q J.l/\sl (Rp.int .i64) G W Y J.s/\sl (Rp.arr iD 8) G P R J.b) (DQ r)):=.mk λhr {h g f e l n o m U X L M S Q W Y P R}=>by
 refine J' (args:=[_,_]) (N:=46) func93 z z z (λw0 G0 an a=>?_);obtain⟨E,B,H,F,O,Z,T,K,V⟩:=a;refine sr<|jO 2 z z z λb1=>jO 3 z z z λb2=>W' 4 z wI z λb3=>nr<|Γ (rq z)<|Γ (R' ([i' c.q.kind,δ l c.q.p n,δ o c.q.o m]).toArray 2 ng z z z (jh ([i' c.id,i' c.k.n,δ h c.k.eqs g,δ f c.k.ε e]) ([i' c.q.kind,δ l c.q.p n,δ o c.q.o m]) ([i' c.ξ,i' c.low,i' c.high,.bool c.done])))<|Γ (y' 3 nU z z z)<|oE hr λA ae hr=>H' z z (x' Im z) (iK'.h ae) z (⟨H,F,O,Z,T,K,V⟩)<|η z<|kr z<|kr z<|dE z<|Μ z<|WC.nB hr [2,4,5,6] [4] (λ(⟨d,q,p,k,j,v,u,t,x⟩:Zd×ŀ Addr×Nat×ŀ Addr×Nat×ŀ Addr×Nat×ŀ Addr×Nat)=>⟨[],Er A d,λI=>sq I q p d.k.eqs/\sq I k j d.k.ε/\sl c' I v u d.q.p/\sv I t x d.q.o,[(2,ü b1 (fz d q p k j v u t x) 56)]⟩) ?_
 rintro I ⟨d,q,p,k,j,v,u,t,x⟩ hr al ⟨y,s,D,C⟩;refine sr<|Γ (xW z)<|Γ (n' 2 dN z z z)<|η z<|Γ (Wk z z)<|Γ (xW z)<|rp 2 ([i' d.id,i' d.k.n,δ q d.k.eqs p,δ k d.k.ε j,i' d.q.kind,δ v d.q.p u,δ t d.q.o x,i' d.ξ,i' (if d.low<A.1 then A.1 else d.low),i' d.high,.bool d.done]).toArray z jZ z z z (show 8<11 by decide) z z<|nx<|o'<|sr<|η z<|Ð hr z (uz z z) z (λai hr=>?_) (λai hr=>?_)
 .exact Ι
 refine η z<|lG z<|î (M' z z) z<|î (M' z z) z<|î (M' z z) z<|î (M' z z) z<|sk z z z<|ν z<|nx<|qO z<|q'<|b'<|sr<|Γ (y' 2 pO z z z)<|fY 4 qN z<|nx<|m' ?_
 obtain rfl:_=r:=hr;exact j' z (kL (i:=4) pO z z z) ⟨_,_,_,_,_,_,_,_,z,y,s,D,C⟩
instance iU'{Q ak aa L r}:SpcM ((KY Q ak aa L)) r (∀{M P V W},Cr 44 #[.agg ((fZ Q M P)).toArray,i' ak,δ V aa W,i' L] (λG=>sl gg G M P Q.t/\sl r9 G V W aa) (jq r)):=.mk λhr {M P V W}=>by
 refine é ?_;intro w0 G0 ax bQ _ _ b1 b2 o bS Y h g d f s q u t aD aA _ _ b3 hr _;refine o'<|sr<|η z<|Γ (gS z)<|nx<|iS hr z (λcG hr=>?_) (λcG hr=>?_)
 .exact Ι
 refine q'<|b'<|WC.nB hr [1,2,3,4,8,10] [4,10] (λ(⟨a,aR,aS⟩:Ze×ŀ Addr×Nat)=>⟨[],Qq Q ak aa L o a,λaY=>sl gg aY aR aS a.t,[(8,ü b2 (fZ a aR aS) 26)]⟩) ?_
 rintro aY ⟨a,aR,aS⟩ hr F bK;refine o'<|sr<|Μ z<|WC.mB (hH:=by exact bK) hr [1,2,3,4,8,10] [4,10] [1,2,3,4,8,10] [4,10] (λ(⟨aN,a2,aI,aF⟩:Int×Ze×ŀ Addr×Nat)=>⟨(aN,a2),[(12,i' aN)],λa1=>sl gg a1 aI aF a2.t,[(8,ü b2 (fZ a2 aI aF) 26)]⟩) (λ(⟨aH,ah,af⟩:Ze×ŀ Addr×Nat)=>⟨(.inr aH),[],λaW=>sl gg aW ah af aH.t,[(8,ü b2 (fZ aH ah af) 26)]⟩) ⟨0,a,aR,aS⟩ ?_
 rintro aW ⟨aH,ah,af⟩ hr ad cH;refine Ο ?_;intro b4 hr;refine WC.mC (hH:=by exact⟨(X' _ _),la⟩) hr [1,2,3,4,8,10,13] [4,8,10] [8,13] [8] (λ(⟨X,R,ac,ab,Z,x⟩:Int×(Ŀ Zd)×ŀ Addr×Nat×ŀ Ow×Int)=>⟨(X,R,x),[(14,i' X)],λaL=>sl gg aL ac ab R/\Tok 11 56 (δ ac R ab) R.length Z,[(13,ü b4 ([δ ac R ab,i' x]) 26),(310130,Z)]⟩) (λ(⟨i,aP,aO,aT,aJ⟩:(Ŀ Zd)×ŀ Addr×Nat×ŀ Ow×Int)=>⟨(i,aJ),[],λbl=>sl gg bl aP aO i/\Tok 11 56 (δ aP i aO) i.length aT,[(13,ü b4 ([δ aP i aO,i' aJ]) 26),(310130,aT)]⟩) ⟨0,[],none,0,none,Q.next⟩ ?_;rintro _ aL ⟨X,R,ac,ab,Z,x⟩ U ⟨bm,a6⟩ hr;refine Ο ?_;intro _ x1 _ _ bq _ bv _ bg _ bd _ bH _ bI _ bN _ bL _ _ _ _ bt _ bi bF b5 hr bM;refine WC.mD (hH:=by exact⟨bt,bi,bF,bM⟩) hr [1,2,3,4,8,10,13,14,15] [4,8,10,13,310130] [1,2,3,4,8,10,13,14,15] [4,8,10,13,310130] (λ(⟨aQ,O,I,H,E,C,am,ap,an,aq⟩:Int×Zd×ŀ Addr×Nat×ŀ Addr×Nat×ŀ Addr×Nat×ŀ Addr×Nat)=>⟨(aQ,O),[(16,i' aQ)],λe=>sq e I H O.k.eqs/\sq e E C O.k.ε/\sl c' e am ap O.q.p/\sv e an aq O.q.o,[(15,ü b5 (fz O I H E C am ap an aq) 56)]⟩) (λ(⟨p,S,T,J,K,au,al,ar,ao⟩:Zd×ŀ Addr×Nat×ŀ Addr×Nat×ŀ Addr×Nat×ŀ Addr×Nat)=>⟨p,[],λaz=>sq az S T p.k.eqs/\sq az J K p.k.ε/\sl c' az au al p.q.p/\sv az ar ao p.q.o,[(15,ü b5 (fz p S T J K au al ar ao) 56)]⟩) ⟨0,x1,bq,bv,bg,bd,bH,bI,bN,bL⟩ ?_ ?_
 .rintro _ e ⟨aQ,O,I,H,E,C,am,ap,an,aq⟩ ai ⟨av,aj,aX,aU⟩ hr;refine Ο ?_;intro _ hr;obtain⟨c8,ca,hr⟩:=hr;have N1:=mx (mx (mx F ad) U) ai;refine H' (C' z z) z (x' vd z) (vn _ _ _ _ _ _ _ _ _ _ _ ca) z (⟨av,aj,(aD.mono N1),(aA.mono N1)⟩)<|Β z<|nx<|iS hr z (λct hr=>?_) (λct hr=>?_)
  .refine q'<|b'<|o'<|Y'<|fN [ff,ff,ff,ff,ff] eP İ λhb=>cn (λ_ ag=>y' 15 pO z z z)<|fO z<|fO z<|oE hr λx2 bP hr=>cn (λ_ ag=>ki MR tg ((ax.mono (mx (mx (mx (mx Y F) ad) U) ai)).mono ag) z z bP) ?_
   obtain⟨cQ,cN,cP,c0,cK,cJ,c3,cZ,cT,c2,cm,b6,b7,cg,bY,b8⟩:=Wp (T' (iN ax bP) (mx (mx (mx (mx Y F) ad) U) ai));refine cn (λ_ ag=>nf _ nU z z (λj v hv=>ag _ _ _ (cm j v hv)))<|pF hb<|oE hr λcv ci hr=>gw z z (x' Yt z) (iz'.h ci) z (⟨av,aj,aX,aU,b6,b7,cg,bY,b8⟩) (λcL cD bG bu=>?_)
   obtain⟨bh,bj,a7,a5,bB,bC,bz,bE,rfl,bf,a3,bD,bx⟩:=bu;refine fY 15 qN z<|t'<|Κ<|E'<|b'<|w'<|η z<|iT z<|dE z<|t'<|N' ⟨cD,i64.wrap (aQ+1),cv,bh,bj,a7,a5,bB,bC,bz,bE⟩ hr ⟨(mx ai bG),bf,a3,bD,bx⟩ (f10 z z z z z z z z z z) (w6 z z z z z z)
  exact Ι
 rintro az ⟨p,S,T,J,K,au,al,ar,ao⟩ hr bn ⟨aV,aM,a8,a4⟩;refine b'<|WC.nD hr [1,2,3,4,8,10,13,14,15] [4,8,10,13,310130] (λ(⟨c,m,n,l,k,B,A,D,y⟩:Zd×ŀ Addr×Nat×ŀ Addr×Nat×ŀ Addr×Nat×ŀ Addr×Nat)=>⟨[],EE X R x c,λN=>sq N m n c.k.eqs/\sq N l k c.k.ε/\sl c' N B A c.q.p/\sv N D y c.q.o,[(15,ü b5 (fz c m n l k B A D y) 56)]⟩) ?_ ?_
 .refine sr<|Γ (BO z)<|Γ (n' 15 dN z z z)<|η z<|Γ (eB z z)<|nx<|I' hr z (λcB hr=>?_) (λcB hr=>?_)
  .exact Ι
  exact Ι
 rintro N ⟨c,m,n,l,k,B,A,D,y⟩ hr bp ⟨be,bc,bA,bw⟩;refine Ο ?_;intro _ _ bo cx hr;refine oA hr λb0 hr=>jU (r:=gg) 310130 z z qM qU z ĳ z z (bm.mono (mx (mx bn bp) bo)) z (by rw[bQ];rfl) a6 cx b0 λp2 bT ck cy bO cA cb=>Γ (xM z)<|rp 13 ([.slice p2 (R++[c]).length bT,i' x]).toArray z Du z z z (show 0<2 by decide) z z<|t'<|E'<|b'<|w'<|η z<|iT z<|dE z<|t'<|N' ⟨cy,i64.wrap (X+1),(R++[c]),p2,bT,ck,x⟩ hr ⟨(mx (mx (mx (mx U bn) bp) bo) bO),cA,cb⟩ (Ç z) (w5 z z z z z)
instance hQ'{b1 a r}:SpcM ((LD b1 a)) r (∀{ap ai U V H J T X ao ak},Cr 13 #[.agg ((fZ b1 ap ai)).toArray,.agg ((pj a U V H J T X ao ak)).toArray] (λG=>sl gg G ap ai b1.t/\sl tO G U V a.c.l/\sl (Rp.int .u8) G H J a.c.il/\sl (fV .i8 5) G T X a.p.t/\sl xX G ao ak a.l) (É r)):=.mk λhr {ap ai U V H J T X ao ak}=>by
 refine é ?_;intro w0 G0 _ _ _ K _ L _ s Q _ _ _ hr S;refine o' ?_;refine é ?_;intro hr;refine I' hr z (λaU hr=>?_) (λaU hr=>?_)
 .refine sr<|Γ (y' 3 uv z z z)<|oE hr λa7 aE hr=>gw z z (x' OU z) (Wq.h aE) z (⟨L,s,Q,S⟩) (λa4 a6 o Z=>?_)
  obtain⟨aM,aN,aA,aJ,rfl,I,D⟩:=Z;refine W' 7 z rM z λb5=>fY 7 tM z<|nx<|o'<|fN [ff,ff,ff,ff,ff,ff,ff] eP İ λN=>cn (λ_ d=>y' 2 lC z z z) ?_
  refine é ?_;intro p hr _;refine oE hr λE aK hr=>mo (f:=43) (φ:=qB E) (λ_=>z) (λv G1 G2 d h=>?_) (λu B d O=>?_) ?_
  .obtain⟨m,l,rfl,C⟩:=h;exact⟨_,_,z,C.mono d⟩
  .obtain⟨⟨e,j,k,g,av,A,y⟩,_⟩:=(show(λG v=>∃e j k g,v=.agg ([i' p.kind,δ e p.p j,δ k p.o g]).toArray/\sl c' G e j p.p/\sv G k g p.o) B.m (u 21)/\True from O);exact⟨_,_,_,λ_=>x' OW z,QP 5 _ _ _ _ _ _ _ _ _ _ _ _ _ _ aK,(by simp only[av]<;>rfl),⟨((K.mono o).mono d),(I.mono d),(D.mono d),A,y⟩⟩
  refine lr (λ_=>z) yC<|GY (λa8 aY a3 X1 aH an ad ae=>?_)
  obtain⟨b6,rfl,aC⟩:=an;obtain⟨m,l,rfl,C⟩:=ad;obtain⟨e,j,k,g,rfl,A,y⟩:=ae;refine pT aC (my (show WL _ _ _ _ _ _ (St w0 G0 X1.m _)from ?_));refine fY 8 td z<|t'<|Κ<|b'<|o' ?_
  refine é ?_;intro hr;refine I' hr z (λaP hr=>?_) (λaP hr=>?_)
  .refine o'<|B8 [(8,ü b6 (oh E m l) 100)] (lc z ln) [ff,tt,tt] eP İ λN=>cn (λ_ d=>y' 2 lC z z z)<|nI z (Y0.Us z)<|nI z (n' 8 Dd z z z)<|xY N<|nX (λw q=>q.weaken (lc z ln))<|fY 4 rA z<|nV<|fA.y0 (λw q=>q.weaken (lc z ln)) z (rB z) z<|fA.y0 (λw q=>q.weaken (lc z ln)) z (rB z) z<|wa (λw q=>q.weaken (lc z ln))<|Κ<|b'<|m'<|a'<|a' ?_
   obtain rfl:_=r:=hr;exact MV z (kL (i:=4) lC z z z) z z ⟨_,_,z,(K.mono (mx o aH))⟩
  refine q'<|b'<|o'<|B8 [(8,ü b6 (oh E m l) 100)] (lc z ln) [ff,ff,tt,tt] eP İ λN=>?_
  refine é ?_;intro hr;refine nI z (n' 8 dN z z z)<|xY N<|nX (λw q=>q.weaken (lc z ln))<|fY 4 rA z<|nV<|fA.y0 (λw q=>q.weaken (lc z ln)) z (rB z) z<|fA.y0 (λw q=>q.weaken (lc z ln)) z (rB z) z<|wa (λw q=>q.weaken (lc z ln))<|Κ<|b'<|m'<|a' ?_
  obtain rfl:_=r:=hr;exact MV z (kL (i:=4) lC z z z) z z ⟨_,_,z,C⟩
 refine q'<|b'<|o'<|fN [ff,ff,ff,ff,ff,ff,ff,ff,ff,ff,tt,ff] eP İ λN=>?_
 refine é ?_;intro ay hr _;refine oE hr λF aI hr=>mo (f:=44) (φ:=jq F) (λ_=>z) (λv G1 G2 d h=>?_) (λu B d O=>?_) ?_
 .obtain⟨x,t,rfl,n⟩:=h;exact⟨_,_,z,n.mono d⟩
 .obtain⟨⟨am,al,au,M⟩,_⟩:=(show(fS r9 ay) B.m (u 38)/\True from O);exact⟨_,_,_,λ_=>x' Yb z,iU'.h aI,(by simp only[au]<;>rfl),⟨(K.mono d),M⟩⟩
 refine kq (φ:=jq F) (λ_=>z) (λv G1 G2 d h=>?_) (λu B d O=>?_) ?_
 .obtain⟨p1,W,rfl,R⟩:=h;exact⟨_,_,z,R.mono d⟩
 .obtain⟨⟨x,t,aw,n⟩,_,_⟩:=(show(jq F) B.m (u 41)/\True/\True from O);simp only[υ,aw];exact⟨_,k' z,x,t,z,n⟩
 refine kq (φ:=kK F.1) (λ_=>z) (λv G1 G2 d h=>?_) (λu B d O=>?_) ?_
 .obtain⟨p2,aR,rfl,aj⟩:=h;exact⟨_,_,z,aj.mono d⟩
 .obtain⟨⟨p1,W,P,R⟩,_,_,_⟩:=(show(jq F) B.m (u 33)/\True/\True/\True from O);simp only[υ,P];exact⟨_,O' z z,p1,W,z,R⟩
 refine nh (c:=i' F.2) (λ_=>z) (λu B d O=>?_) ?_
 .obtain⟨_,⟨p1,W,P,R⟩,_,_,_⟩:=(show True/\(jq F) B.m (u 33)/\True/\True/\True from O);simp only[υ,P];exact O' z z
 refine lr (λ_=>z) z26<|x0 (λa9 a1 aW aX a2 X2 aG aq af Y ab aa=>?_)
 obtain⟨b7,rfl,aB⟩:=aq;obtain⟨p2,aR,rfl,aj⟩:=af;obtain⟨p1,W,rfl,R⟩:=Y;obtain⟨x,t,rfl,n⟩:=ab;obtain⟨am,al,rfl,M⟩:=aa;refine pT aB (my (show WL _ _ _ _ _ _ (St w0 G0 X2.m _)from ?_));exact Ι
instance qa{c r}:SpcM ((Zv4 c)) r (∀{h i f d s t u q},Cr 61 #[.agg ((fz c h i f d s t u q)).toArray] (λG=>sq G h i c.k.eqs/\sq G f d c.k.ε/\sl c' G s t c.q.p/\sv G u q c.q.o) (fS tK r)):=.mk λhr {h i f d s t u q}=>by
 refine Ο ?_;intro w0 G0 _ Y _ S _ L _ _ b1 p1 _ E X aF W I au ak M hr _;refine WC.mC (hH:=by exact⟨(X.mono I),la⟩) hr [1,4] [1] [] [] (λ(⟨o,y,x,A,a⟩:(Ŀ Zc)×ŀ Addr×Nat×ŀ Ow×Int)=>⟨(o,a),[(3,δ y o x),(5,i' a)],λK=>sl tK K y x o/\Tok 3 54 (δ y o x) o.length A,[(1003,A)]⟩) (λ(⟨B,D,C,F⟩:(Ŀ Zc)×ŀ Addr×Nat×ŀ Ow)=>⟨B,[(3,δ D B C)],λR=>sl tK R D C B/\Tok 3 54 (δ D B C) B.length F,[(1003,F)]⟩) ⟨[],p1,0,none,0⟩ ?_;rintro _ K ⟨o,y,x,A,a⟩ k ⟨O,J⟩ hr;refine o' ?_;refine é ?_;intro hr;refine I' hr z (λaJ hr=>?_) (λaJ hr=>?_)
 .refine q'<|b'<|o'<|Y'<|fN [tt,ff,ff,ff,ff,ff,ff] eP İ λhb=>uA z (k' z)<|cn (λ_ H=>oJ z)<|cn (λ_ H=>R' ((ñ c.k h i f d)).toArray 1 kz z z z (jh ([i' c.id]) ((ñ c.k h i f d)) ([i' c.q.kind,δ s c.q.p t,δ u c.q.o q,i' c.ξ,i' c.low,i' c.high,.bool c.done])))<|fO z<|fO z<|oE hr λx1 N hr=>cn (λ_ H=>ki MP od ((M.mono k).mono H) z z N) ?_
  obtain⟨aO,aR,aP,aT,ay,ax,ao⟩:=dq' (T' (iN M N) k);refine cn (λ_ H=>nf _ ng z z (λj v hv=>H _ _ _ (ay j v hv)))<|pF hb<|oE hr λg ar hr=>gw z z (x' X9 z) (fL'.h ar) z (⟨(S.mono (mx (mx E I) k)),(L.mono (mx (mx E I) k)),ax,ao⟩) (λaN aW Q U=>?_)
  obtain⟨ap,al,ag,af,p,m,l,n,rfl,av,ah,V,Z⟩:=U;refine Γ (Y0.ya underlying94 z ng z z)<|nb (e:=54) (r:=tK) (vs:=#[(0,.agg ([i' g.q.kind,δ p g.q.p m,δ l g.q.o n]).toArray)]) (cs:=[i' g.q.kind,δ p g.q.p m,δ l g.q.o n]++([])) ([g.q]:Ŀ Zc) z z z z z ĳ (λ_=>İ) ⟨[i' g.q.kind,δ p g.q.p m,δ l g.q.o n],[],z,⟨[i' g.q.kind],[δ p g.q.p m,δ l g.q.o n],z,z,⟨[δ p g.q.p m],[δ l g.q.o n],z,⟨_,z,V⟩,⟨_,z,Z⟩⟩⟩,z⟩ (key:=999) z (by rw[Y];rfl) (λp2 aV P aE=>?_)
  refine oA hr λam hr=>jU (r:=tK) 1003 z z MP M6 z ĳ z z (O.mono (mx Q P)) z (by rw[Y];rfl) J aE am λp3 T aj aH ab aD an=>dE z<|t'<|Κ<|E'<|b'<|w'<|η z<|iT z<|dE z<|t'<|N' ⟨aH,(o++[g.q]),p3,T,aj,i64.wrap (a+1)⟩ hr ⟨(mx (mx (mx k Q) P) ab),aD,an⟩ (Ç z) (w2 z z)
 exact Ι
instance gf'{i r}:SpcM ((LH i)) r (∀{Q S},Cr 22 #[δ Q i S] (λG=>sl M1 G Q S i) (kK r)):=.mk λhr {Q S}=>by
 refine Ο ?_;intro w0 G0 O _ W av R B V X U j hr _;refine WC.mC hr [0,2,3] [2] [2,3] [2] (λ(⟨a,s,n,l⟩:Int×Ze×ŀ Addr×Nat)=>⟨(a,s),[(4,i' a)],λt=>sl gg t n l s.t,[(3,ü j (fZ s n l) 26)]⟩) (λ(⟨F,y,A⟩:Ze×ŀ Addr×Nat)=>⟨F,[],λH=>sl gg H y A F.t,[(3,ü j (fZ F y A) 26)]⟩) ⟨0,av,V,X⟩ ?_;rintro _ t ⟨a,s,n,l⟩ k x hr;refine o'<|sr<|η z<|η z<|Γ (P' em' (O.mono (mx B k)) z)<|Ð hr z (Z' z z) z (λaz hr=>?_) (λaz hr=>?_)
 .refine é ?_;intro hr;refine I' hr z (λN hr=>?_) (λN hr=>?_)
  .refine q'<|b'<|o'<|Y'<|fN [ff,ff,ff,ff,ff,ff,ff,ff,tt,tt] eP İ λhb=>cn (λ_ e=>y' 3 lC z z z)<|fO z<|fO z ?_
   refine é ?_;intro _ _ _ _ _ _ _ _ _ _ _ _ _ _ _ _ _ _ _ _ _ _ _ _ _ _ _ f hr _;refine kq (φ:=É f) (λ_=>z) (λv I K e h=>?_) (λu C e E=>?_) ?_
   .obtain⟨T,D,rfl,q⟩:=h;exact⟨_,_,z,q.mono e⟩
   .obtain⟨⟨p,o,Y,g⟩,_⟩:=(show(É f) C.m (u 22)/\True from E);simp only[υ,Y];exact⟨_,k' z,p,o,z,g⟩
   refine kq (φ:=kK f.1) (λ_=>z) (λv I K e h=>?_) (λu C e E=>?_) ?_
   .obtain⟨p2,ah,rfl,P⟩:=h;exact⟨_,_,z,P.mono e⟩
   .obtain⟨⟨T,D,m,q⟩,_,_⟩:=(show(É f) C.m (u 16)/\True/\True from E);simp only[υ,m];exact⟨_,O' z z,T,D,z,q⟩
   refine nh (c:=i' f.2.1) (λ_=>z) (λu C e E=>?_) ?_
   .obtain⟨_,⟨T,D,m,q⟩,_,_⟩:=(show True/\(É f) C.m (u 16)/\True/\True from E);simp only[υ,m];exact O' z z
   refine nh (c:=i' f.2.2) (λ_=>z) (λu C e E=>?_) ?_
   .obtain⟨_,⟨T,D,m,q⟩,_,_⟩:=(show True/\(É f) C.m (u 16)/\True/\True from E);simp only[υ,m];exact O' z z
   refine zO (d:=23) (post:=kK f.1) (d':=16) (post':=É f) (d'':=22) (post'':=É f) (λaI aG aK ar Z J L M=>?_);obtain⟨p2,ah,rfl,P⟩:=J;obtain⟨T,D,rfl,q⟩:=L;obtain⟨p,o,rfl,g⟩:=M;exact fY 3 rA z<|Ι
  exact Ι
 exact Ι
end Go.Proofs.YtepbagkffgddlaaGreat

namespace Go.Proofs.YtepbagkffgddlaaGreat
open Go.IntKind (i8 i16 i32 i64 u8 u16 u32 u64)
open Go.Proofs.Tryz
open Go Go.EL Go.RowKit Go.Proofs
set_option maxHeartbeats 4000000
set_option maxRecDepth 20000
theorem Pc(ax:(Ŀ Zr))(R:Zr)(ay:ŀ Addr)(aC:Nat)(V:ŀ Addr)(T:Nat)(K:ŀ Addr)(L:Nat)(U:ŀ Addr)(S:Nat)(Z:ŀ Addr)(Y:Nat)(r:Bool)(hr:(Jj ax R).Α r):Cr 6 #[δ ay ax aC,.agg ((pj R V T K L U S Z Y)).toArray] (λG=>sl M1 G ay aC ax/\sl tO G V T R.c.l/\sl (Rp.int .u8) G K L R.c.il/\sl (fV .i8 5) G U S R.p.t/\sl xX G Z Y R.l) (λG v=>v=.bool r):=by
 refine J' (args:=[_,_]) (N:=151) func6 z z z (λw0 G0 b7 bn=>?_);obtain⟨aX,aH,aw,aE,aP⟩:=bn;refine sr<|jO 3 z z z λb1=>dE z<|nr<|oE hr λau bc hr=>H' z z (x' E9 z) (dR'.h bc) z (trivial)<|Μ z<|o'<|sr<|η z<|Γ (gS z)<|nx<|iS hr z (λbN hr=>?_) (λbN hr=>?_)
 .refine sr<|Μ z<|m'<|a' (Å hr z z)
 refine q'<|b'<|sr<|η z<|oE hr λaz bd hr=>gw z z (x' X0 z) (gf'.h bd) z (aX) (λbW b0 al aL=>?_)
 obtain⟨ar,ap,rfl,W⟩:=aL;refine W' 6 z z26 z λb2=>fY 6 rA z<|nr<|Γ (y' 6 lC z z z)<|Γ (y' 3 uv z z z)<|oE hr λaB bj hr=>gw z z (x' XX z) (mf.h bj) z (⟨W,(aH.mono al),(aw.mono al),(aE.mono al),(aP.mono al)⟩) (λbR aO ac aJ=>?_)
 obtain⟨ai,ak,rfl,aj⟩:=aJ;refine η z<|kr z<|kr z<|kr z<|W' 7 z z26 z λb3=>fY 7 rA z<|dE z<|Μ z<|WC.nD hr [3,5,6,7] [3,6,7] (λ(_:Unit)=>⟨[],D3 R au az aB,tr,[]⟩) ?_ ?_
 .refine sr<|Γ (xM z)<|Γ (n' 7 zK z z z)<|Γ (P' qM aj z)<|Γ (xM z)<|Γ (n' 6 zK z z z)<|Γ (P' qM (W.mono ac) z)<|Ð hr z (Z' z z) z (λa9 hr=>?_) (λa9 hr=>?_)
  .refine η z<|fh z<|î (M' z z) z<|î (M' z z) z<|î (M' z z) z<|î (M' z z) z<|sf z z z<|Β z<|nx<|kC z<|sr<|Μ z<|m'<|a' (Å hr z z)
  refine η z<|iO z<|Ð hr (C' z z) (pI z z) z (λbl hr=>?_) (λbl hr=>?_)
  .refine iO z<|gy z z (y' 6 lC z z z) z<|gy z z (y' 7 lC z z z) z<|oE hr λbX aT hr=>H' (C' z z) z (x' OS z) (Wg.h aT) z (⟨(W.mono ac),aj⟩)<|gy z z (gS z) z<|gy z z (h' z z) z<|ν z<|nx<|iS hr z (λbw hr=>?_) (λbw hr=>?_)
   .refine sr<|Μ z<|m'<|a' (Å hr z z)
   exact Ι
  exact iO z<|lG z<|gy z z (f' z z) z<|ν z<|nx<|qO z<|Ι
 intro aR _ hr ah _;refine sr<|Γ (y' 6 lC z z z)<|Γ (ew' z)<|Γ (n' 3 dN z z z)<|oE hr λQ a5 hr=>gw z z (x' Iq z) (MZ.h a5) z ((W.mono (mx ac ah))) (λbT aM am aG=>?_)
 obtain⟨P,O,I,J,ag,ad,af,ae,rfl,aq,ao,bk,bb⟩:=aG;refine η z<|kr z<|kr z<|W' 10 z wI z λb4=>fY 10 qN z<|Μ z<|o'<|sr<|Μ z<|WC.mD hr [3,5,6,7,10,11] [3,6,7,10] [5] [] (λ(M:Int)=>⟨M,[(12,i' M)],tr,[]⟩) (λ(_:Unit)=>⟨(.inr ()),[],tr,[]⟩) 0 ?_ ?_
 .intro _ aA M D _ hr;refine o'<|sr<|η z<|Γ (xM z)<|Γ (n' 6 zK z z z)<|Γ (P' qM (W.mono (mx (mx (mx ac ah) am) D)) z)<|ku z<|nx<|I' hr z (λbz hr=>?_) (λbz hr=>?_)
  .refine q'<|b'<|o'<|Y'<|sr<|Γ (xM z)<|Γ (n' 6 zK z z z)<|η z<|oE hr λd a4 hr=>Γ (ki qM qN (W.mono (mx (mx (mx ac ah) am) D)) z z a4) ?_
   obtain⟨m,s,k,j,u,x,A,y,br,E,C,a,X⟩:=GL (T' (iN W a4) (mx (mx (mx ac ah) am) D));refine Γ (nf _ pO z z br)<|W' 13 z wI z λb5=>fY 13 qN z<|nr<|Γ (y' 7 lC z z z)<|Γ (BO z)<|Γ (n' 13 dN z z z)<|oE hr λc bi hr=>gw z z (x' Iq z) (MZ.h bi) z ((aj.mono (mx (mx ah am) D))) (λbQ av e aI=>?_)
   obtain⟨i,h,f,g,n,o,p,q,rfl,B,t,F,H⟩:=aI;refine η z<|kr z<|kr z<|W' 14 z wI z λb6=>fY 14 qN z<|Μ z<|WC.nD hr [3,5,6,7,10,11,12,13,14] [3,6,7,10,13,14] (λ(_:Unit)=>⟨[],yE R Q M d c,tr,[]⟩) ?_ ?_
   .refine sr<|Ð hr z (lB (k' z) (đ Value.bool (me _))) z (λbD hr=>?_) (λbD hr=>?_)
    .refine Γ (gS z)<|η z<|gy z z (xW z) z<|gy z z (n' 14 dN z z z) z<|gy z z (xW z) z<|gy z z (n' 13 dN z z z) z<|Ð hr (C' z z) (Z' z z) z (λbL hr=>?_) (λbL hr=>?_)
     .refine ν z<|η z<|lG z<|î (M' z z) z<|î (M' z z) z<|î (M' z z) z<|î (M' z z) z<|î (M' z z) z<|î (M' z z) z<|î (M' z z) z<|î (M' z z) z<|î (M' z z) z<|î (M' z z) z<|sf z z z<|Β z<|η z<|gK z<|Β z<|η z<|fh z<|î (M' z z) z<|î (M' z z) z<|î (M' z z) z<|sf z z z<|Β z<|η z<|mi z<|Β z<|η z<|mi z<|Β z<|nx<|kC z<|sr<|Μ z<|m'<|a'<|g'<|a'<|a'<|g'<|jt<|a' (Å hr z z)
     refine ν z<|η z<|gy z z (BJ z) z<|gy z z (n' 13 dN z z z) z<|Ð hr (C' z z) (uz z z) z (λbJ hr=>?_) (λbJ hr=>?_)
     .refine iO z<|gy z z (BJ z) z<|gy z z (n' 14 dN z z z) z<|Ð hr (C' z z) (Z' z z) z (λbF hr=>?_) (λbF hr=>?_)
      .refine iO z<|gK z<|gy z z (h' z z) z<|gy z z (h' z z) z<|ν z<|η z<|gK z<|Β z<|η z<|fh z<|î (M' z z) z<|î (M' z z) z<|î (M' z z) z<|sf z z z<|Β z<|η z<|mi z<|Β z<|η z<|mi z<|Β z<|nx<|kC z<|sr<|Μ z<|m'<|a'<|g'<|a'<|a'<|g'<|jt<|a' (Å hr z z)
      refine iO z<|gy z z (BJ z) z<|gy z z (n' 14 dN z z z) z<|gy z z (BJ z) z<|gy z z (n' 13 dN z z z) z<|Ð hr (C' z z) (uu z z) z (λbK hr=>?_) (λbK hr=>?_)
      .refine gy z z (f' z z) z<|gy z z (h' z z) z<|ν z<|η z<|gK z<|Β z<|η z<|fh z<|î (M' z z) z<|î (M' z z) z<|î (M' z z) z<|sf z z z<|Β z<|η z<|mi z<|Β z<|η z<|mi z<|Β z<|nx<|kC z<|sr<|Μ z<|m'<|a'<|g'<|a'<|a'<|g'<|jt<|a' (Å hr z z)
      refine gy z z (f' z z) z<|gy z z (h' z z) z<|ν z<|η z<|gy z z (zB z) z<|gy z z (n' 14 dN z z z) z<|gy z z (zB z) z<|gy z z (n' 13 dN z z z) z<|Ð hr (C' z z) (Z' z z) z (λbs hr=>?_) (λbs hr=>?_)
      .refine ν z<|η z<|fh z<|î (M' z z) z<|î (M' z z) z<|î (M' z z) z<|sf z z z<|Β z<|η z<|mi z<|Β z<|η z<|mi z<|Β z<|nx<|kC z<|sr<|Μ z<|m'<|a'<|g'<|a'<|a'<|g'<|jt<|a' (Å hr z z)
      refine ν z<|η z<|gy z z (xR z) z<|Ð hr (C' z z) (lB (n' 13 q6 z z z) (đ Value.bool (me _))) z (λbv hr=>?_) (λbv hr=>?_)
      .refine iO z<|gy z z (xR z) z<|Ð hr (C' z z) (lB (n' 14 q6 z z z) (đ Value.bool (me _))) z (λbh hr=>?_) (λbh hr=>?_)
       .refine gy z z (gS z) z<|gy z z (h' z z) z<|ν z<|η z<|gy z z (oJ z) z<|gy z z (R' ((ñ d.k m s k j)).toArray 13 kz z z z (jh ([i' d.id]) ((ñ d.k m s k j)) ([i' d.q.kind,δ u d.q.p x,δ A d.q.o y,i' d.ξ,i' d.low,i' d.high,.bool d.done]))) z<|gy z z (oJ z) z<|gy z z (R' ((ñ c.1.k i h f g)).toArray 14 kz z z z (jh ([i' c.1.id]) ((ñ c.1.k i h f g)) ([i' c.1.q.kind,δ n c.1.q.p o,δ p c.1.q.o q,i' c.1.ξ,i' c.1.low,i' c.1.high,.bool c.1.done]))) z<|oE hr λbG ba hr=>H' (C' z z) z (x' vd z) (vn _ _ _ _ _ _ _ _ _ _ _ ba) z (⟨(E.mono e),(C.mono e),B,t⟩) ?_
        cases bG
        .refine gy z z (gS z) z<|ν z<|η z<|mi z<|Β z<|nx<|kC z<|sr<|Μ z<|m'<|a'<|g'<|a'<|a'<|g'<|jt<|a' (Å hr z z)
        refine gy z z (gS z) z<|ν z<|η z<|gy z z (rq z) z<|gy z z (R' ([i' d.q.kind,δ u d.q.p x,δ A d.q.o y]).toArray 13 ng z z z (jh ([i' d.id,i' d.k.n,δ m d.k.eqs s,δ k d.k.ε j]) ([i' d.q.kind,δ u d.q.p x,δ A d.q.o y]) ([i' d.ξ,i' d.low,i' d.high,.bool d.done]))) z<|gy z z (rq z) z<|gy z z (R' ([i' c.1.q.kind,δ n c.1.q.p o,δ p c.1.q.o q]).toArray 14 ng z z z (jh ([i' c.1.id,i' c.1.k.n,δ i c.1.k.eqs h,δ f c.1.k.ε g]) ([i' c.1.q.kind,δ n c.1.q.p o,δ p c.1.q.o q]) ([i' c.1.ξ,i' c.1.low,i' c.1.high,.bool c.1.done]))) z<|oE hr λbU aY hr=>H' (C' z z) z (x' DZ z) (GQ.h aY) z (⟨(a.mono e),(X.mono e),F,H⟩)<|gy z z (gS z) z<|ν z<|nx<|iS hr z (λbI hr=>?_) (λbI hr=>?_)
        .refine sr<|Μ z<|m'<|a'<|g'<|a'<|a'<|g'<|jt<|a' (Å hr z z)
        exact Ι
       refine gy z z (gS z) z<|gy z z (h' z z) z<|ν z<|η z<|mi z<|Β z<|η z<|mi z<|Β z<|nx<|kC z<|sr<|Μ z<|m'<|a'<|g'<|a'<|a'<|g'<|jt<|a' (Å hr z z)
      refine iO z<|fh z<|gy z z (f' z z) z<|ν z<|η z<|gy z z (oJ z) z<|gy z z (R' ((ñ d.k m s k j)).toArray 13 kz z z z (jh ([i' d.id]) ((ñ d.k m s k j)) ([i' d.q.kind,δ u d.q.p x,δ A d.q.o y,i' d.ξ,i' d.low,i' d.high,.bool d.done]))) z<|gy z z (oJ z) z<|gy z z (R' ((ñ c.1.k i h f g)).toArray 14 kz z z z (jh ([i' c.1.id]) ((ñ c.1.k i h f g)) ([i' c.1.q.kind,δ n c.1.q.p o,δ p c.1.q.o q,i' c.1.ξ,i' c.1.low,i' c.1.high,.bool c.1.done]))) z<|oE hr λbf aW hr=>H' (C' z z) z (x' vd z) (vn _ _ _ _ _ _ _ _ _ _ _ aW) z (⟨(E.mono e),(C.mono e),B,t⟩) ?_
      cases bf
      .refine gy z z (gS z) z<|ν z<|η z<|mi z<|Β z<|nx<|kC z<|sr<|Μ z<|m'<|a'<|g'<|a'<|a'<|g'<|jt<|a' (Å hr z z)
      refine gy z z (gS z) z<|ν z<|η z<|gy z z (rq z) z<|gy z z (R' ([i' d.q.kind,δ u d.q.p x,δ A d.q.o y]).toArray 13 ng z z z (jh ([i' d.id,i' d.k.n,δ m d.k.eqs s,δ k d.k.ε j]) ([i' d.q.kind,δ u d.q.p x,δ A d.q.o y]) ([i' d.ξ,i' d.low,i' d.high,.bool d.done]))) z<|gy z z (rq z) z<|gy z z (R' ([i' c.1.q.kind,δ n c.1.q.p o,δ p c.1.q.o q]).toArray 14 ng z z z (jh ([i' c.1.id,i' c.1.k.n,δ i c.1.k.eqs h,δ f c.1.k.ε g]) ([i' c.1.q.kind,δ n c.1.q.p o,δ p c.1.q.o q]) ([i' c.1.ξ,i' c.1.low,i' c.1.high,.bool c.1.done]))) z<|oE hr λbS aS hr=>H' (C' z z) z (x' DZ z) (GQ.h aS) z (⟨(a.mono e),(X.mono e),F,H⟩)<|gy z z (gS z) z<|ν z<|nx<|iS hr z (λbC hr=>?_) (λbC hr=>?_)
      .refine sr<|Μ z<|m'<|a'<|g'<|a'<|a'<|g'<|jt<|a' (Å hr z z)
      exact Ι
     refine iO z<|lG z<|î (M' z z) z<|î (M' z z) z<|î (M' z z) z<|î (M' z z) z<|î (M' z z) z<|sk z z z<|gy z z (f' z z) z<|ν z<|η z<|gy z z (zB z) z<|gy z z (n' 14 dN z z z) z<|gy z z (zB z) z<|gy z z (n' 13 dN z z z) z<|Ð hr (C' z z) (Z' z z) z (λa7 hr=>?_) (λa7 hr=>?_)
     .refine ν z<|η z<|fh z<|î (M' z z) z<|î (M' z z) z<|î (M' z z) z<|sf z z z<|Β z<|η z<|mi z<|Β z<|η z<|mi z<|Β z<|nx<|kC z<|sr<|Μ z<|m'<|a'<|g'<|a'<|a'<|g'<|jt<|a' (Å hr z z)
     refine ν z<|η z<|gy z z (xR z) z<|Ð hr (C' z z) (lB (n' 13 q6 z z z) (đ Value.bool (me _))) z (λbe hr=>?_) (λbe hr=>?_)
     .refine iO z<|gy z z (xR z) z<|Ð hr (C' z z) (lB (n' 14 q6 z z z) (đ Value.bool (me _))) z (λbo hr=>?_) (λbo hr=>?_)
      .refine gy z z (gS z) z<|gy z z (h' z z) z<|ν z<|η z<|gy z z (oJ z) z<|gy z z (R' ((ñ d.k m s k j)).toArray 13 kz z z z (jh ([i' d.id]) ((ñ d.k m s k j)) ([i' d.q.kind,δ u d.q.p x,δ A d.q.o y,i' d.ξ,i' d.low,i' d.high,.bool d.done]))) z<|gy z z (oJ z) z<|gy z z (R' ((ñ c.1.k i h f g)).toArray 14 kz z z z (jh ([i' c.1.id]) ((ñ c.1.k i h f g)) ([i' c.1.q.kind,δ n c.1.q.p o,δ p c.1.q.o q,i' c.1.ξ,i' c.1.low,i' c.1.high,.bool c.1.done]))) z<|oE hr λa8 aV hr=>H' (C' z z) z (x' vd z) (vn _ _ _ _ _ _ _ _ _ _ _ aV) z (⟨(E.mono e),(C.mono e),B,t⟩) ?_
       cases a8
       .refine gy z z (gS z) z<|ν z<|η z<|mi z<|Β z<|nx<|kC z<|sr<|Μ z<|m'<|a'<|g'<|a'<|a'<|g'<|jt<|a' (Å hr z z)
       refine gy z z (gS z) z<|ν z<|η z<|gy z z (rq z) z<|gy z z (R' ([i' d.q.kind,δ u d.q.p x,δ A d.q.o y]).toArray 13 ng z z z (jh ([i' d.id,i' d.k.n,δ m d.k.eqs s,δ k d.k.ε j]) ([i' d.q.kind,δ u d.q.p x,δ A d.q.o y]) ([i' d.ξ,i' d.low,i' d.high,.bool d.done]))) z<|gy z z (rq z) z<|gy z z (R' ([i' c.1.q.kind,δ n c.1.q.p o,δ p c.1.q.o q]).toArray 14 ng z z z (jh ([i' c.1.id,i' c.1.k.n,δ i c.1.k.eqs h,δ f c.1.k.ε g]) ([i' c.1.q.kind,δ n c.1.q.p o,δ p c.1.q.o q]) ([i' c.1.ξ,i' c.1.low,i' c.1.high,.bool c.1.done]))) z<|oE hr λbV a1 hr=>H' (C' z z) z (x' DZ z) (GQ.h a1) z (⟨(a.mono e),(X.mono e),F,H⟩)<|gy z z (gS z) z<|ν z<|nx<|iS hr z (λbq hr=>?_) (λbq hr=>?_)
       .refine sr<|Μ z<|m'<|a'<|g'<|a'<|a'<|g'<|jt<|a' (Å hr z z)
       exact Ι
      refine gy z z (gS z) z<|gy z z (h' z z) z<|ν z<|η z<|mi z<|Β z<|η z<|mi z<|Β z<|nx<|kC z<|sr<|Μ z<|m'<|a'<|g'<|a'<|a'<|g'<|jt<|a' (Å hr z z)
     refine iO z<|fh z<|gy z z (f' z z) z<|ν z<|η z<|gy z z (oJ z) z<|gy z z (R' ((ñ d.k m s k j)).toArray 13 kz z z z (jh ([i' d.id]) ((ñ d.k m s k j)) ([i' d.q.kind,δ u d.q.p x,δ A d.q.o y,i' d.ξ,i' d.low,i' d.high,.bool d.done]))) z<|gy z z (oJ z) z<|gy z z (R' ((ñ c.1.k i h f g)).toArray 14 kz z z z (jh ([i' c.1.id]) ((ñ c.1.k i h f g)) ([i' c.1.q.kind,δ n c.1.q.p o,δ p c.1.q.o q,i' c.1.ξ,i' c.1.low,i' c.1.high,.bool c.1.done]))) z<|oE hr λbg a3 hr=>H' (C' z z) z (x' vd z) (vn _ _ _ _ _ _ _ _ _ _ _ a3) z (⟨(E.mono e),(C.mono e),B,t⟩) ?_
     cases bg
     .refine gy z z (gS z) z<|ν z<|η z<|mi z<|Β z<|nx<|kC z<|sr<|Μ z<|m'<|a'<|g'<|a'<|a'<|g'<|jt<|a' (Å hr z z)
     refine gy z z (gS z) z<|ν z<|η z<|gy z z (rq z) z<|gy z z (R' ([i' d.q.kind,δ u d.q.p x,δ A d.q.o y]).toArray 13 ng z z z (jh ([i' d.id,i' d.k.n,δ m d.k.eqs s,δ k d.k.ε j]) ([i' d.q.kind,δ u d.q.p x,δ A d.q.o y]) ([i' d.ξ,i' d.low,i' d.high,.bool d.done]))) z<|gy z z (rq z) z<|gy z z (R' ([i' c.1.q.kind,δ n c.1.q.p o,δ p c.1.q.o q]).toArray 14 ng z z z (jh ([i' c.1.id,i' c.1.k.n,δ i c.1.k.eqs h,δ f c.1.k.ε g]) ([i' c.1.q.kind,δ n c.1.q.p o,δ p c.1.q.o q]) ([i' c.1.ξ,i' c.1.low,i' c.1.high,.bool c.1.done]))) z<|oE hr λbP a2 hr=>H' (C' z z) z (x' DZ z) (GQ.h a2) z (⟨(a.mono e),(X.mono e),F,H⟩)<|gy z z (gS z) z<|ν z<|nx<|iS hr z (λbB hr=>?_) (λbB hr=>?_)
     .refine sr<|Μ z<|m'<|a'<|g'<|a'<|a'<|g'<|jt<|a' (Å hr z z)
     exact Ι
    refine Γ (gS z)<|η z<|gK z<|Β z<|η z<|lG z<|î (M' z z) z<|î (M' z z) z<|î (M' z z) z<|î (M' z z) z<|î (M' z z) z<|î (M' z z) z<|î (M' z z) z<|î (M' z z) z<|î (M' z z) z<|î (M' z z) z<|sf z z z<|Β z<|η z<|gK z<|Β z<|η z<|fh z<|î (M' z z) z<|î (M' z z) z<|î (M' z z) z<|sf z z z<|Β z<|η z<|mi z<|Β z<|η z<|mi z<|Β z<|nx<|kC z<|sr<|Μ z<|m'<|a'<|g'<|a'<|a'<|g'<|jt<|a' (Å hr z z)
   intro an _ hr l _;refine sr<|Γ (Y0.VL z)<|Γ (n' 3 Df z z z)<|Γ (vT z z ĳ)<|Ð hr z (eB z z) z (λbM hr=>?_) (λbM hr=>?_)
   .refine η z<|wz z<|î (M' z z) z<|î (M' z z) z<|î (M' z z) z<|î (M' z z) z<|î (M' z z) z<|î (M' z z) z<|sf z z z<|Β z<|η z<|gy z z (y' 13 pO z z z) z<|gy z z (y' 14 pO z z z) z<|oE hr λbZ a6 hr=>H' (C' z z) z (x' OT z) (Wf.h a6) z (⟨(E.mono (mx e l)),(C.mono (mx e l)),(a.mono (mx e l)),(X.mono (mx e l)),(B.mono l),(t.mono l),(F.mono l),(H.mono l)⟩)<|gy z z (gS z) z<|Β z<|nx<|iS hr z (λbE hr=>?_) (λbE hr=>?_)
    .refine sr<|Μ z<|m'<|g'<|a'<|a'<|g'<|jt<|a' (Å hr z z)
    exact Ι
   refine η z<|Ð hr (C' z z) (lB (k' z) (đ Value.bool (me _))) z (λbA hr=>?_) (λbA hr=>?_)
   .refine iO z<|gy z z (oJ z) z<|gy z z (R' ((ñ d.k m s k j)).toArray 13 kz z z z (jh ([i' d.id]) ((ñ d.k m s k j)) ([i' d.q.kind,δ u d.q.p x,δ A d.q.o y,i' d.ξ,i' d.low,i' d.high,.bool d.done]))) z<|gy z z (oJ z) z<|gy z z (R' ((ñ Q.1.k P O I J)).toArray 10 kz z z z (jh ([i' Q.1.id]) ((ñ Q.1.k P O I J)) ([i' Q.1.q.kind,δ ag Q.1.q.p ad,δ af Q.1.q.o ae,i' Q.1.ξ,i' Q.1.low,i' Q.1.high,.bool Q.1.done]))) z<|oE hr λbH bm hr=>H' (C' z z) z (x' vd z) (vn _ _ _ _ _ _ _ _ _ _ _ bm) z (⟨(E.mono (mx e l)),(C.mono (mx e l)),(aq.mono (mx (mx D e) l)),(ao.mono (mx (mx D e) l))⟩) ?_
    cases bH
    .refine gy z z (gS z) z<|gy z z (h' z z) z<|ν z<|η z<|gy z z (y' 13 pO z z z) z<|gy z z (y' 14 pO z z z) z<|oE hr λbY bp hr=>H' (C' z z) z (x' OT z) (Wf.h bp) z (⟨(E.mono (mx e l)),(C.mono (mx e l)),(a.mono (mx e l)),(X.mono (mx e l)),(B.mono l),(t.mono l),(F.mono l),(H.mono l)⟩)<|gy z z (gS z) z<|Β z<|nx<|iS hr z (λbx hr=>?_) (λbx hr=>?_)
     .refine sr<|Μ z<|m'<|g'<|a'<|a'<|g'<|jt<|a' (Å hr z z)
     exact Ι
    exact gy z z (gS z) z<|gy z z (h' z z) z<|ν z<|η z<|lG z<|ν z<|nx<|qO z<|Ι
   exact iO z<|mi z<|gy z z (f' z z) z<|ν z<|η z<|lG z<|ν z<|nx<|qO z<|Ι
  exact Ι
 intro aQ _ hr bO _;refine b'<|sr<|η z<|Μ z<|m' (Å hr z z)
instance {e:(Ŀ Zr)}{R:Zr}{r:Bool}:SpcM ((Jj e R)) r (∀{d:ŀ Addr}{c:Nat}{V:ŀ Addr}{T:Nat}{K:ŀ Addr}{L:Nat}{U:ŀ Addr}{S:Nat}{Z:ŀ Addr}{Y:Nat},Cr 6 #[δ d e c,.agg ((pj R V T K L U S Z Y)).toArray] (λG=>sl M1 G d c e/\sl tO G V T R.c.l/\sl (Rp.int .u8) G K L R.c.il/\sl (fV .i8 5) G U S R.p.t/\sl xX G Z Y R.l) (λG v=>v=.bool r)):=⟨λa {d c V T K L U S Z Y}=>Pc _ _ d c V T K L U S Z Y _ a⟩
end Go.Proofs.YtepbagkffgddlaaGreat

namespace Go.EL
open Go.IntKind (i8 i16 i32 i64 u8 u16 u32 u64)
open Go Go.RowKit
def B5:Ú:=[⟨þ 1,ζ (λ_=>0) (0:Int).toNat 1⟩]
def zQ:Zb:=⟨1,[B5],[]⟩
theorem ZAu:ω B5:=ω.of (by decide +kernel)
theorem rm:eA zQ where
 ok:={
  n:=ĳ
  eqs:=⟨ĳ,λp hp=>by
   rw[Ĕ.1 (show p∈[B5]from hp)];exact⟨ZAu,by decide +kernel,ĳ,by decide +kernel,by decide +kernel⟩,Ū _ _⟩
  ε:=⟨ĳ,λp hp=>absurd hp ĝ,List.Pairwise.nil⟩ }
 n3:=ĳ
theorem B6:(Mj 0).Α (B5,0):=⟨ĳ,_,(xL (n:=1) ĳ).1,rfl⟩
abbrev q4:Zc:=⟨4,[],[]⟩
abbrev q5:Zc:=⟨5,[],[]⟩
def jW:Zb:=(â zQ).1
def gP:Ze:=⟨[⟨1,jW,q4,0,0,-1,false⟩],2⟩
def uH:Ze:=⟨[⟨1,jW,q4,0,0,-1,false⟩,⟨2,jW,q5,0,0,-1,false⟩],3⟩
theorem ZAv:hP q4≠hP q5:=by intro e;have:=đ ByteArray.toList e;revert this;decide +kernel
theorem Gm:q4∈ù 5:=Ĕ.2 rfl
theorem Vl:q5∈ù 6:=Ĕ.2 rfl
theorem ZAw:hM jW q4≠hM jW q5:=λe=>ZAv (VF rm.canon.ok rm.canon.ok e).2
theorem Ur:ie gP jW q4=(gP,1):=by
 unfold ie;have:eO gP.t (hM jW q4)=some ⟨1,jW,q4,0,0,-1,false⟩:=by unfold eO gP;exact List.find?_cons_of_pos (Ă rfl)
 rw[this]
theorem Ma:gG jB zQ q4=(gP,1,0):=by unfold gG;rw[ą (EO Gm rm.ok),EN Gm];rfl
theorem Zzu:gG gP zQ q4=(gP,1,0):=by unfold gG;rw[ą (EO Gm rm.ok),EN Gm];show((ie gP jW q4).1,(ie gP jW q4).2,0)=_;rw[Ur]
theorem Mb:gG gP zQ q5=(uH,2,0):=by
 unfold gG;rw[ą (EO Vl rm.ok),EN Vl];have a:ib 4 gP jW q4=(gP,1):=Ur;have e:ib 5 gP jW q5=ie (ib 4 gP jW q4).1 jW q5:=rfl;have c:ie gP jW q5=(uH,2):=by
  unfold ie;have:eO gP.t (hM jW q5)=none:=by unfold eO gP;exact(List.find?_cons_of_neg (by rw[Ę];exact ZAw)).trans rfl
  rw[this];rfl
 show((ib 5 gP jW q5).1,(ib 5 gP jW q5).2,0)=_;rw[e,a,c]
theorem Zzv:gG gP zQ ⟨11,[],[]⟩=(⟨[],0⟩,0,1):=rfl
theorem vG:ê gP:=by have:=(FM yZ rm (fa.nil 4) (by rw[Ma])).ok;rwa [Ma]at this
theorem Zzt:ê uH:=by have:=(FM vG rm (fa.nil 5) (by rw[Mb])).ok;rwa [Mb]at this
abbrev B4:Zj:=⟨5,[],1,0,0,[],[],[],[]⟩
abbrev sA(n:Int):Zj:=⟨12,[],n,0,0,[],[],[],[]⟩
theorem O5:jW.n=1:=rm.UI
theorem Zzw:hV gP 1 [B4] 3=(⟨[⟨1,jW,q4,4,0,-1,true⟩],2⟩,0):=by
 rw[sJ (rfl) ĳ (by
  show([B4].all (ã jW))=true;unfold ã;rw[O5];decide +kernel)]
 show(Ze.mk [stepT jW 1 [B4] 3 ⟨1,jW,q4,0,0,-1,false⟩] 2,(0:Int))=_;unfold stepT;rw[ą rfl];rfl
theorem Zzx:hV gP 2 [] 3=(⟨[],0⟩,380):=uO rfl
theorem Zzy:hV gP 1 [] 13=(⟨[],0⟩,1):=qZ rfl ĳ
theorem Zzz:hV uH 2 [sA 5,sA 7] 0=(⟨[⟨1,jW,q4,0,0,-1,false⟩,⟨2,jW,q5,1,0,5,false⟩],3⟩,0):=by
 rw[sJ (rfl) ĳ (by
  show([sA 5,sA 7].all (ã jW))=true;unfold ã;rw[O5];decide +kernel)]
 show(Ze.mk [stepT jW 2 [sA 5,sA 7] 0 ⟨1,jW,q4,0,0,-1,false⟩,stepT jW 2 [sA 5,sA 7] 0 ⟨2,jW,q5,0,0,-1,false⟩] 3,(0:Int))=_;unfold stepT;rw[ą rfl,ą rfl];rfl
end Go.EL

namespace Go.EL
open Go.IntKind (i8 i16 i32 i64 u8 u16 u32 u64)
open Go Go.RowKit
theorem ZAt:Ë B4:=.BU 1 0 ĳ ĳ
theorem VI{n:Int}(h:0<=n/\n<=7):Ë (sA n):=.zJ 12 n ĳ h
theorem Zn4:JN.Α true:=by
 have w1:=Bc yZ ĳ rm (fa.nil 4);rw[Ma]at w1;have w2:=Bc vG ĳ rm (fa.nil 4);rw[Zzu]at w2;have w3:=AT vG ĳ 1 (l:=[B4]) ĳ (λc a=>by rw[Ĕ.1 a];exact ZAt) 3;rw[Zzw]at w3;have w4:=Bc vG ĳ rm (fa.nil 11);rw[Zzv]at w4;have w5:=AT vG ĳ 2 (l:=[]) ĳ (λc a=>absurd a ĝ) 3;rw[Zzx]at w5;have w6:=AT vG ĳ 1 (l:=[]) ĳ (λc a=>absurd a ĝ) 13;rw[Zzy]at w6;have m:=(y3 (B:=⟨[⟨1,jW,q4,4,0,-1,true⟩],2⟩) ĳ 1).1;have w8:=Qs vG.og ĳ;have j:=Bc vG ĳ rm (fa.nil 5);rw[Mb]at j;have d:=AT Zzt ĳ 2 (l:=[sA 5,sA 7]) ĳ (λc a=>by
  rcases Ď.1 a with a|a
  .rw[a];exact VI ĳ
  rw[Ĕ.1 a];exact VI ĳ) 0
 rw[Zzz]at d;have f:=(y3 (B:=⟨[⟨1,jW,q4,0,0,-1,false⟩,⟨2,jW,q5,1,0,5,false⟩],3⟩) ĳ 2).1;have g:(E0 jB).Α true:=by
  rcases UN (Zwc yZ.DH)with h|h
  .exact h.2
  exact absurd (yZ.valid ĳ) h.1
 have i:=Zu8 yZ ĳ;have k:(Jk (B5,0) (gP,1,0)).Α true:=by refine⟨_,rfl,_,j,Cq.wp.no (λe=>e rfl) ⟨_,d,_,f,Cq.wp.yes rfl (Cq.wp.yes rfl (Cq.wp.yes rfl (Cq.wp.yes rfl (Cq.wp.no ĳ ⟨jB,rfl,true,g,jB,rfl,_,i,?_⟩))))⟩⟩;rfl
 refine⟨_,B6,jB,rfl,_,rfl,_,w1,_,rfl,_,w2,_,w3,_,rfl,_,w4,_,w5,_,w6,_,m,?_⟩;exact Cq.wp.no (λe=>e rfl) (Cq.wp.no (λe=>e rfl) (Cq.wp.no (λe=>e rfl) (Cq.wp.no (λe=>e rfl) (Cq.wp.no (λe=>e rfl) (Cq.wp.no (λe=>e rfl) (Cq.wp.no (λe=>e rfl) ⟨true,w8,Cq.wp.yes rfl (Cq.wp.yes rfl (Cq.wp.no (λe=>e rfl) (Cq.wp.no (λe=>e rfl) k)))⟩))))))
end Go.EL

namespace Go.EL
open Go.IntKind (i8 i16 i32 i64 u8 u16 u32 u64)
open Go Go.RowKit
theorem U7{B:Ze}(h:ê B){s t:Zd}(g:s∈B.t)(k:t∈B.t)(e:s.id=t.id):s=t:=by obtain⟨i,hi,a⟩:=ķ.1 g;obtain⟨j,f,c⟩:=ķ.1 k;have h3:=h.ids i hi;have d:=h.ids j f;rw[a]at h3;rw[c]at d;have:i=j:=ŉ;subst this;rw[<-a,<-c]
theorem Gk{B:Ze}(h:ê B){t:Zd}(c:t∈B.t):Ò B.t t.id=(t,true):=by
 unfold Ò;cases a:B.t.find? λu=>decide (u.id=t.id)with
 |some u=>
  have e:u.id=t.id:=by simpa using aaj a
  rw[U7 h (ej a) c e]
 |none=>
  have:=List.find?_eq_none.1 a t c;exact absurd (Ă rfl) this
end Go.EL

namespace Go.EL
open Go.IntKind (i8 i16 i32 i64 u8 u16 u32 u64)
open Go Go.RowKit
structure fi (t u:Zd):Prop where
 low:t.low<=u.low
 high:0<=t.high->0<=u.high/\u.high<=t.high
 GJ:t.ξ<=u.ξ
 done:t.done=true->u.done=true
 k:u.k=t.k
 q:u.q=t.q
 id:u.id=t.id
theorem fi.refl(t:Zd):fi t t:=⟨Ō _,λh=>⟨h,Ō _⟩,Ō _,λh=>h,rfl,rfl,rfl⟩
theorem fi.trans{s t u:Zd}(h:fi s t)(k:fi t u):fi s u:=
 ⟨dO h.low k.low,λa=>by have:=h.high a;have:=k.high this.1;omega,dO h.GJ k.GJ,λa=>k.done (h.done a),k.k.trans h.k,k.q.trans h.q,k.id.trans h.id⟩
theorem Zvt(t:Zd)(c:Zj):fi t (iZ t c) where
 low:=by show t.low<=yc _ _;unfold yc;split<;>omega
 high h:=by
  show 0<=ou _ _/\ou _ _<=t.high;unfold ou;repeat' split
  all_goals omega
 GJ:=Ō _
 done h:=by show(t.done || _)=true;rw[h];rfl
 k:=rfl
 q:=rfl
 id:=rfl
theorem Rw:∀(l:Ŀ Zj) (t:Zd),fi t (l.foldl iZ t)
 |[],t=>fi.refl t
 |c::l,t=>(Zvt t c).trans (Rw l _)
theorem Zvb(id Ζ:Int)(t:Zd):fi t (kj id Ζ t):=by
 unfold kj;split
 .refine⟨Ō _,λh=>⟨h,Ō _⟩,?_,λh=>h,rfl,rfl,rfl⟩;show t.ξ<=(if t.ξ<Ζ+1 then Ζ+1 else t.ξ);split<;>omega
 exact fi.refl t
theorem ZtH(k:Zb)(id:Int)(l:Ŀ Zj)(Ζ:Int)(t:Zd):fi t (stepT k id l Ζ t):=by
 unfold stepT;refine fi.trans ?_ (Zvb id Ζ _);split
 .exact Rw l t
 exact fi.refl t
theorem Zvj{B:Ze}(h:ê B){x:Zr}{k:Zb}{q:Zc}{l:Ŀ Zj}(m:pr x k q l){t:Zd}(i:t∈B.t):
  ∃u,Ò (gX B x k q l).1.t t.id=(u,true)/\fi t u/\(Int.tmod x.fC 2=0->u=t)/\((Ò B.t x.id).2=true->ý t.k≠ý (Ò B.t x.id).1.k->u=t):=by
 have d:=(K4 h m).1
 unfold gX at d⊢
 split at d
 .rename_i j
  rw[ą j]
  split at d
  .rename_i a
   rw[ą a]
   exact⟨t,Gk d ((FM h m.k m.q a).mem i),fi.refl t,λ_=>rfl,λ_ _=>rfl⟩
  rename_i a
  rw[ā a]
  exact⟨t,Gk h i,fi.refl t,λ_=>rfl,λ_ _=>rfl⟩
 rename_i j
 rw[ā j]
 split at d
 .rename_i a
  rw[ą a]
  by_cases f:(Ò B.t x.id).2=true
  .by_cases c:x.Ζ<0\/12<x.Ζ
   .rw[qZ f c]at a;cases a
   cases hr:l.all (ã (Ò B.t x.id).1.k)with
   |false=>rw[ye f c hr]at a;cases a
   |true=>
    rw[sJ f c hr]at d⊢
    have n:=ZtH (Ò B.t x.id).1.k x.id l x.Ζ t
    have r:stepT (Ò B.t x.id).1.k x.id l x.Ζ t∈B.t.map (stepT (Ò B.t x.id).1.k x.id l x.Ζ):=Ğ.2 ⟨t,i,rfl⟩
    have g:=Gk d r
    rw[n.id]at g
    refine⟨_,g,n,λe=>absurd e j,λ_ p=>?_⟩
    obtain⟨o1,o2⟩:=Fm f
    unfold stepT kj
    rw[ā p,ā]
    intro e
    exact p (by rw[U7 h i o1 (by rw[e,o2])])
  rw[uO (by simpa using f)]at a;cases a
 rename_i a
 rw[ā a]
 exact⟨t,Gk h i,fi.refl t,λ_=>rfl,λ_ _=>rfl⟩
theorem Zx7{B:Ze}{x:Zr}{k:Zb}{q:Zc}{l:Ŀ Zj}(a:¬(gX B x k q l).2.2=0):(gX B x k q l).1=B:=by
 unfold gX at a⊢;split at a
 .rw[ą ‹_›];split at a
  .exact absurd ‹_› a
  rw[ā ‹_›]
 rw[ā ‹_›];split at a
 .exact absurd rfl a
 rw[ā ‹_›]
theorem ZmP{l:Ŀ Zr}(h:∀x∈l,iQ x){x:Zr}(F:iQ x):(Jj l x).Α true:=by
 obtain⟨B,C,g,J⟩:=Zva h;obtain⟨k,q,c,hp⟩:=T7 F;obtain⟨d1,d2,d3⟩:=K4 g hp;have D:=(SP g ŉ hp).1;have own:=(y3 (B:=B) ŉ x.id).1;have A:(D3 x true B (gX B x k q c)).Α true:=by
  refine⟨_,own,?_⟩;have key:(Pe x B (gX B x k q c) (Ò B.t x.id) 0).wp λo=>o=if((List.range B.t.length).all λ_=>true)=true then .inr ()else .inl false:=by
   refine zj B.t.length ŉ (λ_=>true) (λi hi=>?_) (Cq.wp.no ŉ rfl);have y:=ă hi;obtain⟨u,G,d,H,I⟩:=Zvj g hp y;have v:=(y3 (B:=(gX B x k q c).1) ŉ B.t[i].id).1;rw[G]at v;have tq:=g.og _ y;have t:k8 u:=⟨by rw[d.k];exact tq.k,by rw[d.q];exact tq.q⟩;have m:(Z7 B.t[i].k u.k).Α true:=by have:=A0 tq.k t.k;rwa [Ă (by rw[d.k])]at this
   have sq:(ZY B.t[i].q u.q).Α true:=by have:=K0 tq.q t.q;rwa [Ă (by rw[d.q])]at this
   have st:u=B.t[i]->(yN B.t[i] u).Α true:=λe=>Ta tq t (by rw[e];exact mN.refl _);have k3:(yE x (Ò B.t x.id) (i:Int) B.t[i] (u,true)).wp λo=>o=.inl (i64.wrap ((i:Int)+1)):=by
    by_cases s:Int.tmod x.fC 2=0
    .exact Cq.wp.yes s ⟨true,st (H s),Cq.wp.nr rfl rfl⟩
    refine Cq.wp.no s ?_;by_cases j:(Ò B.t x.id).2=true
    .refine Cq.wp.yes j ⟨_,A0 tq.k (g.og _ (Fm j).1).k,?_⟩;by_cases n:ý B.t[i].k=ý (Ò B.t x.id).1.k
     .rw[Ă n];exact rfl
     rw[ċ n];exact⟨true,st (I j n),Cq.wp.nr rfl rfl⟩
    exact Cq.wp.no j rfl
   rw[ą rfl];refine Cq.wp.yes ŉ ⟨_,Ξ hi,_,v,Cq.wp.yes rfl (Cq.wp.no (by have:=d.low;show ¬u.low<B.t[i].low;omega) ?_)⟩;have f:¬u.ξ<B.t[i].ξ:=by have:=d.GJ;omega
   by_cases r:0<=B.t[i].high
   .have E:=d.high r;refine Cq.wp.yes r (Cq.wp.no (show ¬u.high<0 by omega) (Cq.wp.no (show ¬B.t[i].high<u.high by omega) (Cq.wp.no f ?_)));by_cases a:B.t[i].done=true
    .exact Cq.wp.yes a (Cq.wp.yes (d.done a) ⟨true,m,true,sq,Cq.wp.nr rfl k3⟩)
    exact Cq.wp.no a ⟨true,m,true,sq,Cq.wp.nr rfl k3⟩
   refine Cq.wp.no r (Cq.wp.no f ?_);by_cases a:B.t[i].done=true
   .exact Cq.wp.yes a (Cq.wp.yes (d.done a) ⟨true,m,true,sq,Cq.wp.nr rfl k3⟩)
   exact Cq.wp.no a ⟨true,m,true,sq,Cq.wp.nr rfl k3⟩
  have e:((List.range B.t.length).all λ_=>true)=true:=Ć.2 λ_ _=>rfl;rw[e]at key;exact Cq.eY key rfl
 refine⟨true,Zn4,Cq.wp.nr rfl ⟨B,C,_,D,Cq.wp.no ŉ ?_⟩⟩;by_cases p:(gX B x k q c).2.2=0
 .exact Cq.wp.no (λe=>e p) A
 refine Cq.wp.yes p ⟨true,?_,Cq.wp.nr rfl A⟩;rw[Zx7 p];exact Qs g.og ŉ
end Go.EL

