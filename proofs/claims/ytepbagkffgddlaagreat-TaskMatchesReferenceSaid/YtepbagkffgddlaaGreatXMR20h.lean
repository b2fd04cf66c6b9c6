/- The law TaskMatchesReference holds for every input: a part of its proof (fX the code does, plain models, and fX they return). No condition. -/
import Derived.Test.YtepbagkffgddlaaGreatXMR20gb
import Derived.Test.YtepbagkffgddlaaGreatXMR20e
set_option linter.unusedVariables false
set_option linter.unusedSimpArgs false
namespace Go.Proofs.YtepbagkffgddlaaGreat
open Go.IntKind (i8 i16 i32 i64 u8 u16 u32 u64)
open Go.Proofs.Tryz
open Go Go.EL Go.RowKit Go.Proofs
set_option maxHeartbeats 4000000
set_option maxRecDepth 20000
instance iQ'{k n r}:SpcM ((K6 k n)) r (∀{f c d e m l},Cr 120 #[.agg ((Υ k f c d e)).toArray,δ m n l] (λG=>su G f c k.num.υ/\su G d e k.den.υ/\sl c' G m l n) (fO c' r)):=.mk λhr {f c d e m l}=>Η
instance gF'{H K F O r}:SpcM ((A4 H K F O)) r (∀{s t},Cr 65 #[.agg ([δ s H.t t]).toArray,i' K,i' F,i' O] (λG=>sl (gb .i8 5) G s t H.t) (fO c' r)):=.mk λhr {s t}=>by
 refine Ξ ?_;intro w0 G0 ay b1 p1 an M aP hr E;refine WC.mC hr [1,2,3,4] [4] [] [] (λ(⟨q,m,p,o⟩:(Ŀ Za)×ŀ Addr×Nat×Int)=>⟨(q,o),[(9,δ m q p),(10,i' o)],λQ=>sl c' Q m p q,[]⟩) (λ(⟨W,Y,L⟩:(Ŀ Za)×ŀ Addr×Nat)=>⟨W,[(9,δ Y W L)],λah=>sl c' ah Y L W,[]⟩) ⟨[],p1,0,0⟩ ?_;rintro _ Q ⟨q,m,p,o⟩ n ad hr;refine WC.nB hr [1,2,3,4,9,10] [4] (λ(_:Unit)=>⟨[],Q1 H K F q o,tr,[]⟩) ?_;intro T _ hr I _;refine Ξ ?_;intro U hr;refine WC.mB hr [1,2,3,4,9,10,11] [4] [1,2,3,4,9,10,11] [4] (λ(⟨y,l,P⟩:Int×Int×(Fin 8->Int))=>⟨(y,l,P),[(12,i' y),(13,i' l)],tr,[(11,ú U (Ö P) 145)]⟩) (λ(J:(Fin 8->Int))=>⟨J,[],tr,[(11,ú U (Ö J) 145)]⟩) ⟨F,0,(λ_=>0)⟩ ?_;intro am J hr S _;refine b'<|fC [tt,ff,ff,ff,ff,ff,ff,ff,ff,ff,ff,ff] eL İ λhb=>um z (k' z)<|cn (λ_ j=>Y0.VA z)<|cn (λ_ j=>n' 4 C6 z z z)<|fp z ?_
 obtain⟨x1,x,hr⟩:=hr;have a:=mx (mx (mx M n) I) S;refine cn (λ_ j=>jV fY' wu ((E.mono a).mono j) z z x)<|cn (λ_ j=>VX underlying197 s7 z z ĳ)<|cn (λ_ j=>mH sN z (Gz (T' (T' (iD E x) a) j) ĳ))<|cn (λ_ j=>xL z z ĳ)<|cn (λ_ j=>pB VY dw' z)<|oE hr λu aE hr=>pA (post:=ep u) (λ_=>z) (λ_ _=>x' DP z) (Gy.h aE) z (λG' j=>trivial) (λv X G2 j h=>?_) ?_
 .obtain⟨ac,aa,V,Z,rfl,B,A⟩:=h;exact⟨_,_,_,_,z,B.mono j,A.mono j⟩
 refine oE hr λk aF hr=>pA (post:=ep k) (λ_=>z) (λ_ _=>x' DP z) (Gy.h aF) z (λG' j=>trivial) (λv X G2 j h=>?_) ?_
 .obtain⟨c,g,f,i,rfl,D,C⟩:=h;exact⟨_,_,_,_,z,D.mono j,C.mono j⟩
 refine cu (λ_ _ j=>y' 11 Gs z z (U' _ _ _))<|GA (d:=67) (post:=ep k) (d':=66) (post':=ep u) (λa4 a5 ba af al ai=>?_)
 obtain⟨c,g,f,i,rfl,D,C⟩:=al;obtain⟨ac,aa,V,Z,rfl,B,A⟩:=ai;refine Δ (l1 (vs:=#[(0,.agg ((Υ k c g f i)).toArray),(1,.agg (Ö J).toArray)]) (v:=.agg (((Υ k c g f i):Ŀ Value)++(Ö J)).toArray) z z (λ_=>İ))<|mW (e:=147) (r:=c') (vs:=#[(0,.agg (((Υ k c g f i):Ŀ Value)++(Ö J)).toArray)]) (cs:=(((Υ k c g f i):Ŀ Value)++(Ö J))++([])) ([(Za.mk k J)]:Ŀ Za) z z z z z ĳ (λ_=>İ) ⟨((Υ k c g f i):Ŀ Value)++(Ö J),[],z,⟨(Υ k c g f i),Ö J,z,⟨(η k.num c g),(η k.den f i),z,⟨[.bool k.num.neg],[δ c k.num.υ g],z,z,⟨_,z,D⟩⟩,⟨[.bool k.den.neg],[δ f k.den.υ i],z,z,⟨_,z,C⟩⟩⟩,z⟩,z⟩ (key:=999) z (by rw[ay];rfl) (λp2 bc R aQ=>?_)
 refine oE hr λbb aK hr=>gJ z z (x' HS z) (iQ'.h aK) z (⟨(B.mono R),(A.mono R),aQ⟩) (λa0 a9 N ak=>?_);obtain⟨aZ,a6,rfl,aD⟩:=ak;refine oE hr λaM aC hr=>gJ z z (x' zF z) (WM.h aC) z (⟨(ad.mono (mx (mx (mx (mx I S) af) R) N)),aD⟩) (λa3 aT ar aj=>?_);obtain⟨aI,aH,rfl,aG⟩:=aj;have N2:=mx (mx (mx (mx (mx (mx n I) S) af) R) N) ar;exact Η
instance iY'{x r}:SpcM ((FI x)) r (∀{Y V F H},Cr 63 #[.agg ((Ou x Y V F H)).toArray] (λG=>sl vK G Y V x.l/\sl (Rp.int .u8) G F H x.iR) (DF r)):=.mk λhr {Y V F H}=>by
 refine Ξ ?_;intro w0 G0 _ aw al b1 b2 _ aH S bb hr _;obtain⟨bg,hr⟩:=hr;refine WL.slice3 (r:=Rp.str) z z BG yg z bb z z z bg λp2 bd=>?_;refine ê ?_;intro b3 hr;refine WC.mC (hH:=by exact⟨bd,(X' _ _),kH,(X' _ _),kH⟩) hr [1,2,4,5] [1,2] [2,5] [2] (λ(⟨R,f,k,l,g,p,q,A,d,o,n,t,c⟩:Int×(Ŀ Ĳ)×ŀ Addr×Nat×(Ŀ Zo)×ŀ Addr×Nat×ŀ Ow×(Ŀ Zo)×ŀ Addr×Nat×ŀ Ow×Int)=>⟨(R,f,g,d,c),[(6,i' R)],λa=>sl Rp.str a k l f/\sl vJ a p q g/\Tok 2 194 (δ p g q) g.length A/\sl vJ a o n d/\Tok 2 194 (δ o d n) d.length t,[(5,ú b3 ([δ k f l,δ p g q,δ o d n,i' c]) 129),(310051,A),(310052,t)]⟩) (λ(⟨ac,ag,af,J,X,Z,ae,E,K,Q,U,ah⟩:(Ŀ Ĳ)×ŀ Addr×Nat×(Ŀ Zo)×ŀ Addr×Nat×ŀ Ow×(Ŀ Zo)×ŀ Addr×Nat×ŀ Ow×Int)=>⟨(ac,J,E,ah),[],λap=>sl Rp.str ap ag af ac/\sl vJ ap X Z J/\Tok 2 194 (δ X J Z) J.length ae/\sl vJ ap K Q E/\Tok 2 194 (δ K E Q) E.length U,[(5,ú b3 ([δ ag ac af,δ X J Z,δ K E Q,i' ah]) 129),(310051,ae),(310052,U)]⟩) ⟨0,(([Au,As,Ar].take (i64.wrap (Int.tmod x.n 4)).toNat).drop (0:Int).toNat),p2,(([Au,As,Ar].take (i64.wrap (Int.tmod x.n 4)).toNat).drop (0:Int).toNat).length,[],none,0,none,[],none,0,none,1⟩ ?_;rintro _ a ⟨R,f,k,l,g,p,q,A,d,o,n,t,c⟩ C ⟨L,e,M,P,I⟩ hr;refine WC.nD hr [1,2,4,5,6] [1,2,5,310051,310052] (λ(_:Unit)=>⟨[],EA x R f g d c,tr,[]⟩) ?_ ?_
 .refine sr<|θ z<|Δ (Y0.Vz z)<|Δ (n' 1 yb z z z)<|Δ (P' fd' (al.mono (mx S C)) z)<|dQ hr z (Z' z z) z (λbj hr=>?_) (λbj hr=>?_)
  .refine Ξ ?_;intro _ hr;refine nP ⟨a,f,k,l,g,p,q,A,d,o,n,t,c⟩ ⟨hr,C,L,e,M,P,I⟩ (Å z) (w4 z z z z)
  refine Ξ ?_;intro hr;refine nP ⟨a,f,k,l,g,p,q,A,d,o,n,t,c⟩ ⟨hr,C,L,e,M,P,I⟩ (Å z) (w4 z z z z)
 intro ao _ hr y _;refine o'<|Y'<|sr<|Ρ z<|WC.nB hr [1,2,4,5,6] [1,2,5,310051,310052] (λ(m:Int)=>⟨[(7,i' m)],Ez x R f g d c m,tr,[]⟩) ?_
 intro aG m hr D _;refine o'<|fC [ff,ff,ff,ff,ff,ff,ff,ff,ff,ff,ff,ff,ff] eL İ λhb=>cn (λ_ s=>BZ z)<|cn (λ_ s=>n' 5 eK z z z) ?_
 refine ê ?_;intro _ _ _ _ _ _ _ _ _ B hr _;refine jU (φ:=λG v=>∃p3 T,v=.agg ([i' (i64.wrap (c+m)),δ p3 B T]).toArray/\sl c' G p3 T B) (λ_=>z) (λv G1 G2 s h=>?_) (λu G' s hu=>?_) ?_
 .obtain⟨p3,T,rfl,aA⟩:=h;exact⟨_,_,z,aA.mono s⟩
 .obtain⟨⟨j,i,aM,ar⟩,_⟩:=(show(fO c' B) G'.m (u 55)/\True from hu);simp only[ς,aM];exact⟨_,l1 (vs:=#[(0,i' (i64.wrap (c+m))),(1,δ j B i)]) (v:=.agg ([i' (i64.wrap (c+m)),δ j B i]).toArray) z z (λ_=>İ),j,i,z,ar⟩
 refine lg (λ_=>z) z194<|GI (λbA bs bt X1 W aJ aE aC=>?_)
 obtain⟨b4,rfl,aU⟩:=aJ;obtain⟨p3,T,rfl,aA⟩:=aE;obtain⟨j,i,rfl,ar⟩:=aC;refine pP aU (mi (show WL _ _ _ _ _ _ (St w0 G0 X1.m _)from ?_));refine gl 8 n9 z<|t'<|Θ<|b'<|o' ?_
 refine ê ?_;intro hr;refine I' hr z (λbk hr=>?_) (λbk hr=>?_)
 .refine Ξ ?_;intro _ _ aj a8 hr;obtain⟨aT,hr⟩:=hr;have N:=mx (mx (mx y D) W) aj;refine jH (r:=vJ) 310052 z z vD vN z ĳ z z (P.mono N) z (by rw[aw];rfl) I a8 aT λp5 aF a3 bc au bi a0=>Δ (GJ z)<|rb 5 ([δ k f l,δ p g q,.slice p5 (d++[(Zo.mk (i64.wrap (c+m)) B)]).length aF,i' c]).toArray z wm z z z (show 2<4 by decide) z z ?_
  refine ê ?_;intro hr;refine N' ⟨bc,i64.wrap (R+1),f,k,l,g,p,q,A,(d++[(Zo.mk (i64.wrap (c+m)) B)]),p5,aF,a3,i64.wrap ((i64.wrap (c+m))+1)⟩ hr ⟨(mx (mx (mx (mx (mx C y) D) W) aj) au),(L.mono (mx N au)),(e.mono (mx N au)),M,bi,a0⟩ (Å z) (w5 z z z z z)
 refine Ξ ?_;intro _ _ ak a6 hr;obtain⟨aZ,hr⟩:=hr;have O:=mx (mx (mx y D) W) ak;refine jH (r:=vJ) 310051 z z vD vN z ĳ z z (e.mono O) z (by rw[aw];rfl) M a6 aZ λp7 aK aS bh aq a9 aX=>Δ (GK z)<|rb 5 ([δ k f l,.slice p7 (g++[(Zo.mk (i64.wrap (c+m)) B)]).length aK,δ o d n,i' c]).toArray z wm z z z (show 1<4 by decide) z z ?_
 refine ê ?_;intro hr;refine N' ⟨bh,i64.wrap (R+1),f,k,l,(g++[(Zo.mk (i64.wrap (c+m)) B)]),p7,aK,aS,d,o,n,t,i64.wrap ((i64.wrap (c+m))+1)⟩ hr ⟨(mx (mx (mx (mx (mx C y) D) W) ak) aq),(L.mono (mx O aq)),a9,aX,(P.mono (mx O aq)),I⟩ (Å z) (w5 z z z z z)
instance Wn{n A g r}:SpcM ((A6 n A g)) r (∀{m l},Cr 202 #[δ m n l,i' A,i' g] (λG=>sl vJ G m l n) (λG v=>v=.bool r)):=.mk λhr {m l}=>by
 refine Ξ ?_;intro F i _ _ hr e;refine WC.mC hr [0,1,2] [] [] [] (λ(k:Int)=>⟨k,[(7,i' k)],tr,[]⟩) (λ(_:Unit)=>⟨(.inr ()),[],tr,[]⟩) 0 ?_;intro _ f k d _ hr;refine o'<|sr<|θ z<|θ z<|Δ (P' vD (e.mono d) z)<|kl z<|nx<|I' hr z (λE hr=>?_) (λE hr=>?_)
 .exact q'<|b'<|o'<|Y'<|o'<|fC [ff,ff,ff,ff,ff,ff,ff,ff,ff,ff,ff,ff,ff,ff,ff,ff,ff,ff,ff,ff,ff,ff,ff,ff,ff,ff,ff,ff,ff,ff,ff,ff,ff,ff,ff,ff,ff,ff,ff,ff] eL İ λh=>fp z<|fp z<|oE hr λa t hr=>cn (λ_ c=>jV vD n9 ((e.mono d).mono c) z z t)<|cn (λ_ c=>MU z)<|cn (λ_ c=>mH eK z (vy (T' (T' (r6 (nQ (iD e t))) d) c)))<|Η
 exact Η
instance nF{c r}:SpcM ((Az c)) r (Cr 260 #[.int .u8 c] (λG=>True) (λG v=>v=.bool r)):=.mk λhr=>by
 refine Ξ ?_;intro _ _ _ _ _ hr _;refine É (M' z z) z<|É (M' z z) z<|sf z z z<|Ι z<|Ρ z<|m' (Ó hr z z)
instance iZ'{e r}:SpcM ((FJ e)) r (Cr 203 #[.string e] (λG=>True) (λG v=>v=.bool r)):=.mk λhr=>by
 refine ê ?_;intro k h _ hr _;refine WC.nB hr [0] [] (λ(_:Unit)=>⟨[],Q3 e,tr,[]⟩) ?_;intro f _ hr I _;refine o'<|sr<|Ρ z<|WC.mC hr [0] [] [] [] (λ(g:Int)=>⟨g,[(3,i' g)],tr,[]⟩) (λ(_:Unit)=>⟨(.inr ()),[],tr,[]⟩) 1 ?_
 intro _ d g c _ hr;refine o'<|sr<|θ z<|θ z<|Δ (Y0.CF xD z)<|kl z<|nx<|I' hr z (λH hr=>?_) (λH hr=>?_)
 .refine q'<|b'<|o'<|Y'<|sr<|θ z<|θ z<|oA hr λn hr=>Δ (eJ' (s:=e) xD z z n)<|oE hr λt m hr=>H' z z (x' Ix z) (nF.h m) z (trivial) ?_
  cases t
  .exact Η
  exact Δ (kG z)<|θ z<|ia z<|É (M' z z) z<|É (M' z z) z<|É (M' z z) z<|É (M' z z) z<|yd z<|ο z<|θ z<|nJ z<|ο z<|nx<|tF z<|Η
 exact Η
instance iR'{j r}:SpcM ((E8 j)) r (∀{d c i h f e},Cr 116 #[.agg ((tl j d c i h f e)).toArray] (λG=>DJ G d c i h f e j) (λG v=>v=.bool r)):=.mk λhr {d c i h f e}=>by
 refine J' (args:=[_]) (N:=96) func116 z z z (λJ C au K=>?_);obtain⟨k,p,m⟩:=K;refine sr<|jM 1 z z z λu=>Ï z<|nr<|Δ (GL z)<|Δ (n' 1 n5 z z z)<|Δ (P' BG k z)<|Ρ z<|WC.nD hr [1,3] [1] (λ(_:Unit)=>⟨[],Qv j,tr,[]⟩) ?_ ?_
 .refine sr<|θ z<|dQ hr z (vz z z) z (λal hr=>?_) (λal hr=>?_)
  .refine θ z<|fL z<|Ι z<|θ z<|fL z<|Ι z<|θ z<|qT z<|Ι z<|θ z<|qT z<|Ι z<|nx<|oh z<|sr<|Ρ z<|m'<|a' (Ó hr z z)
  refine θ z<|gy z z (BZ z) z<|gy z z (n' 1 eK z z z) z<|dQ hr (C' z z) (Z' z z) z (λai hr=>?_) (λai hr=>?_)
  .refine ο z<|θ z<|fL z<|Ι z<|θ z<|qT z<|Ι z<|θ z<|qT z<|Ι z<|nx<|oh z<|sr<|Ρ z<|m'<|a' (Ó hr z z)
  refine ο z<|θ z<|gy z z (BZ z) z<|gy z z (n' 1 eK z z z) z<|dQ hr (C' z z) (vz z z) z (λam hr=>?_) (λam hr=>?_)
  .refine ο z<|θ z<|qT z<|Ι z<|θ z<|qT z<|Ι z<|nx<|oh z<|sr<|Ρ z<|m'<|a' (Ó hr z z)
  refine ο z<|θ z<|gy z z (GK z) z<|gy z z (n' 1 lT z z z) z<|kN z<|gy z z (BZ z) z<|gy z z (n' 1 eK z z z) z<|oE hr λad Y hr=>H' (C' z z) z (x' zO z) (Wn.h Y) z (p) ?_
  cases ad
  .refine gy z z (kG z) z<|ο z<|θ z<|qT z<|Ι z<|nx<|oh z<|sr<|Ρ z<|m'<|a' (Ó hr z z)
  refine gy z z (kG z) z<|ο z<|θ z<|gy z z (GJ z) z<|gy z z (n' 1 lT z z z) z<|kN z<|gy z z (BZ z) z<|gy z z (n' 1 eK z z z) z<|oE hr λar a hr=>H' (C' z z) z (x' zO z) (Wn.h a) z (m)<|gy z z (kG z) z<|ο z<|nx<|kc hr z (λaj hr=>?_) (λaj hr=>?_)
  .refine sr<|Ρ z<|m'<|a' (Ó hr z z)
  refine q'<|pD ⟨C,()⟩ ⟨hr,mr,trivial⟩ (Å z) (w1 z)
 intro E _ hr l _;refine o'<|sr<|Ρ z<|WC.mD hr [1,3] [1] [1] [1] (λ(x:Int)=>⟨x,[(4,i' x)],tr,[]⟩) (λ(_:Unit)=>⟨(.inr ()),[],tr,[]⟩) 0 ?_ ?_
 .intro _ A x n _ hr;refine o'<|sr<|θ z<|θ z<|kl z<|nx<|I' hr z (λaf hr=>?_) (λaf hr=>?_)
  .refine q'<|b'<|o'<|Y'<|o'<|sr<|Ρ z<|WC.mD hr [1,3,4] [1] [1,3,4] [1] (λ(F:Int)=>⟨F,[(5,i' F)],tr,[]⟩) (λ(_:Unit)=>⟨(.inr ()),[],tr,[]⟩) 0 ?_ ?_
   .intro _ L F s _ hr;refine o'<|sr<|θ z<|θ z<|kl z<|nx<|I' hr z (λak hr=>?_) (λak hr=>?_)
    .refine q'<|b'<|o'<|Y'<|o'<|fC [ff,ff,ff,ff,ff,ff,ff,ff,ff,ff] eL İ λZ=>cn (λ_ g=>GL z)<|cn (λ_ g=>n' 1 n5 z z z)<|fp z<|oE hr λx4 U hr=>cn (λ_ g=>jV BG yg ((k.mono (mx (mx l n) s)).mono g) z z U)<|cn (λ_ g=>mH C7 z (AtK.str (T' (T' (iD k U) (mx (mx l n) s)) g)))<|cn (λ_ g=>GL z)<|cn (λ_ g=>n' 1 n5 z z z)<|fp z<|oE hr λx5 W hr=>cn (λ_ g=>jV BG yg ((k.mono (mx (mx l n) s)).mono g) z z W)<|cn (λ_ g=>mH C7 z (AtK.str (T' (T' (iD k W) (mx (mx l n) s)) g)))<|oH Z<|Δ (Y0.ur xD z z)<|t'<|Θ<|b'<|I' hr z (λag hr=>?_) (λag hr=>?_)
     .refine sr<|Ρ z<|m'<|g'<|a'<|a'<|g'<|mN<|a'<|g'<|a'<|a'<|g'<|mN<|a' (Ó hr z z)
     refine q'<|E'<|b'<|w'<|θ z<|iC z<|Ï z<|t'<|N' ⟨L,i64.wrap (F+1)⟩ hr ⟨s,trivial⟩ (Å z) (w1 z)
    refine na<|p'<|p'<|K'<|nP ⟨L,()⟩ ⟨hr,s,trivial⟩ (Å z) (w1 z)
   intro O _ hr I _;refine b'<|sr<|Δ (GL z)<|Δ (n' 1 n5 z z z)<|θ z<|oE hr λx3 S hr=>Δ (jV BG yg (k.mono (mx (mx l n) I)) z z S)<|Δ (mH C7 z (AtK.str (T' (iD k S) (mx (mx l n) I))))<|oE hr λaq X hr=>H' z z (x' Ig z) (iZ'.h X) z (trivial)<|Δ (kG z)<|nx<|kc hr z (λae hr=>?_) (λae hr=>?_)
   .refine sr<|Ρ z<|m'<|g'<|a'<|a'<|g'<|mN<|a' (Ó hr z z)
   refine q'<|E'<|b'<|w'<|θ z<|iC z<|Ï z<|t'<|N' ⟨O,i64.wrap (x+1)⟩ hr ⟨(mx n I),trivial⟩ (Å z) (w1 z)
  refine na<|p'<|p'<|K'<|nP ⟨A,()⟩ ⟨hr,n,trivial⟩ (f1 z) (w1 z)
 intro D _ hr t _;refine b'<|o'<|sr<|Ρ z<|WC.mD hr [1] [1] [] [] (λ(y:Int)=>⟨y,[(6,i' y)],tr,[]⟩) (λ(_:Unit)=>⟨(.inr ()),[],tr,[]⟩) 0 ?_ ?_
 .intro _ B y o _ hr;refine o'<|sr<|θ z<|Δ (GK z)<|Δ (n' 1 lT z z z)<|Δ (P' vD (p.mono (mx (mx l t) o)) z)<|kl z<|nx<|I' hr z (λao hr=>?_) (λao hr=>?_)
  .refine q'<|b'<|o'<|Y'<|sr<|Ρ z<|WC.mD hr [1,6] [1] [1,6] [1] (λ(H:Int)=>⟨H,[(7,i' H)],tr,[]⟩) (λ(_:Unit)=>⟨(.inr ()),[],tr,[]⟩) 0 ?_ ?_
   .intro _ M H q _ hr;refine o'<|sr<|θ z<|Δ (GJ z)<|Δ (n' 1 lT z z z)<|Δ (P' vD (m.mono (mx (mx (mx l t) o) q)) z)<|kl z<|nx<|I' hr z (λah hr=>?_) (λah hr=>?_)
    .refine q'<|b'<|o'<|Y'<|o'<|fC [ff,ff,ff,ff,ff,ff,ff,ff,ff,ff,ff,ff] eL İ λZ=>cn (λ_ g=>GK z)<|cn (λ_ g=>n' 1 lT z z z)<|fp z<|oE hr λx1 V hr=>cn (λ_ g=>jV vD n9 ((p.mono (mx (mx (mx l t) o) q)).mono g) z z V)<|cn (λ_ g=>MU z)<|cn (λ_ g=>mH eK z (vy (T' (T' (r6 (nQ (iD p V))) (mx (mx (mx l t) o) q)) g)))<|cn (λ_ g=>GJ z)<|cn (λ_ g=>n' 1 lT z z z)<|fp z<|oE hr λx2 T hr=>cn (λ_ g=>jV vD n9 ((m.mono (mx (mx (mx l t) o) q)).mono g) z z T)<|cn (λ_ g=>MU z)<|cn (λ_ g=>mH eK z (vy (T' (T' (r6 (nQ (iD m T))) (mx (mx (mx l t) o) q)) g)))<|oH Z<|Δ (eA z z)<|t'<|Θ<|b'<|I' hr z (λan hr=>?_) (λan hr=>?_)
     .refine sr<|Ρ z<|m'<|g'<|a'<|a'<|g'<|mN<|g'<|a'<|a'<|g'<|mN<|a' (Ó hr z z)
     refine q'<|E'<|b'<|w'<|θ z<|iC z<|Ï z<|t'<|N' ⟨M,i64.wrap (H+1)⟩ hr ⟨q,trivial⟩ (Å z) (w1 z)
    refine na<|p'<|p'<|K'<|nP ⟨M,()⟩ ⟨hr,q,trivial⟩ (Å z) (w1 z)
   intro P _ hr R _;refine E'<|b'<|w'<|θ z<|iC z<|Ï z<|t'<|N' ⟨P,i64.wrap (y+1)⟩ hr ⟨(mx o R),trivial⟩ (Å z) (w1 z)
  refine na<|p'<|p'<|K'<|nP ⟨B,()⟩ ⟨hr,o,trivial⟩ fn (wk ln)
 intro Q _ hr ap _;refine b'<|sr<|Ρ z<|m' (Ó hr z z)
instance l4{E r}:SpcM ((E7 E)) r (∀{B y},Cr 117 #[δ B E y] (λG=>sl vJ G B y E) (fO (Rp.sl c') r)):=.mk λhr {B y}=>by
 refine Ξ ?_;intro Q P x p1 u _ S hr _;refine WC.mC (hH:=by exact⟨S,kH⟩) hr [0] [] [] [] (λ(⟨c,g,d,f,D⟩:(Ŀ (Ŀ Za))×ŀ Addr×Nat×ŀ Ow×Int)=>⟨(c,D),[(3,δ g c d),(4,i' D)],λn=>sq n g d c/\Tok 1 50 (δ g c d) c.length f,[(1003,f)]⟩) (λ(⟨i,k,j,l⟩:(Ŀ (Ŀ Za))×ŀ Addr×Nat×ŀ Ow)=>⟨i,[(3,δ k i j)],λp=>sq p k j i/\Tok 1 50 (δ k i j) i.length l,[(1003,l)]⟩) ⟨[],p1,0,none,0⟩ ?_;rintro _ n ⟨c,g,d,f,D⟩ h ⟨s,o⟩ hr;refine Ξ ?_;intro _ A _ _ _ _ _ _ _ _ _ q V hr _;refine oA hr λL hr=>jH (r:=(Rp.sl c')) 1003 z z jL js z ĳ z z (s.mono q) z (by rw[x];rfl) o V L λp4 O M T C Z J=>Ï z<|t'<|E'<|b'<|w'<|θ z<|iC z<|Ï z<|t'<|N' ⟨T,(c++[A.p]),p4,O,M,i64.wrap (D+1)⟩ hr ⟨(mx (mx h q) C),Z,J⟩ (Å z) (w1 z)
instance ja'{Q r}:SpcM ((Lw Q)) r (∀{m o C B p s},Cr 62 #[.agg ((tl Q m o C B p s)).toArray] (λG=>DJ G m o C B p s Q) (lY r)):=.mk λhr {m o C B p s}=>by
 refine ê ?_;intro _ _ _ _ _ _ _ _ _ hr _;refine o' ?_;refine ê ?_;intro _ hr _;refine kc hr z (λy hr=>?_) (λy hr=>?_)
 .exact Η
 refine q'<|b'<|o'<|fC [ff,ff,ff,ff,ff,ff,ff,ff,ff,ff,ff,tt] eL İ λhb=>?_
 refine ê ?_;intro K _ R hr _;refine oE hr λA X hr=>ma (f:=74) (φ:=lY A) (λ_=>z) (λv n Z c h=>?_) (λu E c a=>?_) ?_
 .obtain⟨l,k,j,g,rfl,e,d⟩:=h;exact⟨_,_,_,_,z,e.mono c,d.mono c⟩
 .obtain⟨⟨O,P,V,t⟩,⟨L,M,U,x⟩,_⟩:=(show(fO (Rp.sl c') R) E.m (u 17)/\(fO (Rp.sl c') K) E.m (u 14)/\True from a);exact⟨_,_,_,λ_=>x' Yd z,gW'.h X,(by simp only[V,U]<;>rfl),⟨x,t⟩⟩
 refine γ.ni (kk:=18) (φ:=uW A.1) İ (λ_=>z) (λv n Z c h=>?_) (λu E c a=>?_) ?_
 .obtain⟨p1,af,p2,q,rfl,S,T⟩:=h;exact⟨_,_,_,_,z,S.mono c,T.mono c⟩
 .obtain⟨⟨l,k,j,g,D,e,d⟩,_,_,_⟩:=(show(lY A) E.m (u 18)/\True/\True/\True from a);exact⟨_,_,D,(by simp only[ς,D]<;>rfl),z,l,k,j,g,z,e,d⟩
 refine γ.te (d0:=19) (post0:=uW A.1) (d1:=18) (post1:=lY A) (d2:=17) (post2:=fO (Rp.sl c') R) (d3:=14) (post3:=fO (Rp.sl c') K) (λY W am an ap N F I H J=>?_);obtain⟨p1,af,p2,q,rfl,S,T⟩:=F;obtain⟨l,k,j,g,rfl,e,d⟩:=I;obtain⟨O,P,rfl,t⟩:=H;obtain⟨L,M,rfl,x⟩:=J;refine kM z<|gl 2 tG z<|Ï z<|t'<|Θ<|b'<|m' ?_
 obtain rfl:_=r:=hr;exact uh z (kB (i:=2) mX z z z) z ⟨_,_,_,_,z,S,T⟩
instance Wg{e r}:SpcM ((A8 e)) r (∀{g f d c j h n m},Cr 25 #[.agg ((tm e g f d c j h n m)).toArray] (λG=>sl vK G g f e.c.l/\sl (Rp.int .u8) G d c e.c.iR/\sl (gb .i8 5) G j h e.p.t/\sl BH G n m e.l) (uW r)):=.mk λhr {g f d c j h n m}=>Η
instance jl'{r}:SpcM ((Us)) r (Cr 121 #[] (λG=>True) (fO (gb .i64 8) r)):=.mk λhr=>Η
instance oq{r}:SpcM ((EV)) r (Cl 122 #[] [] (λG=>True) (λG L v=>∃m g c,L=[(7000,c)]/\v=δ m r g/\Γ (gb .i64 8) 71 G (δ m r g) r c)):=.mk λhr=>by
 refine rf (args:=[]) (N:=3) func122 z z z λn k h o=>sr<|Ï z<|nr<|Δ (l1 (vs:=#[(0,i' 1),(1,i' 1),(2,i' 1),(3,i' 1),(4,i' 1),(5,i' 1),(6,i' 1),(7,i' 1)]) (v:=.agg (Ö (ζ (ζ (ζ (ζ (ζ (ζ (ζ (ζ (λ_=>0) 0 1) 1 1) 2 1) 3 1) 4 1) 5 1) 6 1) 7 1)).toArray) z z (λ_=>İ))<|WL.sB (e:=71) (r:=(gb .i64 8)) (vs:=#[(0,.agg (Ö (ζ (ζ (ζ (ζ (ζ (ζ (ζ (ζ (λ_=>0) 0 1) 1 1) 2 1) 3 1) 4 1) 5 1) 6 1) 7 1)).toArray)]) (cs:=(Ö (ζ (ζ (ζ (ζ (ζ (ζ (ζ (ζ (λ_=>0) 0 1) 1 1) 2 1) 3 1) 4 1) 5 1) 6 1) 7 1))++([])) ([ζ (ζ (ζ (ζ (ζ (ζ (ζ (ζ (λ_=>0) 0 1) 1 1) 2 1) 3 1) 4 1) 5 1) 6 1) 7 1]:Ŀ (Fin 8->Int)) 4002 z z z z z ĳ (λ_=>İ) ⟨Ö (ζ (ζ (ζ (ζ (ζ (ζ (ζ (ζ (λ_=>0) 0 1) 1 1) 2 1) 3 1) 4 1) 5 1) 6 1) 7 1),[],z,z,z⟩ λp d l=>Ρ z<|m' ?_
 obtain rfl:_=r:=hr;refine mP (S':=St n k k [(7000,d)]) ?_ ?_
 .intro w f;have f:=f.Ý (i:=4002) (j:=7000) z (by rw[h];rfl);exact f.weaken (lc z ln)
 exact j' z z ⟨_,_,_,z,z,l⟩
instance gL'{r}:SpcM ((EG)) r (Cr 123 #[] (λG=>True) (fO (gb .i64 8) r)):=.mk λhr=>by
 refine Ξ ?_;intro K P g hr _;have a:=tL (w0:=K);refine oE hr λO M hr=>mQ z z (x' zG z) (oq.h M) z (trivial) ln a (λp t m d s=>?_);obtain⟨I,H,B,rfl,rfl,F⟩:=s;refine mj (λw x=>x.Ý (i:=7000) (j:=4003) z (by rw[g];rfl))<|Ρ z<|o'<|sr<|Ρ z<|nv (X:=(Ŀ (Fin 8->Int))×ŀ Addr×Nat×ŀ Ow×Int×Mem) hr (λ⟨k,q,l,c,A,f⟩=>⟨(k,A),[(1,δ q k l),(2,i' A)],Mem.le t f/\Γ (gb .i64 8) 71 f (δ q k l) k c,St K P f [(4001,c)]⟩) (λ(⟨v,u,y,h,n⟩:(Ŀ (Fin 8->Int))×ŀ Addr×Nat×ŀ Ow×Mem)=>⟨v,[(1,δ u v y)],Mem.le t n/\Γ (gb .i64 8) 71 n (δ u v y) v h,St K P n [(4001,h)]⟩) ⟨O,I,H,B,7,t⟩ z (Å z) ⟨mr,F⟩ ?_ ?_ ?_
 .intro w x;have x:=x.Ý (i:=4003) (j:=4001) z (by rw[g];rfl);exact x.weaken (lc z ln)
 .rintro _ ⟨k,q,l,c,A,f⟩ ⟨o,C⟩ hr;exact Η
 rintro⟨v,u,y,h,n⟩ ⟨hr,W,R⟩;refine Ξ ?_;intro hr;obtain rfl:_=r:=hr;refine uo (r:=(gb .i64 8)) (e:=71) 4001 R z (by rw[g];rfl) λD J Z E Y=>j' z z ⟨_,_,z,E⟩
instance jn'{c d r}:SpcM ((Vd c d)) r (Cr 209 #[.int .u8 c,i' d] (λG=>True) (λG v=>v=.bool r)):=.mk λhr=>Η
instance il{i r}:SpcM ((Jc i)) r (Cr 124 #[.int .u8 i] (λG=>True) (fO (gb .i64 8) r)):=.mk λhr=>by
 refine Ξ ?_;intro D k L q hr _;refine WC.mB hr [0,3] [] [3] [] (λ(⟨j,c⟩:Int×(Fin 8->Int))=>⟨(j,c),[(4,i' j)],tr,[(3,ú q (Ö c) 71)]⟩) (λ(d:(Fin 8->Int))=>⟨d,[],tr,[(3,ú q (Ö d) 71)]⟩) ⟨0,(λ_=>0)⟩ ?_;intro p d hr P _;refine b'<|o'<|fC [ff,ff,ff] eL İ λv=>cn (λ_ m=>y' 3 zn z z (U' _ _ _))<|γ.nk (r:=(gb .i64 8)) (e:=71) ([d]:Ŀ (Fin 8->Int)) (λ_=>z) z ĳ (λu U m E=>?_) ?_
 .exact⟨#[(0,.agg (Ö d).toArray)],(Ö d)++([]),z,z,λ_=>by kernel_rfl,⟨Ö d,[],z,z,z⟩⟩
 refine Ξ ?_;intro _ hr _;refine γ.ns (λg V a T o n=>?_);obtain⟨y,B,rfl,l⟩:=o;refine WL.kE n (λZ Y R t C W=>?_);subst t;refine mi (show WL _ _ _ _ _ _ (St D k a.m _)from ?_);refine oA hr λF hr=>GB (r:=(gb .i64 8)) (e:=71) 16 z z tB nW z ĳ z z C z l F λp1 s f M=>Ï z<|t'<|Θ<|b'<|m' ?_
 obtain rfl:_=r:=hr;refine uo (r:=(gb .i64 8)) (e:=71) 16 M z (by rw[L];rfl) λaf h S H Q=>j' z z ⟨_,_,z,H⟩
instance hJ'{f r}:SpcM ((xh f)) r (Cr 66 #[.int .u8 f] (λG=>True) (fO (gb .i64 8) r)):=.mk λhr=>by
 refine ê ?_;intro H n d hr _;have g:=tL (w0:=H);refine I' hr z (λL hr=>?_) (λL hr=>?_)
 .exact Η
 refine sr<|Δ (eA z z)<|Ρ z<|I' hr z (λF hr=>?_) (λF hr=>?_)
 .refine sr<|oE hr λt o hr=>mQ z z (x' zG z) (oq.h o) z (trivial) ln g (λp v k U l=>?_)
  obtain⟨Y,Z,P,rfl,rfl,A⟩:=l;refine mj (λw a=>a.Ý (i:=7000) (j:=4010) z (by rw[d];rfl))<|pO (r:=(gb .i64 8)) (e:=71) 4010 A z (by rw[d];rfl) λq x R s Q=>Ρ z<|m'<|g'<|a' ?_
  obtain rfl:_=r:=hr;exact j' z z ⟨_,_,z,s⟩
 refine WC.nD hr [0,4] [] (λ(c:Bool)=>⟨[(11,.bool c)],EH f c,tr,[]⟩) ?_ ?_
 .refine sr<|Δ (eA z z)<|Ρ z<|I' hr z (λJ hr=>?_) (λJ hr=>?_)
  .exact Η
  exact Η
 intro m c hr M _;refine kc hr z (λC hr=>?_) (λC hr=>?_)
 .exact Η
 refine sr<|Δ (eA z z)<|Ρ z<|I' hr z (λE hr=>?_) (λE hr=>?_)
 .refine Ξ ?_;intro _;refine mW (e:=71) (r:=(gb .i64 8)) (vs:=#[(0,.agg (Ö (ζ (ζ (ζ (ζ (ζ (ζ (ζ (ζ (λ_=>0) 0 2) 1 3) 2 1) 3 1) 4 1) 5 1) 6 1) 7 1)).toArray)]) (cs:=(Ö (ζ (ζ (ζ (ζ (ζ (ζ (ζ (ζ (λ_=>0) 0 2) 1 3) 2 1) 3 1) 4 1) 5 1) 6 1) 7 1))++([])) ([ζ (ζ (ζ (ζ (ζ (ζ (ζ (ζ (λ_=>0) 0 2) 1 3) 2 1) 3 1) 4 1) 5 1) 6 1) 7 1]:Ŀ (Fin 8->Int)) z z z z z ĳ (λ_=>İ) ⟨Ö (ζ (ζ (ζ (ζ (ζ (ζ (ζ (ζ (λ_=>0) 0 2) 1 3) 2 1) 3 1) 4 1) 5 1) 6 1) 7 1),[],z,z,z⟩ (key:=999) z (by rw[d];rfl) λp1 h S I=>?_;exact Η
 refine Ξ ?_;intro _ hr;refine mW (e:=71) (r:=(gb .i64 8)) (vs:=#[(0,.agg (Ö (ζ (ζ (ζ (ζ (ζ (ζ (ζ (ζ (λ_=>0) 0 1) 1 1) 2 0) 3 0) 4 0) 5 0) 6 0) 7 0)).toArray),(1,.agg (Ö (ζ (ζ (ζ (ζ (ζ (ζ (ζ (ζ (λ_=>0) 0 1) 1 0) 2 2) 3 1) 4 1) 5 1) 6 1) 7 1)).toArray)]) (cs:=(Ö (ζ (ζ (ζ (ζ (ζ (ζ (ζ (ζ (λ_=>0) 0 1) 1 1) 2 0) 3 0) 4 0) 5 0) 6 0) 7 0))++((Ö (ζ (ζ (ζ (ζ (ζ (ζ (ζ (ζ (λ_=>0) 0 1) 1 0) 2 2) 3 1) 4 1) 5 1) 6 1) 7 1))++([]))) ([ζ (ζ (ζ (ζ (ζ (ζ (ζ (ζ (λ_=>0) 0 1) 1 1) 2 0) 3 0) 4 0) 5 0) 6 0) 7 0,ζ (ζ (ζ (ζ (ζ (ζ (ζ (ζ (λ_=>0) 0 1) 1 0) 2 2) 3 1) 4 1) 5 1) 6 1) 7 1]:Ŀ (Fin 8->Int)) z z z z z ĳ (λ_=>İ) ⟨Ö (ζ (ζ (ζ (ζ (ζ (ζ (ζ (ζ (λ_=>0) 0 1) 1 1) 2 0) 3 0) 4 0) 5 0) 6 0) 7 0),(Ö (ζ (ζ (ζ (ζ (ζ (ζ (ζ (ζ (λ_=>0) 0 1) 1 0) 2 2) 3 1) 4 1) 5 1) 6 1) 7 1))++([]),z,z,⟨Ö (ζ (ζ (ζ (ζ (ζ (ζ (ζ (ζ (λ_=>0) 0 1) 1 0) 2 2) 3 1) 4 1) 5 1) 6 1) 7 1),[],z,z,z⟩⟩ (key:=999) z (by rw[d];rfl) λp2 u T K=>Ρ z<|m'<|g'<|a' ?_
 obtain rfl:_=r:=hr;exact j' z z ⟨_,_,z,K⟩
instance gH'{c F r}:SpcM ((A7 c F)) r (∀{m k e d h g q p u x n o},Cr 26 #[.agg ((tm c m k e d h g q p)).toArray,.agg ((Ä F u x n o)).toArray] (λG=>sl vK G m k c.c.l/\sl (Rp.int .u8) G e d c.c.iR/\sl (gb .i8 5) G h g c.p.t/\sl BH G q p c.l/\sq G u x F.eqs/\sq G n o F.ε) (λG v=>∃L P M Q,v=.agg ([i' r.kind,δ L r.p P,δ M r.o Q]).toArray/\sl c' G L P r.p/\sv G M Q r.o)):=.mk λhr {m k e d h g q p u x n o}=>by
 refine J' (args:=[_,_]) (N:=29) func26 z z z (λw0 W au Y=>?_);obtain⟨al,aa,K,an,ad,ab⟩:=Y;refine sr<|jM 2 z z z λb1=>jM 3 z z z λb2=>W' 4 z z54 z λb3=>nr<|Δ (Y0.YA z)<|Δ (n' 2 HE z z z)<|Δ (xL z z ĳ)<|Δ (pB Gp Bk z)<|Δ (l1 (vs:=#[(0,i' (i64.wrap (Int.tmod c.kind 12)))]) (v:=.agg ([i' (i64.wrap (Int.tmod c.kind 12)),.slice none 0 0,.slice none 0 0]).toArray) z z (λ_=>İ))<|W' 5 z z54 z λb4=>gl 5 oa z<|nx<|WC.nD hr [2,4,5] [2,4] (λ(⟨f,j,l,t,s⟩:Zc×ŀ Addr×Nat×ŀ Addr×Nat)=>⟨[],EB c f,λy=>sl c' y j l f.p/\sv y t s f.o,[(5,ú b4 ([i' f.kind,δ j f.p l,δ t f.o s]) 54)]⟩) ?_ ?_
 .refine sr<|Δ (Bz z)<|Δ (n' 5 eK z z z)<|oE hr λar R hr=>H' z z (x' X7 z) (gm'.h R) z (trivial)<|nx<|kc hr z (λa hr=>?_) (λa hr=>?_)
  .refine w'<|Δ (Y0.YB z)<|Δ (R' ([δ h c.p.t g]).toArray 2 Bp z z z (mM ([.int .u8 c.fX,.int .u8 c.c.n,δ m c.c.l k,δ e c.c.iR d,.int .u8 c.kind]) ([δ h c.p.t g]) ([.int .u8 c.o,δ q c.l p,i' c.id,i' c.Μ])))<|Δ (ri z)<|Δ (n' 3 eK z z z)<|Δ (Y0.min2 z z)<|oE hr λO T hr=>gJ z z (x' X8 z) (gF'.h T) z (K) (λap ai I B=>?_)
   obtain⟨D,E,rfl,S⟩:=B;exact Δ (Gv z)<|rb 5 ([i' (i64.wrap (Int.tmod c.kind 12)),δ D O E,.slice none 0 0]).toArray z pG z z z (show 1<3 by decide) z z<|Η
  exact Η
 rintro y ⟨f,j,l,t,s⟩ hr ak ⟨A,H⟩;refine o'<|sr<|Δ (Bz z)<|Δ (n' 5 eK z z z)<|Δ (eA z z)<|nx<|I' hr z (λaj hr=>?_) (λaj hr=>?_)
 .refine w'<|Δ (Y0.YD z)<|Δ (n' 2 HE z z z)<|oE hr λaf Z hr=>gJ z z (x' X9 z) (hJ'.h Z) z (trivial) (λam aq J C=>?_)
  obtain⟨X,V,rfl,U⟩:=C;refine Δ (V1 z)<|rb 5 ([i' f.kind,δ j f.p l,δ X af V]).toArray z Dn z z z (show 2<3 by decide) z z<|nr<|Δ (y' 5 rV z z z)<|gl 4 oa z<|nx<|m' ?_
  obtain rfl:_=r:=hr;exact j' z (kB (i:=4) rV z z z) ⟨_,_,_,_,z,(A.mono J),U⟩
 refine q'<|b'<|sr<|Δ (y' 5 rV z z z)<|gl 4 oa z<|nx<|m' ?_
 obtain rfl:_=r:=hr;exact j' z (kB (i:=4) rV z z z) ⟨_,_,_,_,z,A,H⟩
instance jb'{L U x l p r}:SpcM ((Lv L U x l p)) r (∀{H F},Cr 143 #[δ H L F,i' U,i' x,i' l,i' p] (λG=>sl vK G H F L) (fO (Rp.sl c') r)):=.mk λhr {H F}=>by
 refine Ξ ?_;intro w0 Z I p1 E _ e hr _;refine WC.mC (hH:=by exact⟨e,kH⟩) hr [0,1,2,3,4] [] [] [] (λ(⟨c,g,f,d,K⟩:(Ŀ (Ŀ Za))×ŀ Addr×Nat×ŀ Ow×Int)=>⟨(c,K),[(11,δ g c f),(12,i' K)],λo=>sq o g f c/\Tok 1 50 (δ g c f) c.length d,[(1011,d)]⟩) (λ(⟨i,k,j,m⟩:(Ŀ (Ŀ Za))×ŀ Addr×Nat×ŀ Ow)=>⟨i,[(11,δ k i j)],λA=>sq A k j i/\Tok 1 50 (δ k i j) i.length m,[(1011,m)]⟩) ⟨[],p1,0,none,0⟩ ?_;rintro _ o ⟨c,g,f,d,K⟩ h ⟨q,n⟩ hr;refine Ξ ?_;intro _ _ _ _ _ _ _ _ _ _ _ t _ B _ _ _ _ _ y u hr _;refine oA hr λV hr=>jH (r:=(Rp.sl c')) 1011 z z jL js z ĳ z z (q.mono (mx B y)) z (by rw[I];rfl) n u V λp3 Y R a J s Q=>Ï z<|t'<|E'<|b'<|w'<|θ z<|iC z<|Ï z<|t'<|N' ⟨a,(c++[t]),p3,Y,R,i64.wrap (K+1)⟩ hr ⟨(mx (mx (mx h B) y) J),s,Q⟩ (Å z) (w1 z)
instance gI'{I L V r}:SpcM ((xl I L V)) r (∀{E C},Cr 144 #[δ E I C,i' L,i' V] (λG=>sq G E C I) (fO (Rp.sl c') r)):=.mk λhr {E C}=>by
 refine Ξ ?_;intro w0 G0 o p1 y _ A hr _;refine WC.mC (hH:=by exact⟨A,kH⟩) hr [0,1,2] [] [] [] (λ(⟨c,h,f,g,B⟩:(Ŀ (Ŀ Za))×ŀ Addr×Nat×ŀ Ow×Int)=>⟨(c,B),[(7,δ h c f),(8,i' B)],λq=>sq q h f c/\Tok 1 50 (δ h c f) c.length g,[(1007,g)]⟩) (λ(⟨i,k,j,m⟩:(Ŀ (Ŀ Za))×ŀ Addr×Nat×ŀ Ow)=>⟨i,[(7,δ k i j)],λv=>sq v k j i/\Tok 1 50 (δ k i j) i.length m,[(1007,m)]⟩) ⟨[],p1,0,none,0⟩ ?_;rintro _ q ⟨c,h,f,g,B⟩ d ⟨p,n⟩ hr;refine o'<|sr<|θ z<|θ z<|kl z<|nx<|I' hr z (λK hr=>?_) (λK hr=>?_)
 .refine ê ?_;intro hr;refine I' hr z (λs hr=>?_) (λs hr=>?_)
  .refine Ξ ?_;intro _ _ x _ _ _ t J hr;refine oA hr λW hr=>jH (r:=(Rp.sl c')) 1007 z z jL js z ĳ z z (p.mono (mx x t)) z (by rw[o];rfl) n J W λp4 Z Q af F N R=>Ï z<|t'<|E'<|b'<|w'<|θ z<|iC z<|Ï z<|t'<|N' ⟨af,(c++[[]]),p4,Z,Q,i64.wrap (B+1)⟩ hr ⟨(mx (mx (mx d x) t) F),N,R⟩ (Å z) (w1 z)
  refine Ξ ?_;intro D _ _ _ _ _ _ _ _ _ u a hr _;refine oA hr λS hr=>jH (r:=(Rp.sl c')) 1007 z z jL js z ĳ z z (p.mono u) z (by rw[o];rfl) n a S λp7 l U e H Y O=>Ï z<|t'<|E'<|b'<|w'<|θ z<|iC z<|Ï z<|t'<|N' ⟨e,(c++[D]),p7,l,U,i64.wrap (B+1)⟩ hr ⟨(mx (mx d u) H),Y,O⟩ (Å z) (w1 z)
 exact Η
instance Wd{g i r}:SpcM ((tR g i)) r (∀{e d},Cr 145 #[δ e g d,i' i] (λG=>sl (Rp.int .i8) G e d g) (λG v=>v=i' r)):=.mk λhr {e d}=>by
 refine J' (args:=[_,_]) (N:=16) func145 z z z (λm o l h=>?_);have c:=h;refine sr<|Ρ z<|o'<|sr<|θ z<|Δ (P' M2 c z)<|Δ (eA z z)<|nx<|I' hr z (λk hr=>?_) (λk hr=>?_)
 .refine sr<|Ρ z<|m'<|a' (Ó hr z z)
 refine q'<|b'<|sr<|θ z<|θ z<|θ z<|Δ (P' M2 c z)<|oA hr λj hr=>Δ (xL z z j)<|oE hr λn f hr=>Δ (jV M2 s7 c z z f)<|Δ (mH sN z (vy (iD c f)))<|Δ (pB VY Bk z)<|Ρ z<|m' (Ó hr z z)
instance hK'{H r}:SpcM ((xg H)) r (Cr 220 #[.agg ((DC H)).toArray] (λG=>True) (ep r)):=.mk λhr=>by
 refine J' (args:=[_]) (N:=49) func220 z z z λw0 G0 t k=>sr<|jM 1 z z z λQ=>W' 2 z rk z λW=>nx<|o'<|fC [ff,ff,ff,ff,ff,ff,ff,ff,ff,ff] eL İ λE=>cn (λ_ c=>Y0.ZzJ z) ?_
 refine ê ?_;intro u _ _ hr _;refine lg (λ_=>z) vG<|lg (λ_=>z) vG<|We (λv x y B a D M n K C=>?_)
 obtain⟨p,q,rfl,l⟩:=K;obtain⟨m,f,rfl,j⟩:=C;refine vM M (λX g h=>?_);subst g;replace n:=GF n ĳ h;refine vM n (λO i s=>?_);subst i;refine mi (show WL _ _ _ _ _ _ (St w0 G0 a.m _)from ?_);refine gl 3 vC z<|gl 4 vC z<|t'<|Θ<|b'<|WC.nA hr [1,2,3,4] [1,2,3] (λ(⟨o,d,e⟩:Zg×ŀ Addr×Nat)=>⟨[],Qz H u o,λA=>su A d e o.υ,[(4,ú X (η o d e) 118)]⟩)
instance jm'{v1 k1 r}:SpcM ((Md v1 k1)) r (∀{aq am},Cr 146 #[δ aq v1 am,i' k1] (λG=>sl (Rp.int .i8) G aq am v1) (λG v=>∃zk zu,v=.agg (zk).toArray/\Ç iB 8 G zk zu r)):=.mk λhr {aq am}=>by
 refine Ξ ?_;intro w0 M _ a d hr _;refine nv (X:=Int×(Ŀ Zl)×Ŀ Value×Unit×Mem) hr (λ⟨i2,ar,ai,af,ap⟩=>⟨(i2,ar),[(0,δ aq v1 am),(1,i' k1),(4,iI a),(5,iI d),(6,i' i2)],Mem.le M ap/\Ç iB 8 ap ai af ar,St w0 M ap [(4,ú a (jr) 225),(5,ú d (ai) 225)]⟩) (λ(⟨aB,al,az,N⟩:(Ŀ Zl)×Ŀ Value×Unit×Mem)=>⟨aB,[(0,δ aq v1 am),(1,i' k1),(4,iI a),(5,iI d)],Mem.le M N/\Ç iB 8 N al az aB,St w0 M N [(4,ú a (jr) 225),(5,ú d (al) 225)]⟩) ⟨0,(List.replicate 8 (Zl.mk (Zf.mk (Zg.mk false []) (Zg.mk false [])) (Zf.mk (Zg.mk false []) (Zg.mk false [])))),jr,(),M⟩ z (Å z) ⟨mr,(show Ç iB 8 M jr () _ from zv (G:=M) (r:=iB) (n:=8) (zc:=[.bool false,.slice none 0 0,.bool false,.slice none 0 0,.bool false,.slice none 0 0,.bool false,.slice none 0 0]) (z:=(Zl.mk (Zf.mk (Zg.mk false []) (Zg.mk false [])) (Zf.mk (Zg.mk false []) (Zg.mk false [])))) ⟨[.bool false,.slice none 0 0,.bool false,.slice none 0 0],[.bool false,.slice none 0 0,.bool false,.slice none 0 0],z,⟨[.bool false,.slice none 0 0],[.bool false,.slice none 0 0],z,⟨[.bool false],[.slice none 0 0],z,z,⟨_,z,(X' _ _)⟩⟩,⟨[.bool false],[.slice none 0 0],z,z,⟨_,z,(X' _ _)⟩⟩⟩,⟨[.bool false,.slice none 0 0],[.bool false,.slice none 0 0],z,⟨[.bool false],[.slice none 0 0],z,z,⟨_,z,(X' _ _)⟩⟩,⟨[.bool false],[.slice none 0 0],z,z,⟨_,z,(X' _ _)⟩⟩⟩⟩)⟩ (w2 z z) ?_ ?_
 .rintro _ ⟨i2,ar,ai,af,ap⟩ ⟨aC,aw⟩ hr;refine o'<|sr<|θ z<|kl z<|nx<|I' hr z (λa8 hr=>?_) (λa8 hr=>?_)
  .refine Ξ ?_;intro D _ _ aj k t A y ae ah H ba P q B s x ac ag hr _;refine oE hr λx2 aR hr=>Δ (rj zw jY z z (rm (aw.mono (mx aj P)) aR))<|B0 (cs':=[.bool D.num.neg,δ k D.num.υ t,.bool D.den.neg,δ A D.den.υ y,.bool H.num.neg,δ q H.num.υ B,.bool H.den.neg,δ s H.den.υ x]) (z':=(Zl.mk D H)) 5 z jY z ĳ (aw.mono (mx aj P)) z z z z ⟨(Υ D k t A y),(Υ H q B s x),z,⟨(η D.num k t),(η D.den A y),z,⟨[.bool D.num.neg],[δ k D.num.υ t],z,z,⟨_,z,(ae.mono P)⟩⟩,⟨[.bool D.den.neg],[δ A D.den.υ y],z,z,⟨_,z,(ah.mono P)⟩⟩⟩,⟨(η H.num q B),(η H.den s x),z,⟨[.bool H.num.neg],[δ q H.num.υ B],z,z,⟨_,z,ac⟩⟩,⟨[.bool H.den.neg],[δ s H.den.υ x],z,z,⟨_,z,ag⟩⟩⟩⟩ aR λd2 bc=>t'<|E' ?_
   refine ê ?_;intro hr;refine N' ⟨i64.wrap (i2+1),ar.set i2.toNat (Zl.mk D H),d2,af,ba⟩ hr ⟨(mx (mx aC aj) P),bc⟩ (Å z) (w2 z z)
  refine na<|p'<|p'<|K'<|nP ⟨ar,ai,af,ap⟩ ⟨hr,aC,aw⟩ (Å z) (w2 z z)
 rintro⟨aB,al,az,N⟩ ⟨hr,aA,aZ⟩;refine b'<|o'<|sr<|Ρ z<|nv (X:=Int×(Ŀ Zl)×Ŀ Value×Unit×Mem) hr (λ⟨i1,au,ad,ak,ao⟩=>⟨(i1,au),[(0,δ aq v1 am),(1,i' k1),(4,iI a),(5,iI d),(7,i' i1)],Mem.le N ao/\Ç iB 8 ao ad ak au,St w0 M ao [(4,ú a (jr) 225),(5,ú d (ad) 225)]⟩) (λ(⟨aN,ax,aO,ab⟩:(Ŀ Zl)×Ŀ Value×Unit×Mem)=>⟨aN,[(4,iI a),(5,iI d)],Mem.le N ab/\Ç iB 8 ab ax aO aN,St w0 M ab [(4,ú a (jr) 225),(5,ú d (ax) 225)]⟩) ⟨0,aB,al,az,N⟩ z (Å z) ⟨mr,aZ⟩ (w2 z z) ?_ ?_
 .rintro _ ⟨i1,au,ad,ak,ao⟩ ⟨W,ay⟩ hr;refine o'<|sr<|θ z<|kl z<|nx<|I' hr z (λa6 hr=>?_) (λa6 hr=>?_)
  .refine Ξ ?_;intro aT hr _;refine Δ (l1 (vs:=#[(0,.int .i8 (i8.wrap aT)),(1,.int .i8 3)]) (v:=.agg ([.int .i8 (i8.wrap aT),.int .i8 3,.int .u8 0]).toArray) z z (λ_=>İ))<|oE hr λE a1 hr=>gJ z z (x' Im z) (hK'.h a1) z (trivial) (λbl bq Y aI=>?_)
   obtain⟨l,o,m,p,rfl,U,R⟩:=aI;refine W' 8 z rk z λb3=>gl 8 jW z<|nx<|fC [tt,ff,ff,ff,ff,ff,ff,ff,ff,ff,ff] eL İ λhb=>um z (k' z) ?_
   refine ê ?_;intro aS hr _;refine cn (λ_ F=>l1 (vs:=#[(0,.int .i8 (i8.wrap (i64.wrap (BitVec.ofInt i64.bits aS &&& BitVec.ofInt i64.bits 7).toNat))),(1,.int .i8 2)]) (v:=.agg ([.int .i8 (i8.wrap (i64.wrap (BitVec.ofInt i64.bits aS &&& BitVec.ofInt i64.bits 7).toNat)),.int .i8 2,.int .u8 0]).toArray) z z (λ_=>İ)) ?_;refine ê ?_;intro aJ hr _;refine oE hr λC a2 hr=>ma (f:=205) (φ:=ep C) (λ_=>z) (λv G1 G2 F h=>?_) (λu G' F hu=>?_) ?_
   .obtain⟨j,c,e,g,rfl,K,L⟩:=h;exact⟨_,_,_,_,z,K.mono F,L.mono F⟩
   .obtain⟨⟨T,S,Q,O,aP,I,J⟩,_⟩:=(show(ep aJ) G'.m (u 40)/\True from hu);exact⟨_,_,_,λ_=>x' Ih z,gX'.h a2,(by simp only[aP]<;>rfl),⟨(U.mono F),(R.mono F),I,J⟩⟩
   refine Ξ ?_;intro a9 V j c e g K L _ _ _ _ _ _ hr;refine oE hr λx1 aU hr=>Δ (rj zw jY z z (rm (ay.mono (mx Y V)) aU))<|B0 (cs':=[.bool E.num.neg,δ l E.num.υ o,.bool E.den.neg,δ m E.den.υ p,.bool C.num.neg,δ j C.num.υ c,.bool C.den.neg,δ e C.den.υ g]) (z':=(Zl.mk E C)) 5 z jY z ĳ (ay.mono (mx Y V)) z z z z ⟨(Υ E l o m p),(Υ C j c e g),z,⟨(η E.num l o),(η E.den m p),z,⟨[.bool E.num.neg],[δ l E.num.υ o],z,z,⟨_,z,(U.mono V)⟩⟩,⟨[.bool E.den.neg],[δ m E.den.υ p],z,z,⟨_,z,(R.mono V)⟩⟩⟩,⟨(η C.num j c),(η C.den e g),z,⟨[.bool C.num.neg],[δ j C.num.υ c],z,z,⟨_,z,K⟩⟩,⟨[.bool C.den.neg],[δ e C.den.υ g],z,z,⟨_,z,L⟩⟩⟩⟩ aU λd1 a7=>t'<|Θ ?_
   refine ê ?_;intro hr;refine N' ⟨i64.wrap (i1+1),au.set i1.toNat (Zl.mk E C),d1,ak,a9⟩ hr ⟨(mx (mx W Y) V),a7⟩ (Å z) (w2 z z)
  refine na<|p'<|p'<|K'<|nP ⟨au,ad,ak,ao⟩ ⟨hr,W,ay⟩ (Å z) (w2 z z)
 rintro⟨aN,ax,aO,ab⟩ ⟨hr,bd,Z⟩;refine b'<|sr<|Δ (y' 5 mK z z (lF Z))<|A' 4 z lV z z z (lF (show Ç iB 8 ab jr () _ from zv (G:=ab) (r:=iB) (n:=8) (zc:=[.bool false,.slice none 0 0,.bool false,.slice none 0 0,.bool false,.slice none 0 0,.bool false,.slice none 0 0]) (z:=(Zl.mk (Zf.mk (Zg.mk false []) (Zg.mk false [])) (Zf.mk (Zg.mk false []) (Zg.mk false [])))) ⟨[.bool false,.slice none 0 0,.bool false,.slice none 0 0],[.bool false,.slice none 0 0,.bool false,.slice none 0 0],z,⟨[.bool false,.slice none 0 0],[.bool false,.slice none 0 0],z,⟨[.bool false],[.slice none 0 0],z,z,⟨_,z,(X' _ _)⟩⟩,⟨[.bool false],[.slice none 0 0],z,z,⟨_,z,(X' _ _)⟩⟩⟩,⟨[.bool false,.slice none 0 0],[.bool false,.slice none 0 0],z,⟨[.bool false],[.slice none 0 0],z,z,⟨_,z,(X' _ _)⟩⟩,⟨[.bool false],[.slice none 0 0],z,z,⟨_,z,(X' _ _)⟩⟩⟩⟩)) (lF Z) (Ç.one Z)<|nx<|m' ?_
 obtain rfl:_=r:=hr;exact j' z (kB (i:=4) mK z z (lF Z)) ⟨_,_,z,Z⟩
set_option maxHeartbeats 2000000 in
instance hM'{g r}:SpcM ((Ec g)) r (∀{U S Q T},Cr 81 #[.agg ((DA g U S Q T)).toArray] (λG=>sl vK G U S g.l/\sl (Rp.int .i8) G Q T g.v) (Oz r)):=.mk λhr {U S Q T}=>by
 refine J' (args:=[_]) (N:=122) func81 z z z (λw0 G0 b0 cv=>?_);obtain⟨bu,O⟩:=cv;refine sr<|jM 1 z z z λb1=>W' 2 z HK z λb2=>nr<|Δ (Y0.ZzG z)<|Δ (n' 1 yb z z z)<|oE hr λbi ci hr=>gJ z z (x' H3 z) (jb'.h ci) z (bu) (λc7 db av bo=>?_)
 obtain⟨bD,bw,rfl,a9⟩:=bo;refine Ï z<|nr<|Δ (Y0.ZzF z)<|Δ (n' 1 HE z z z)<|Δ (xL z z ĳ)<|Δ (pB Gp Bk z)<|iC z<|Δ (l1 (vs:=#[(0,i' (i64.wrap (1+(i64.wrap (Int.tmod g.kind 13)))))]) (v:=.agg ([i' (i64.wrap (1+(i64.wrap (Int.tmod g.kind 13)))),.slice none 0 0,i' 0,i' 0,i' 0,.slice none 0 0,.slice none 0 0,.slice none 0 0,.slice none 0 0]).toArray) z z (λ_=>İ))<|W' 4 z HK z λb3=>gl 4 s9 z<|nx<|o'<|fC [ff,ff,ff,ff,ff,ff,ff,ff,ff] eL İ λhb=>?_
 refine ê ?_;intro aM hr _;refine oE hr λX bX hr=>jU (φ:=λG v=>∃p1 ax,v=.pointer (some ⟨pb p1,po p1+(0:Int).toNat*1,none⟩)/\sq G p1 ax aM) (λ_=>z) (λv G1 G2 j h=>?_) (λu G' j a=>?_) ?_
 .obtain⟨p1,ax,rfl,bh⟩:=h;exact⟨_,_,z,bh.mono j⟩
 .obtain⟨⟨a8,a5,bJ,aI⟩,_⟩:=(show(fO (Rp.sl c') aM) G'.m (u 18)/\True from a);simp only[ς,bJ];exact⟨_,jV jL pG aI z z bX,a8,a5,z,aI⟩
 refine jU (φ:=fO c' X) (λ_=>z) (λv G1 G2 j h=>?_) (λu G' j a=>?_) ?_
 .obtain⟨p4,bz,rfl,be⟩:=h;exact⟨_,_,z,be.mono j⟩
 .obtain⟨⟨p1,ax,bL,bh⟩,_,_⟩:=(show(λG v=>∃p1 ax,v=.pointer (some ⟨pb p1,po p1+(0:Int).toNat*1,none⟩)/\sq G p1 ax aM) G'.m (u 19)/\True/\True from a);obtain⟨p3,cH,cC,cO⟩:=xM (iD bh bX);simp only[ς,bL];exact⟨_,mH re z (cC),p3,cH,z,cO⟩
 refine cu (λ_ _ j=>Wi z)<|cu (λ_ _ j=>n' 1 sM z z z)<|oE hr λq cr hr=>γ.vH (f:=145) (c:=i' q) (λ_=>z) (λu G' j a=>?_) ?_
 .obtain⟨_,_,_,_⟩:=(show True/\True/\True/\True from a);exact⟨_,_,_,λ_=>x' zJ z,Wd.h cr,z,((O.mono av).mono j)⟩
 refine cu (λ_ _ j=>Y0.and z z)<|jU (φ:=fO c' X) (λ_=>z) (λv G1 G2 j h=>?_) (λu G' j a=>?_) ?_
 .obtain⟨p5,ad,rfl,a2⟩:=h;exact⟨_,_,z,a2.mono j⟩
 .obtain⟨⟨p4,bz,bH,be⟩,_,_,_⟩:=(show(fO c' X) G'.m (u 20)/\True/\True/\True from a);simp only[ς,bH];exact⟨_,rh z,p4,bz,z,be⟩
 refine γ.te (d0:=5) (post0:=fO c' X) (d1:=20) (post1:=fO c' X) (d2:=19) (post2:=λG v=>∃p1 ax,v=.pointer (some ⟨pb p1,po p1+(0:Int).toNat*1,none⟩)/\sq G p1 ax aM) (d3:=18) (post3:=fO (Rp.sl c') aM) (λc2 c4 c3 c5 bd V bm bp bs bt=>?_);obtain⟨p5,ad,rfl,a2⟩:=bm;obtain⟨p4,bz,rfl,be⟩:=bp;obtain⟨p1,ax,rfl,bh⟩:=bs;obtain⟨a8,a5,rfl,aI⟩:=bt;refine Ï z<|t'<|Θ<|b'<|o'<|sr<|Δ (zf z)<|Δ (n' 4 eK z z z)<|nx<|Y'<|WC.nD hr [1,2,3,4,5,6,26] [1,2,4] (λ(aW:Bool)=>⟨[(27,.bool aW)],wQ g bi X q aW,tr,[]⟩) ?_ ?_
 .refine sr<|Δ (eA z z)<|Ρ z<|I' hr z (λcl hr=>?_) (λcl hr=>?_)
  .exact Η
  refine sr<|Δ (eA z z)<|Ρ z<|I' hr z (λcc hr=>?_) (λcc hr=>?_)
  .exact Η
  exact Η
 intro aO aW hr C _;refine kc hr z (λcV hr=>?_) (λcV hr=>?_)
 .refine Ξ ?_;intro hr;obtain rfl:_=r:=hr;exact j' z (kB (i:=2) nS z z z) ⟨_,_,_,_,_,_,_,_,_,_,z,(a2.mono C),(X' (gb .i64 8) _),(X' (Rp.sl c') _),(X' (Rp.int .i64) _),(X' (Rp.arr iB 8) _)⟩
 refine sr<|Δ (eA z z)<|Ρ z<|I' hr z (λcL hr=>?_) (λcL hr=>?_)
 .refine Ξ ?_;intro _ _ _ _ _ _ _ _ cy _ _ bK _ _ ch hr _;obtain rfl:_=r:=hr;exact j' z (kB (i:=2) nS z z z) ⟨_,_,_,_,_,_,_,_,_,_,z,(X' c' _),(cy.mono bK),ch,(X' (Rp.int .i64) _),(X' (Rp.arr iB 8) _)⟩
 refine sr<|Δ (eA z z)<|Ρ z<|I' hr z (λcP hr=>?_) (λcP hr=>?_)
 .refine Ξ ?_;intro _ hr _;obtain rfl:_=r:=hr;exact j' z (kB (i:=2) nS z z z) ⟨_,_,_,_,_,_,_,_,_,_,z,(X' c' _),(X' (gb .i64 8) _),(X' (Rp.sl c') _),(X' (Rp.int .i64) _),(X' (Rp.arr iB 8) _)⟩
 refine sr<|Δ (eA z z)<|Ρ z<|I' hr z (λcJ hr=>?_) (λcJ hr=>?_)
 .refine Ξ ?_;intro hr;obtain rfl:_=r:=hr;exact j' z (kB (i:=2) nS z z z) ⟨_,_,_,_,_,_,_,_,_,_,z,(X' c' _),(X' (gb .i64 8) _),(X' (Rp.sl c') _),(X' (Rp.int .i64) _),(X' (Rp.arr iB 8) _)⟩
 refine WC.nD hr [1,2,3,4,5,6,26] [1,2,4] (λ(aV:Bool)=>⟨[(69,.bool aV)],Ji g bi X q aV,tr,[]⟩) ?_ ?_
 .refine sr<|Δ (eA z z)<|Ρ z<|I' hr z (λco hr=>?_) (λco hr=>?_)
  .exact Η
  exact Η
 intro aN aV hr ai _;refine kc hr z (λcS hr=>?_) (λcS hr=>?_)
 .refine o'<|sr<|Ρ z<|WC.mD (hH:=by exact⟨(X' _ _),(X' _ _),(X' _ _),(X' _ _),kH,(X' _ _),kH⟩) hr [1,2,4,5,6] [1,2] [2,4,5] [2] (λ(⟨aF,m,af,Z,Y,K,L,M,I,y,A,H,B,x,t,E,D,R,s,ar,al,ap⟩:Int×Int×(Ŀ Za)×ŀ Addr×Nat×Int×Int×Int×(Ŀ (Fin 8->Int))×ŀ Addr×Nat×(Ŀ (Ŀ Za))×ŀ Addr×Nat×(Ŀ Int)×ŀ Addr×Nat×ŀ Ow×(Ŀ (Ŀ Zl))×ŀ Addr×Nat×ŀ Ow)=>⟨(aF,m,af,K,L,M,I,H,t,s),[(7,i' aF)],λaj=>sl c' aj Z Y af/\sv aj y A I/\sq aj B x H/\sl (Rp.int .i64) aj E D t/\Tok 1 3 (δ E t D) t.length R/\sl (Rp.arr iB 8) aj ar al s/\Tok 64 225 (δ ar s al) s.length ap,[(4,ú b3 ([i' m,δ Z af Y,i' K,i' L,i' M,δ y I A,δ B H x,δ E t D,δ ar s al]) 89),(310047,R),(310048,ap)]⟩) (λ(⟨W,aT,aR,aU,aQ,aY,aZ,aJ,az,aB,aG,aA,aC,ag,am,ao,aE,ah,aq,ak,aD⟩:Int×(Ŀ Za)×ŀ Addr×Nat×Int×Int×Int×(Ŀ (Fin 8->Int))×ŀ Addr×Nat×(Ŀ (Ŀ Za))×ŀ Addr×Nat×(Ŀ Int)×ŀ Addr×Nat×ŀ Ow×(Ŀ (Ŀ Zl))×ŀ Addr×Nat×ŀ Ow)=>⟨(W,aT,aQ,aY,aZ,aJ,aG,ag,ah),[],λaw=>sl c' aw aR aU aT/\sv aw az aB aJ/\sq aw aA aC aG/\sl (Rp.int .i64) aw am ao ag/\Tok 1 3 (δ am ag ao) ag.length aE/\sl (Rp.arr iB 8) aw aq ak ah/\Tok 64 225 (δ aq ah ak) ah.length aD,[(4,ú b3 ([i' W,δ aR aT aU,i' aQ,i' aY,i' aZ,δ az aJ aB,δ aA aG aC,δ am ag ao,δ aq ah ak]) 89),(310047,aE),(310048,aD)]⟩) ⟨0,i64.wrap (1+(i64.wrap (Int.tmod g.kind 13))),[],none,0,0,0,0,[],none,0,[],none,0,[],none,0,none,[],none,0,none⟩ ?_ ?_
  .rintro _ aj ⟨aF,m,af,Z,Y,K,L,M,I,y,A,H,B,x,t,E,D,R,s,ar,al,ap⟩ ab ⟨bl,aP,aX,aS,aH,bj,a1⟩ hr;refine o' ?_;refine ê ?_;intro hr;refine I' hr z (λcG hr=>?_) (λcG hr=>?_)
   .refine q'<|b'<|o'<|Y'<|o'<|fC [ff,ff,ff,ff,ff,ff,ff] eL İ λhb=>cn (λ_ j=>zj z)<|cn (λ_ j=>n' 4 qR z z z) ?_
    refine ê ?_;intro J hr _;refine tH (r:=(Rp.arr iB 8)) (e:=225) ([J]:Ŀ (Ŀ Zl)) (λ_=>z) z ĳ (λu G' j a=>?_) ?_
    .obtain⟨⟨k,F,bv,an⟩,_⟩:=(show(λG v=>∃k F,v=.agg (k).toArray/\Ç iB 8 G k F J) G'.m (u 83)/\True from a);simp only[ς,bv];exact⟨#[(0,.agg (k).toArray)],k++([]),z,z,vX (n:=64) (lF an) (λ_=>(λ_=>İ)),⟨k,[],z,an,z⟩⟩
    refine GA (d:=84) (post:=λG v=>∃p6 bZ,v=.slice p6 1 1/\jo (Rp.arr iB 8) G (.slice p6 1 1) bZ [J]) (d':=83) (post':=λG v=>∃k F,v=.agg (k).toArray/\Ç iB 8 G k F J) (λcW cZ da o a6 a7=>?_);obtain⟨p6,bZ,rfl,cD⟩:=a6;obtain⟨k,F,rfl,an⟩:=a7;refine oA hr λb9 hr=>jH (r:=(Rp.arr iB 8)) 310048 z z uk BP z ĳ z z (bj.mono o) z (by rw[b0];rfl) a1 cD b9 λp7 a3 bx cI p b4 bA=>Δ (zj z)<|rb 4 ([i' m,δ Z af Y,i' K,i' L,i' M,δ y I A,δ B H x,δ E t D,.slice p7 (s++[J]).length a3]).toArray z Dq z z z (show 8<9 by decide) z z<|t' ?_
    refine ê ?_;intro hr;refine I' hr z (λcM hr=>?_) (λcM hr=>?_)
    .refine WC.pQ (Bt:=λ_=>True) (l:=ir [0,1,2,3,4,5,6,7,8,9,10,12,11,13,14,15] _) (Fl İ) (λ_ _ _ _ _=>trivial) [tt,ff,ff,ff,ff,ff,ff,ff,ff,ff,ff,tt] eL İ λhb=>um z (k' z)<|cn (λ_ j=>BE z)<|cn (λ_ j=>n' 4 sQ z z z)<|cn (λ_ j=>Wi z)<|cn (λ_ j=>n' 1 sM z z z)<|fp z ?_
     obtain⟨ae,bQ,hr⟩:=hr;have N1:=mx (mx (mx (mx (mx (mx av V) C) ai) ab) o) p;refine rY z (λ_=>x' zJ z) (Wd.h bQ) z (λG' j=>((O.mono N1).mono j))<|cn (λ_ j=>Y0.and z z)<|cn (λ_ j=>xL z z ĳ)<|cn (λ_ j=>Gt z z)<|tH (r:=(Rp.int .i64)) (e:=3) ([i64.wrap ((Int.tmod (i64.wrap (BitVec.ofInt i64.bits ae &&& BitVec.ofInt i64.bits 127).toNat) 3)-1)]:Ŀ Int) (λ_=>z) z ĳ (λu G' j a=>?_) ?_
     .exact⟨#[(0,i' (i64.wrap ((Int.tmod (i64.wrap (BitVec.ofInt i64.bits ae &&& BitVec.ofInt i64.bits 127).toNat) 3)-1)))],[i' (i64.wrap ((Int.tmod (i64.wrap (BitVec.ofInt i64.bits ae &&& BitVec.ofInt i64.bits 127).toNat) 3)-1))]++([]),z,z,λ_=>by kernel_rfl,⟨[i' (i64.wrap ((Int.tmod (i64.wrap (BitVec.ofInt i64.bits ae &&& BitVec.ofInt i64.bits 127).toNat) 3)-1))],[],z,z,z⟩⟩
     refine γ.sn (λ_=>z) (λ_=>Gu z)<|By (d:=100) (post:=λG v=>∃p8 b6,v=.slice p8 1 1/\jo (Rp.int .i64) G (.slice p8 1 1) b6 [i64.wrap ((Int.tmod (i64.wrap (BitVec.ofInt i64.bits ae &&& BitVec.ofInt i64.bits 127).toNat) 3)-1)]) (λcX dc aa ba=>?_)
     obtain⟨p8,b6,rfl,cA⟩:=ba;obtain⟨cm,hr⟩:=hr;have N2:=mx (mx o p) aa;refine jH (r:=(Rp.int .i64)) 310047 z z ra GC z ĳ z z (aS.mono N2) z (by rw[b0];rfl) aH cA cm λp9 b5 cb b7 P cF ck=>rb 4 ([i' m,δ p5 X ad,i' K,i' L,i' M,δ y I A,δ B H x,δ E t D,.slice p7 (s++[J]).length a3]).toArray z pG z z z (show 1<9 by decide) z z<|Δ (BE z)<|rb 4 ([i' m,δ p5 X ad,i' K,i' L,i' M,δ y I A,δ B H x,.slice p9 (t++[i64.wrap ((Int.tmod (i64.wrap (BitVec.ofInt i64.bits ae &&& BitVec.ofInt i64.bits 127).toNat) 3)-1)]).length b5,.slice p7 (s++[J]).length a3]).toArray z Dm z z z (show 7<9 by decide) z z<|t'<|Θ<|E' ?_
     refine ê ?_;intro hr;refine N' ⟨b7,i64.wrap (aF+1),m,X,p5,ad,K,L,M,I,y,A,H,B,x,(t++[i64.wrap ((Int.tmod (i64.wrap (BitVec.ofInt i64.bits ae &&& BitVec.ofInt i64.bits 127).toNat) 3)-1)]),p9,b5,cb,(s++[J]),p7,a3,bx⟩ hr ⟨(mx (mx (mx (mx ab o) p) aa) P),(a2.mono (mx (mx (mx (mx (mx (mx C ai) ab) o) p) aa) P)),(aP.mono (mx N2 P)),(aX.mono (mx N2 P)),cF,ck,(b4.mono (mx aa P)),bA⟩ (Å z) (w5 z z z z z)
    refine Ξ ?_;intro hr;refine N' ⟨cI,i64.wrap (aF+1),m,af,Z,Y,K,L,M,I,y,A,H,B,x,t,E,D,R,(s++[J]),p7,a3,bx⟩ hr ⟨(mx (mx ab o) p),(bl.mono (mx o p)),(aP.mono (mx o p)),(aX.mono (mx o p)),(aS.mono (mx o p)),aH,b4,bA⟩ (Å z) (w5 z z z z z)
   refine na<|p'<|p'<|K'<|nP ⟨aj,m,af,Z,Y,K,L,M,I,y,A,H,B,x,t,E,D,R,s,ar,al,ap⟩ ⟨hr,ab,bl,aP,aX,aS,aH,bj,a1⟩ (Å z) (w4 z z z z)
  rintro aw ⟨W,aT,aR,aU,aQ,aY,aZ,aJ,az,aB,aG,aA,aC,ag,am,ao,aE,ah,aq,ak,aD⟩ hr bG ⟨bN,bf,bk,bg,cT,bc,cE⟩;refine ê ?_;intro hr;refine I' hr z (λcN hr=>?_) (λcN hr=>?_)
  .refine Ξ ?_;intro hr;obtain rfl:_=r:=hr;exact j' z (kB (i:=2) nS z z z) ⟨_,_,_,_,_,_,_,_,_,_,z,(a2.mono (mx (mx C ai) bG)),bf,bk,bg,bc⟩
  refine Ξ ?_;intro hr;obtain rfl:_=r:=hr;exact j' z (kB (i:=2) nS z z z) ⟨_,_,_,_,_,_,_,_,_,_,z,bN,bf,bk,bg,bc⟩
 refine sr<|Δ (eA z z)<|Ρ z<|I' hr z (λcK hr=>?_) (λcK hr=>?_)
 .refine Ξ ?_;intro _ _ _ _ _ bP hr _;obtain rfl:_=r:=hr;exact j' z (kB (i:=2) nS z z z) ⟨_,_,_,_,_,_,_,_,_,_,z,(X' c' _),(X' (gb .i64 8) _),bP,(X' (Rp.int .i64) _),(X' (Rp.arr iB 8) _)⟩
 refine o'<|sr<|Δ (eA z z)<|Ρ z<|I' hr z (λcp hr=>?_) (λcp hr=>?_)
 .refine q'<|b'<|I' hr z (λce hr=>?_) (λce hr=>?_)
  .refine Ξ ?_;intro hr;obtain rfl:_=r:=hr;exact j' z (kB (i:=2) nS z z z) ⟨_,_,_,_,_,_,_,_,_,_,z,(X' c' _),(X' (gb .i64 8) _),(X' (Rp.sl c') _),(X' (Rp.int .i64) _),(X' (Rp.arr iB 8) _)⟩
  refine Ξ ?_;intro hr;obtain rfl:_=r:=hr;exact j' z (kB (i:=2) nS z z z) ⟨_,_,_,_,_,_,_,_,_,_,z,(X' c' _),(X' (gb .i64 8) _),(X' (Rp.sl c') _),(X' (Rp.int .i64) _),(X' (Rp.arr iB 8) _)⟩
 refine w'<|Δ (eA z z)<|Ρ z<|I' hr z (λcx hr=>?_) (λcx hr=>?_)
 .refine Ξ ?_;intro hr;obtain rfl:_=r:=hr;exact j' z (kB (i:=2) nS z z z) ⟨_,_,_,_,_,_,_,_,_,_,z,(X' c' _),(X' (gb .i64 8) _),(X' (Rp.sl c') _),(X' (Rp.int .i64) _),(X' (Rp.arr iB 8) _)⟩
 refine Ξ ?_;intro hr;obtain rfl:_=r:=hr;exact j' z (kB (i:=2) nS z z z) ⟨_,_,_,_,_,_,_,_,_,_,z,(X' c' _),(X' (gb .i64 8) _),(X' (Rp.sl c') _),(X' (Rp.int .i64) _),(X' (Rp.arr iB 8) _)⟩
instance gq'{I r}:SpcM ((AA I)) r (∀{A B p q y C K F},Cr 35 #[.agg ((tm I A B p q y C K F)).toArray] (λG=>sl vK G A B I.c.l/\sl (Rp.int .u8) G p q I.c.iR/\sl (gb .i8 5) G y C I.p.t/\sl BH G K F I.l) (fO rW r)):=.mk λhr {A B p q y C K F}=>by
 refine Ξ ?_;intro w0 G0 _ T _ _ _ _ _ b1 p1 U _ av hr _;refine WC.mC (hH:=by exact⟨av,kH⟩) hr [1] [1] [] [] (λ(⟨x,t,u,s,a⟩:(Ŀ Zj)×ŀ Addr×Nat×ŀ Ow×Int)=>⟨(x,a),[(3,δ t x u),(4,i' a)],λv=>sl rW v t u x/\Tok 9 89 (δ t x u) x.length s,[(1003,s)]⟩) (λ(⟨S,M,O,J⟩:(Ŀ Zj)×ŀ Addr×Nat×ŀ Ow)=>⟨S,[(3,δ M S O)],λQ=>sl rW Q M O S/\Tok 9 89 (δ M S O) S.length J,[(1003,J)]⟩) ⟨[],p1,0,none,0⟩ ?_;rintro _ v ⟨x,t,u,s,a⟩ m ⟨V,E⟩ hr;refine Ξ ?_;intro _ _ _ _ _ _ _ _ _ _ _ _ _ _ _ ai hr al;refine oE hr λc aj hr=>gJ z z (x' Yf z) (hM'.h aj) z (⟨ai,al⟩) (λaI aM L R=>?_);obtain⟨o,n,l,k,j,i,h,g,d,f,rfl,Z,D,W,H,Y⟩:=R;refine mW (e:=89) (r:=rW) (vs:=#[(0,.agg ((jR c o n l k j i h g d f)).toArray)]) (cs:=(jR c o n l k j i h g d f)++([])) ([c]:Ŀ Zj) z z z z z ĳ (λ_=>İ) ⟨(jR c o n l k j i h g d f),[],z,⟨[i' c.kind],[δ o c.p n,i' c.n,i' c.d,i' c.r,δ l c.o k,δ j c.l i,δ h c.s g,δ d c.b f],z,z,⟨[δ o c.p n],[i' c.n,i' c.d,i' c.r,δ l c.o k,δ j c.l i,δ h c.s g,δ d c.b f],z,⟨_,z,Z⟩,⟨[i' c.n],[i' c.d,i' c.r,δ l c.o k,δ j c.l i,δ h c.s g,δ d c.b f],z,z,⟨[i' c.d],[i' c.r,δ l c.o k,δ j c.l i,δ h c.s g,δ d c.b f],z,z,⟨[i' c.r],[δ l c.o k,δ j c.l i,δ h c.s g,δ d c.b f],z,z,⟨[δ l c.o k],[δ j c.l i,δ h c.s g,δ d c.b f],z,⟨_,z,D⟩,⟨[δ j c.l i],[δ h c.s g,δ d c.b f],z,⟨_,z,W⟩,⟨[δ h c.s g],[δ d c.b f],z,⟨_,z,H⟩,⟨_,z,Y⟩⟩⟩⟩⟩⟩⟩⟩⟩,z⟩ (key:=999) z (by rw[T];rfl) (λp2 aN P ax=>?_);refine oA hr λX hr=>jH (r:=rW) 1003 z z MK MZ z ĳ z z (V.mono (mx L P)) z (by rw[T];rfl) E ax X λp3 ar af an N aw ah=>Ï z<|t'<|E'<|b'<|w'<|θ z<|iC z<|Ï z<|t'<|N' ⟨an,(x++[c]),p3,ar,af,i64.wrap (a+1)⟩ hr ⟨(mx (mx (mx m L) P) N),aw,ah⟩ (Å z) (w2 z z)
instance mm{b1 a r}:SpcM ((KG b1 a)) r (∀{aw ao Z i I K Y N av aq},Cr 12 #[.agg ((fB b1 aw ao)).toArray,.agg ((tm a Z i I K Y N av aq)).toArray] (λG=>sl fQ G aw ao b1.t/\sl vK G Z i a.c.l/\sl (Rp.int .u8) G I K a.c.iR/\sl (gb .i8 5) G Y N a.p.t/\sl BH G av aq a.l) (û r)):=.mk λhr {aw ao Z i I K Y N av aq}=>by
 refine ê ?_;intro w0 G0 _ _ _ M _ P _ A R _ _ _ hr V;refine o' ?_;refine ê ?_;intro hr;refine I' hr z (λa0 hr=>?_) (λa0 hr=>?_)
 .refine sr<|Δ (y' 3 xC z z z)<|oE hr λbh aK hr=>gJ z z (x' ON z) (Wg.h aK) z (⟨P,A,R,V⟩) (λbe bg p ad=>?_)
  obtain⟨aS,aT,aG,aO,rfl,J,F⟩:=ad;refine W' 7 z rA z λb5=>gl 7 tG z<|nx<|o'<|fC [ff,ff,ff,ff,ff,ff,ff,ff,tt,tt,ff] eL İ λhb=>cn (λ_ d=>y' 2 lf z z z) ?_
  refine ê ?_;intro q hr _;refine oE hr λt aP hr=>ma (f:=27) (φ:=û t) (λ_=>z) (λv U W d h=>?_) (λu l d m=>?_) ?_
  .obtain⟨x,B,rfl,o⟩:=h;exact⟨_,_,z,o.mono d⟩
  .obtain⟨⟨e,j,k,g,aB,E,D⟩,_⟩:=(show(λG v=>∃e j k g,v=.agg ([i' q.kind,δ e q.p j,δ k q.o g]).toArray/\sl c' G e j q.p/\sv G k g q.o) l.m (u 24)/\True from m);exact⟨_,_,_,λ_=>x' zS z,BX.h aP,(by simp only[aB]<;>rfl),⟨((M.mono p).mono d),(J.mono d),(F.mono d),E,D⟩⟩
  refine jU (φ:=û t) (λ_=>z) (λv U W d h=>?_) (λu l d m=>?_) ?_
  .obtain⟨p1,T,rfl,L⟩:=h;exact⟨_,_,z,L.mono d⟩
  .obtain⟨⟨x,B,aC,o⟩,_,_⟩:=(show(û t) l.m (u 25)/\True/\True from m);simp only[ς,aC];exact⟨_,k' z,x,B,z,o⟩
  refine jU (φ:=kj t.1) (λ_=>z) (λv U W d h=>?_) (λu l d m=>?_) ?_
  .obtain⟨p2,aX,rfl,ap⟩:=h;exact⟨_,_,z,ap.mono d⟩
  .obtain⟨⟨p1,T,s,L⟩,_,_,_⟩:=(show(û t) l.m (u 19)/\True/\True/\True from m);simp only[ς,s];exact⟨_,O' z z,p1,T,z,L⟩
  refine mf (c:=i' t.2.1) (λ_=>z) (λu l d m=>?_) ?_
  .obtain⟨_,⟨p1,T,s,L⟩,_,_,_⟩:=(show True/\(û t) l.m (u 19)/\True/\True/\True from m);simp only[ς,s];exact O' z z
  refine mf (c:=i' t.2.2) (λ_=>z) (λu l d m=>?_) ?_
  .obtain⟨_,⟨p1,T,s,L⟩,_,_,_⟩:=(show True/\(û t) l.m (u 19)/\True/\True/\True from m);simp only[ς,s];exact O' z z
  refine lg (λ_=>z) z26<|xQ (λbi a5 bb a6 bc X1 aN au ag ae aj ak=>?_)
  obtain⟨b6,rfl,aI⟩:=au;obtain⟨p2,aX,rfl,ap⟩:=ag;obtain⟨p1,T,rfl,L⟩:=ae;obtain⟨x,B,rfl,o⟩:=aj;obtain⟨e,j,k,g,rfl,E,D⟩:=ak;refine pP aI (mi (show WL _ _ _ _ _ _ (St w0 G0 X1.m _)from ?_));exact Η
 refine q'<|b'<|o'<|fC [ff,ff,ff,ff,ff,ff,ff,ff,ff,ff,tt,ff] eL İ λhb=>?_
 refine ê ?_;intro aE hr _;refine oE hr λH aQ hr=>ma (f:=36) (φ:=jh H) (λ_=>z) (λv U W d h=>?_) (λu l d m=>?_) ?_
 .obtain⟨y,C,rfl,n⟩:=h;exact⟨_,_,z,n.mono d⟩
 .obtain⟨⟨ar,am,aD,Q⟩,_⟩:=(show(fO rW aE) l.m (u 42)/\True from m);exact⟨_,_,_,λ_=>x' IT z,MT.h aQ,(by simp only[aD]<;>rfl),⟨(M.mono d),Q⟩⟩
 refine jU (φ:=jh H) (λ_=>z) (λv U W d h=>?_) (λu l d m=>?_) ?_
 .obtain⟨p3,X,rfl,S⟩:=h;exact⟨_,_,z,S.mono d⟩
 .obtain⟨⟨y,C,aA,n⟩,_,_⟩:=(show(jh H) l.m (u 45)/\True/\True from m);simp only[ς,aA];exact⟨_,k' z,y,C,z,n⟩
 refine jU (φ:=kj H.1) (λ_=>z) (λv U W d h=>?_) (λu l d m=>?_) ?_
 .obtain⟨p4,aU,rfl,an⟩:=h;exact⟨_,_,z,an.mono d⟩
 .obtain⟨⟨p3,X,O,S⟩,_,_,_⟩:=(show(jh H) l.m (u 37)/\True/\True/\True from m);simp only[ς,O];exact⟨_,O' z z,p3,X,z,S⟩
 refine mf (c:=i' H.2) (λ_=>z) (λu l d m=>?_) ?_
 .obtain⟨_,⟨p3,X,O,S⟩,_,_,_⟩:=(show True/\(jh H) l.m (u 37)/\True/\True/\True from m);simp only[ς,O];exact O' z z
 refine lg (λ_=>z) z26<|xQ (λbj bd a3 ba a4 X2 aM ax ah af al ac=>?_)
 obtain⟨b7,rfl,aH⟩:=ax;obtain⟨p4,aU,rfl,an⟩:=ah;obtain⟨p3,X,rfl,S⟩:=af;obtain⟨y,C,rfl,n⟩:=al;obtain⟨ar,am,rfl,Q⟩:=ac;refine pP aH (mi (show WL _ _ _ _ _ _ (St w0 G0 X2.m _)from ?_));exact Η
instance hN'{Z W r}:SpcM ((Fy Z W)) r (∀{S R},Cr 20 #[.agg ((fB Z S R)).toArray,i' W] (λG=>sl fQ G S R Z.t) (λG v=>∃J E x u P O K L,v=.tuple #[.agg ((fq r.1 J E x u P O K L)).toArray,.bool r.2]/\sq G J E r.1.k.eqs/\sq G x u r.1.k.ε/\sl c' G P O r.1.q.p/\sv G K L r.1.q.o)):=.mk λhr {S R}=>by refine Ξ ?_;intro w0 V _ i a hr _;refine WC.mA hr [1,2,4] [2] [4] [] (λ(⟨g,q,e,f,c,d,m,j,n,k⟩:Int×Ze×ŀ Addr×Nat×ŀ Addr×Nat×ŀ Addr×Nat×ŀ Addr×Nat)=>⟨(g,q),[(6,i' g)],λs=>sq s e f q.k.eqs/\sq s c d q.k.ε/\sl c' s m j q.q.p/\sv s n k q.q.o,[(4,ú a (fq q e f c d m j n k) 56)]⟩) (λ(⟨B,p,o,l,h,C,A,y,F⟩:Ze×ŀ Addr×Nat×ŀ Addr×Nat×ŀ Addr×Nat×ŀ Addr×Nat)=>⟨(.inr B),[],λI=>sq I p o B.k.eqs/\sq I l h B.k.ε/\sl c' I C A B.q.p/\sv I y F B.q.o,[(4,ú a (fq B p o l h C A y F) 56)]⟩) ⟨0,(Ze.mk 0 (Zb.mk 0 [] []) (Zc.mk 0 [] []) 0 0 0 false),none,0,none,0,none,0,none,0⟩
instance Wo{k n r}:SpcM ((FH k n)) r (∀{i h},Cr 162 #[δ i k h,i' n] (λG=>sq G i h k) (λG v=>v=.bool r)):=.mk λhr {i h}=>by refine Ξ ?_;intro s f _ hr _;refine WC.mA hr [0,1] [] [] [] (λ(j:Int)=>⟨j,[(5,i' j)],tr,[]⟩) (λ(_:Unit)=>⟨(.inr ()),[],tr,[]⟩) 0
instance M4{c r}:SpcM ((Fw c)) r (Cr 163 #[i' c] (λG=>True) (λG v=>v=.bool r)):=.mk λhr=>Η
instance ic'{k r}:SpcM ((JL k)) r (∀{i e h f d c j g},Cr 237 #[.agg ((wy k i e h f d c j g)).toArray] (λG=>su G i e k.lo.num.υ/\su G h f k.lo.den.υ/\su G d c k.hi.num.υ/\su G j g k.hi.den.υ) (λG v=>v=.bool r)):=.mk λhr {i e h f d c j g}=>Η
instance Wp{u r}:SpcM ((vl u)) r (∀{i f j g},Cr 238 #[.agg ((Υ u i f j g)).toArray] (λG=>su G i f u.num.υ/\su G j g u.den.υ) (λG v=>v=.bool r)):=.mk λhr {i f j g}=>Η
instance ll{x E r}:SpcM ((Fv x E)) r (∀{p n},Cr 164 #[δ p x n,i' E] (λG=>sl (Rp.arr iB 8) G p n x) (λG v=>v=.bool r)):=.mk λhr {p n}=>by
 refine J' (args:=[_,_]) (N:=55) func164 z z z (λP s aw af=>?_);have e:=af;refine sr<|Ρ z<|o'<|sr<|θ z<|Δ (P' uk e z)<|Δ (vz z z)<|nx<|I' hr z (λar hr=>?_) (λar hr=>?_)
 .exact (show False from hr).elim
 refine q'<|b'<|o'<|sr<|Ρ z<|WC.mD hr [0,1] [] [] [] (λ(u:Int)=>⟨u,[(5,i' u)],tr,[]⟩) (λ(_:Unit)=>⟨(.inr ()),[],tr,[]⟩) 0 ?_ ?_
 .intro _ f u d _ hr;refine o'<|sr<|θ z<|θ z<|Δ (P' uk (e.mono d) z)<|kl z<|nx<|I' hr z (λan hr=>?_) (λan hr=>?_)
  .refine q'<|b'<|o'<|Y'<|sr<|Ρ z<|WC.mD hr [0,1,5] [] [0,1,5] [] (λ(y:Int)=>⟨y,[(6,i' y)],tr,[]⟩) (λ(_:Unit)=>⟨(.inr ()),[],tr,[]⟩) 0 ?_ ?_
   .intro _ k y c _ hr;refine o'<|sr<|θ z<|kl z<|nx<|I' hr z (λaq hr=>?_) (λaq hr=>?_)
    .refine q'<|b'<|o'<|Y'<|sr<|θ z<|θ z<|θ z<|oE hr λx1 B hr=>Δ (jV uk lV (e.mono (mx d c)) z z B)<|oE hr λx2 T hr=>Δ (uv zw jY z z (uw (iD e B) T)) ?_
     obtain⟨L,F,K,I,H,O,J,M,ao,h,j,i,g⟩:=Pf (T' (AtK.arr (iD e B) T) (mx d c));refine Δ (nw _ rS z z ao)<|oE hr λal ah hr=>H' z z (x' Iq z) (ic'.h ah) z (⟨h,j,i,g⟩) ?_
     cases al
     .refine Δ (kG z)<|θ z<|nJ z<|É (M' z z) z<|É (M' z z) z<|É (M' z z) z<|É (M' z z) z<|É (M' z z) z<|É (M' z z) z<|É (M' z z) z<|É (M' z z) z<|É (M' z z) z<|É (M' z z) z<|É (M' z z) z<|É (M' z z) z<|É (M' z z) z<|É (M' z z) z<|É (M' z z) z<|É (M' z z) z<|É (M' z z) z<|É (M' z z) z<|É (M' z z) z<|É (M' z z) z<|sf z z z<|Ι z<|nx<|oh z<|sr<|Ρ z<|m'<|g'<|a'<|a'<|g'<|mN<|g'<|a'<|a'<|g'<|mN<|a' (Ó hr z z)
     refine Δ (kG z)<|θ z<|kN z<|kN z<|dQ hr (C' z z) (vF z z) z (λap hr=>?_) (λap hr=>?_)
     .refine kN z<|kN z<|kN z<|kN z<|oE hr λx3 A hr=>gy z z (jV uk lV (e.mono (mx d c)) z z A) z<|oE hr λx4 a hr=>gy z z (uv zw jY z z (uw (iD e A) a)) z<|gy z z (eV' z) z ?_
      obtain⟨V,ac,S,W,ai,l,m⟩:=pE (T' (r6 (nQ (AtK.arr (iD e A) a))) (mx d c));refine gy z z (nw _ l9 z z ai) z<|oE hr λaj X hr=>H' (C' z z) z (x' zQ z) (Wp.h X) z (⟨l,m⟩) ?_
      cases aj
      .refine gy z z (kG z) z<|kN z<|XI z<|gy z z (h' z z) z<|gy z z (h' z z) z<|ο z<|nx<|oh z<|sr<|Ρ z<|m'<|g'<|a'<|a'<|g'<|mN<|g'<|a'<|a'<|g'<|mN<|a' (Ó hr z z)
      refine gy z z (kG z) z<|kN z<|kN z<|kN z<|kN z<|oE hr λx5 C hr=>gy z z (jV uk lV (e.mono (mx d c)) z z C) z<|oE hr λx6 Y hr=>gy z z (uv zw jY z z (uw (iD e C) Y)) z<|gy z z (eW' z) z ?_
      obtain⟨ab,U,R,Z,ak,o,q⟩:=pE (T' (xF (nQ (AtK.arr (iD e C) Y))) (mx d c));refine gy z z (nw _ l9 z z ak) z<|oE hr λav ae hr=>H' (C' z z) z (x' zQ z) (Wp.h ae) z (⟨o,q⟩)<|gy z z (kG z) z<|gy z z (f' z z) z<|gy z z (h' z z) z<|ο z<|nx<|kc hr z (λam hr=>?_) (λam hr=>?_)
      .refine sr<|Ρ z<|m'<|g'<|a'<|a'<|g'<|mN<|g'<|a'<|a'<|g'<|mN<|a' (Ó hr z z)
      refine q'<|E'<|b'<|w'<|θ z<|iC z<|Ï z<|t'<|N' ⟨k,i64.wrap (y+1)⟩ hr ⟨c,trivial⟩ (Å z) (wk ln)
     refine kN z<|XI z<|sk z z z<|É (M' z z) z<|É (M' z z) z<|É (M' z z) z<|É (M' z z) z<|É (M' z z) z<|É (M' z z) z<|É (M' z z) z<|É (M' z z) z<|É (M' z z) z<|sk z z z<|gy z z (f' z z) z<|ο z<|nx<|tF z<|q'<|E'<|b'<|w'<|θ z<|iC z<|Ï z<|t'<|N' ⟨k,i64.wrap (y+1)⟩ hr ⟨c,trivial⟩ (Å z) (wk ln)
    refine na<|p'<|p'<|K'<|nP ⟨k,()⟩ ⟨hr,c,trivial⟩ (Å z) (wk ln)
   intro t _ hr Q _;refine E'<|b'<|w'<|θ z<|iC z<|Ï z<|t'<|N' ⟨t,i64.wrap (u+1)⟩ hr ⟨(mx d Q),trivial⟩ (Å z) (wk ln)
  refine na<|p'<|p'<|K'<|nP ⟨f,()⟩ ⟨hr,d,trivial⟩ fn (wk ln)
 intro D _ hr au _;refine b'<|sr<|Ρ z<|m' (Ó hr z z)
instance iS'{k r}:SpcM ((K8 k)) r (∀{i h},Cr 165 #[δ i k h] (λG=>sl (Rp.int .i64) G i h k) (λG v=>v=.bool r)):=.mk λhr {i h}=>by refine Ξ ?_;intro p f _ hr _;refine WC.mA hr [0] [] [] [] (λ(j:Int)=>⟨j,[(3,i' j)],tr,[]⟩) (λ(_:Unit)=>⟨(.inr ()),[],tr,[]⟩) 0
set_option maxHeartbeats 2000000 in
instance iT'{l c r}:SpcM ((Fu l c)) r (∀{j k i h t s n u y q o x p m},Cr 92 #[.agg ((Ä l j k i h)).toArray,.agg ((jR c t s n u y q o x p m)).toArray] (λG=>sq G j k l.eqs/\sq G i h l.ε/\sl c' G t s c.p/\sv G n u c.o/\sq G y q c.l/\sl (Rp.int .i64) G o x c.s/\sl (Rp.arr iB 8) G p m c.b) (λG v=>v=.bool r)):=.mk λhr {j k i h t s n u y q o x p m}=>by
 refine J' (args:=[_,_]) (N:=314) func92 z z z (λX O bA a0=>?_);obtain⟨R,L,M,P,B,E,C⟩:=a0;refine sr<|jM 2 z z z λT=>jM 3 z z z λQ=>Ρ z<|o'<|sr<|Δ (y' 2 mX z z z)<|oE hr λbB az hr=>H' z z (x' Yh z) (gz'.h az) z (⟨R,L⟩)<|Δ (kG z)<|nx<|kc hr z (λbt hr=>?_) (λbt hr=>?_)
 .exact (show False from hr).elim
 refine q'<|b'<|o'<|fC [ff,ff,ff,ff,ff,ff,ff,ff,ff,ff,ff,ff,ff,ff,ff,ff,ff,ff,ff,ff,ff,ff,ff,ff] eL İ λhb=>cn (λ_ d=>Gu z)<|cn (λ_ d=>n' 3 re z z z)<|cn (λ_ d=>P' Q' (M.mono d) z)<|cn (λ_ d=>eA z z)<|cn (λ_ d=>BL z)<|cn (λ_ d=>n' 3 jQ z z z)<|cn (λ_ d=>P' jL (B.mono d) z)<|cn (λ_ d=>eA z z)<|cn (λ_ d=>V9 z)<|cn (λ_ d=>n' 3 sR z z z)<|cn (λ_ d=>P' tB (P.mono d) z)<|cn (λ_ d=>eA z z)<|cn (λ_ d=>BE z)<|cn (λ_ d=>n' 3 sQ z z z)<|cn (λ_ d=>P' ra (E.mono d) z)<|cn (λ_ d=>eA z z)<|cn (λ_ d=>zj z)<|cn (λ_ d=>n' 3 qR z z z)<|cn (λ_ d=>P' uk (C.mono d) z)<|cn (λ_ d=>eA z z)<|cn (λ_ d=>rh z)<|cn (λ_ d=>rh z)<|cn (λ_ d=>rh z)<|cn (λ_ d=>rh z)<|oH hb<|Ï z<|t'<|Θ<|b'<|WC.nD hr [2,3,5,6,7,8,9] [2,3] (λ(A:Bool)=>⟨[(10,.bool A)],wO l c A,tr,[]⟩) ?_ ?_
 .refine w'<|Δ (zg z)<|Δ (n' 3 eK z z z)<|dQ hr z (eA z z) z (λap hr=>?_) (λap hr=>?_)
  .refine θ z<|gy z z (xG z) z<|gy z z (n' 3 eK z z z) z<|dQ hr (C' z z) (eA z z) z (λaV hr=>?_) (λaV hr=>?_)
   .refine Ι z<|θ z<|gy z z (zo z) z<|gy z z (n' 3 eK z z z) z<|gy z z (eA z z) z<|Ι z<|Ï z<|t'<|pD ⟨O,decide (c.r=0)⟩ ⟨hr,mr,trivial⟩ (Å z) (w2 z z)
   refine Ι z<|θ z<|fL z<|ο z<|Ï z<|t'<|pD ⟨O,false⟩ ⟨hr,mr,trivial⟩ (Å z) (w2 z z)
  refine θ z<|fL z<|ο z<|θ z<|fL z<|ο z<|Ï z<|t'<|pD ⟨O,false⟩ ⟨hr,mr,trivial⟩ (Å z) (w2 z z)
 intro F A hr e _;refine sr<|Δ (Gu z)<|Δ (n' 3 re z z z)<|Δ (ri z)<|Δ (n' 2 eK z z z)<|oE hr λS aA hr=>H' z z (x' zK z) (Wl.h aA) z ((M.mono e))<|Ρ z<|o'<|sr<|Δ (zf z)<|Δ (n' 3 eK z z z)<|nx<|Y'<|WC.nD hr [2,3,5,6,7,8,9,10,11,54] [2,3] (λ(K:Bool)=>⟨[(55,.bool K)],Ao l c A S K,tr,[]⟩) ?_ ?_
 .refine sr<|Δ (eA z z)<|Ρ z<|I' hr z (λaL hr=>?_) (λaL hr=>?_)
  .refine q'<|pD ⟨F,decide (c.kind=1)⟩ ⟨hr,mr,trivial⟩ (f11 z z z z z z z z z z z) (w2 z z)
  refine sr<|Δ (eA z z)<|Ρ z<|I' hr z (λaH hr=>?_) (λaH hr=>?_)
  .refine q'<|pD ⟨F,decide (c.kind=2)⟩ ⟨hr,mr,trivial⟩ (f11 z z z z z z z z z z z) (w2 z z)
  refine w'<|Δ (eA z z)<|Ï z<|t'<|pD ⟨F,decide (c.kind=10)⟩ ⟨hr,mr,trivial⟩ (f11 z z z z z z z z z z z) (w2 z z)
 intro I K hr g _;refine kc hr z (λbg hr=>?_) (λbg hr=>?_)
 .refine sr<|dQ hr z (nz (k' z) (đ Value.bool (om _))) z (λbs hr=>?_) (λbs hr=>?_)
  .refine θ z<|dQ hr (C' z z) (k' z) z (λbi hr=>?_) (λbi hr=>?_)
   .refine Ι z<|θ z<|dQ hr (C' z z) (k' z) z (λbl hr=>?_) (λbl hr=>?_)
    .refine Ι z<|θ z<|dQ hr (C' z z) (k' z) z (λbr hr=>?_) (λbr hr=>?_)
     .refine Ι z<|θ z<|dQ hr (C' z z) (k' z) z (λbp hr=>?_) (λbp hr=>?_)
      .refine Ι z<|θ z<|kN z<|Ι z<|Ρ z<|m'<|g'<|a' (Ó hr z z)
      refine Ι z<|θ z<|sk z z z<|ο z<|Ρ z<|m'<|g'<|a' (Ó hr z z)
     refine Ι z<|θ z<|sk z z z<|ο z<|θ z<|sk z z z<|ο z<|Ρ z<|m'<|g'<|a' (Ó hr z z)
    refine Ι z<|θ z<|sk z z z<|ο z<|θ z<|sk z z z<|ο z<|θ z<|sk z z z<|ο z<|Ρ z<|m'<|g'<|a' (Ó hr z z)
   refine Ι z<|θ z<|sk z z z<|ο z<|θ z<|sk z z z<|ο z<|θ z<|sk z z z<|ο z<|θ z<|sk z z z<|ο z<|Ρ z<|m'<|g'<|a' (Ó hr z z)
  refine θ z<|sk z z z<|ο z<|θ z<|sk z z z<|ο z<|θ z<|sk z z z<|ο z<|θ z<|sk z z z<|ο z<|θ z<|sk z z z<|ο z<|Ρ z<|m'<|g'<|a' (Ó hr z z)
 refine WC.nD hr [2,3,5,6,7,8,9,10,11,54] [2,3] (λ(J:Bool)=>⟨[(75,.bool J)],Es l c A S J,tr,[]⟩) ?_ ?_
 .refine sr<|Δ (eA z z)<|Ρ z<|I' hr z (λa2 hr=>?_) (λa2 hr=>?_)
  .refine q'<|pD ⟨I,decide (c.kind=3)⟩ ⟨hr,mr,trivial⟩ (f11 z z z z z z z z z z z) (w2 z z)
  refine w'<|Δ (eA z z)<|Ï z<|t'<|pD ⟨I,decide (c.kind=9)⟩ ⟨hr,mr,trivial⟩ (f11 z z z z z z z z z z z) (w2 z z)
 intro H J hr f _;refine kc hr z (λbm hr=>?_) (λbm hr=>?_)
 .refine sr<|dQ hr z (k' z) z (λbn hr=>?_) (λbn hr=>?_)
  .refine θ z<|dQ hr (C' z z) (k' z) z (λbq hr=>?_) (λbq hr=>?_)
   .refine Ι z<|θ z<|dQ hr (C' z z) (k' z) z (λbc hr=>?_) (λbc hr=>?_)
    .refine Ι z<|θ z<|dQ hr (C' z z) (k' z) z (λbd hr=>?_) (λbd hr=>?_)
     .refine Ι z<|θ z<|dQ hr (C' z z) (k' z) z (λaO hr=>?_) (λaO hr=>?_)
      .refine Ι z<|θ z<|kN z<|Ι z<|Ρ z<|m'<|g'<|a' (Ó hr z z)
      refine Ι z<|θ z<|sk z z z<|ο z<|Ρ z<|m'<|g'<|a' (Ó hr z z)
     refine Ι z<|θ z<|sk z z z<|ο z<|θ z<|sk z z z<|ο z<|Ρ z<|m'<|g'<|a' (Ó hr z z)
    refine Ι z<|θ z<|sk z z z<|ο z<|θ z<|sk z z z<|ο z<|θ z<|sk z z z<|ο z<|Ρ z<|m'<|g'<|a' (Ó hr z z)
   refine Ι z<|θ z<|sk z z z<|ο z<|θ z<|sk z z z<|ο z<|θ z<|sk z z z<|ο z<|θ z<|sk z z z<|ο z<|Ρ z<|m'<|g'<|a' (Ó hr z z)
  refine θ z<|sk z z z<|ο z<|θ z<|sk z z z<|ο z<|θ z<|sk z z z<|ο z<|θ z<|sk z z z<|ο z<|θ z<|sk z z z<|ο z<|Ρ z<|m'<|g'<|a' (Ó hr z z)
 refine sr<|Δ (eA z z)<|Ρ z<|I' hr z (λbe hr=>?_) (λbe hr=>?_)
 .refine sr<|dQ hr z (k' z) z (λag hr=>?_) (λag hr=>?_)
  .refine θ z<|dQ hr (C' z z) (k' z) z (λaD hr=>?_) (λaD hr=>?_)
   .refine Ι z<|θ z<|dQ hr (C' z z) (k' z) z (λa3 hr=>?_) (λa3 hr=>?_)
    .refine Ι z<|θ z<|dQ hr (C' z z) (nz (k' z) (đ Value.bool (om _))) z (λav hr=>?_) (λav hr=>?_)
     .refine Ι z<|θ z<|gy z z (V9 z) z<|gy z z (n' 3 sR z z z) z<|oE hr λbh aR hr=>H' (C' z z) z (x' H6 z) (fK'.h aR) z ((P.mono (mx (mx e g) f))) ?_
      cases bh
      .refine Ι z<|θ z<|nJ z<|ο z<|θ z<|ia z<|ο z<|Ρ z<|m'<|g'<|a' (Ó hr z z)
      refine Ι z<|θ z<|gy z z (BL z) z<|gy z z (n' 3 jQ z z z) z<|gy z z (P' jL (B.mono (mx (mx e g) f)) z) z<|dQ hr (C' z z) (BB z z) z (λaW hr=>?_) (λaW hr=>?_)
      .refine Ι z<|θ z<|gy z z (BL z) z<|gy z z (n' 3 jQ z z z) z<|gy z z (ri z) z<|gy z z (n' 2 eK z z z) z<|oE hr λbz ac hr=>H' (C' z z) z (x' zL z) (Wo.h ac) z ((B.mono (mx (mx e g) f)))<|Ι z<|Ρ z<|m'<|g'<|a' (Ó hr z z)
      refine Ι z<|θ z<|ia z<|ο z<|Ρ z<|m'<|g'<|a' (Ó hr z z)
     refine Ι z<|θ z<|fL z<|ο z<|θ z<|nJ z<|ο z<|θ z<|ia z<|ο z<|Ρ z<|m'<|g'<|a' (Ó hr z z)
    refine Ι z<|θ z<|sk z z z<|ο z<|θ z<|fL z<|ο z<|θ z<|nJ z<|ο z<|θ z<|ia z<|ο z<|Ρ z<|m'<|g'<|a' (Ó hr z z)
   refine Ι z<|θ z<|sk z z z<|ο z<|θ z<|sk z z z<|ο z<|θ z<|fL z<|ο z<|θ z<|nJ z<|ο z<|θ z<|ia z<|ο z<|Ρ z<|m'<|g'<|a' (Ó hr z z)
  refine θ z<|sk z z z<|ο z<|θ z<|sk z z z<|ο z<|θ z<|sk z z z<|ο z<|θ z<|fL z<|ο z<|θ z<|nJ z<|ο z<|θ z<|ia z<|ο z<|Ρ z<|m'<|g'<|a' (Ó hr z z)
 refine sr<|Δ (eA z z)<|Ρ z<|I' hr z (λbo hr=>?_) (λbo hr=>?_)
 .refine sr<|dQ hr z (k' z) z (λan hr=>?_) (λan hr=>?_)
  .refine θ z<|dQ hr (C' z z) (k' z) z (λaB hr=>?_) (λaB hr=>?_)
   .refine Ι z<|θ z<|dQ hr (C' z z) (k' z) z (λY hr=>?_) (λY hr=>?_)
    .refine Ι z<|θ z<|dQ hr (C' z z) (k' z) z (λaG hr=>?_) (λaG hr=>?_)
     .refine Ι z<|θ z<|dQ hr (C' z z) (k' z) z (λaf hr=>?_) (λaf hr=>?_)
      .refine Ι z<|θ z<|gy z z (zo z) z<|gy z z (n' 3 eK z z z) z<|dQ hr (C' z z) (eA z z) z (λar hr=>?_) (λar hr=>?_)
       .refine Ι z<|θ z<|gy z z (xG z) z<|gy z z (n' 3 eK z z z) z<|dQ hr (C' z z) (vF z z) z (λaI hr=>?_) (λaI hr=>?_)
        .refine Ι z<|θ z<|gy z z (xG z) z<|gy z z (n' 3 eK z z z) z<|gy z z (ri z) z<|gy z z (n' 2 eK z z z) z<|dQ hr (C' z z) (BB z z) z (λaa hr=>?_) (λaa hr=>?_)
         .refine Ι z<|θ z<|gy z z (zg z) z<|gy z z (n' 3 eK z z z) z<|oE hr λbE aQ hr=>H' (C' z z) z (x' wC z) (M4.h aQ) z (trivial)<|Ι z<|Ρ z<|m'<|g'<|a' (Ó hr z z)
         refine Ι z<|θ z<|fL z<|ο z<|Ρ z<|m'<|g'<|a' (Ó hr z z)
        refine Ι z<|θ z<|ia z<|ο z<|θ z<|fL z<|ο z<|Ρ z<|m'<|g'<|a' (Ó hr z z)
       refine Ι z<|θ z<|fL z<|ο z<|θ z<|ia z<|ο z<|θ z<|fL z<|ο z<|Ρ z<|m'<|g'<|a' (Ó hr z z)
      refine Ι z<|θ z<|fL z<|ο z<|θ z<|fL z<|ο z<|θ z<|ia z<|ο z<|θ z<|fL z<|ο z<|Ρ z<|m'<|g'<|a' (Ó hr z z)
     refine Ι z<|θ z<|sk z z z<|ο z<|θ z<|fL z<|ο z<|θ z<|fL z<|ο z<|θ z<|ia z<|ο z<|θ z<|fL z<|ο z<|Ρ z<|m'<|g'<|a' (Ó hr z z)
    refine Ι z<|θ z<|sk z z z<|ο z<|θ z<|sk z z z<|ο z<|θ z<|fL z<|ο z<|θ z<|fL z<|ο z<|θ z<|ia z<|ο z<|θ z<|fL z<|ο z<|Ρ z<|m'<|g'<|a' (Ó hr z z)
   refine Ι z<|θ z<|sk z z z<|ο z<|θ z<|sk z z z<|ο z<|θ z<|sk z z z<|ο z<|θ z<|fL z<|ο z<|θ z<|fL z<|ο z<|θ z<|ia z<|ο z<|θ z<|fL z<|ο z<|Ρ z<|m'<|g'<|a' (Ó hr z z)
  refine θ z<|sk z z z<|ο z<|θ z<|sk z z z<|ο z<|θ z<|sk z z z<|ο z<|θ z<|sk z z z<|ο z<|θ z<|fL z<|ο z<|θ z<|fL z<|ο z<|θ z<|ia z<|ο z<|θ z<|fL z<|ο z<|Ρ z<|m'<|g'<|a' (Ó hr z z)
 refine sr<|Δ (eA z z)<|Ρ z<|I' hr z (λbk hr=>?_) (λbk hr=>?_)
 .refine sr<|dQ hr z (k' z) z (λa5 hr=>?_) (λa5 hr=>?_)
  .refine θ z<|dQ hr (C' z z) (k' z) z (λaj hr=>?_) (λaj hr=>?_)
   .refine Ι z<|θ z<|dQ hr (C' z z) (k' z) z (λa1 hr=>?_) (λa1 hr=>?_)
    .refine Ι z<|θ z<|dQ hr (C' z z) (k' z) z (λa4 hr=>?_) (λa4 hr=>?_)
     .refine Ι z<|θ z<|dQ hr (C' z z) (k' z) z (λak hr=>?_) (λak hr=>?_)
      .refine Ι z<|θ z<|gy z z (zg z) z<|gy z z (n' 3 eK z z z) z<|oE hr λba ae hr=>H' (C' z z) z (x' wC z) (M4.h ae) z (trivial) ?_
       cases ba
       .refine Ι z<|θ z<|fL z<|ο z<|θ z<|ia z<|ο z<|θ z<|ia z<|ο z<|Ρ z<|m'<|g'<|a' (Ó hr z z)
       refine Ι z<|θ z<|gy z z (zo z) z<|gy z z (n' 3 eK z z z) z<|dQ hr (C' z z) (vF z z) z (λaC hr=>?_) (λaC hr=>?_)
       .refine Ι z<|θ z<|gy z z (zo z) z<|gy z z (n' 3 eK z z z) z<|gy z z (xG z) z<|gy z z (n' 3 eK z z z) z<|dQ hr (C' z z) (BB z z) z (λaY hr=>?_) (λaY hr=>?_)
        .refine Ι z<|θ z<|gy z z (xG z) z<|gy z z (n' 3 eK z z z) z<|gy z z (zg z) z<|gy z z (n' 3 eK z z z) z<|gy z z (BB z z) z<|Ι z<|Ρ z<|m'<|g'<|a' (Ó hr z z)
        refine Ι z<|θ z<|ia z<|ο z<|Ρ z<|m'<|g'<|a' (Ó hr z z)
       refine Ι z<|θ z<|ia z<|ο z<|θ z<|ia z<|ο z<|Ρ z<|m'<|g'<|a' (Ó hr z z)
      refine Ι z<|θ z<|fL z<|ο z<|θ z<|fL z<|ο z<|θ z<|ia z<|ο z<|θ z<|ia z<|ο z<|Ρ z<|m'<|g'<|a' (Ó hr z z)
     refine Ι z<|θ z<|sk z z z<|ο z<|θ z<|fL z<|ο z<|θ z<|fL z<|ο z<|θ z<|ia z<|ο z<|θ z<|ia z<|ο z<|Ρ z<|m'<|g'<|a' (Ó hr z z)
    refine Ι z<|θ z<|sk z z z<|ο z<|θ z<|sk z z z<|ο z<|θ z<|fL z<|ο z<|θ z<|fL z<|ο z<|θ z<|ia z<|ο z<|θ z<|ia z<|ο z<|Ρ z<|m'<|g'<|a' (Ó hr z z)
   refine Ι z<|θ z<|sk z z z<|ο z<|θ z<|sk z z z<|ο z<|θ z<|sk z z z<|ο z<|θ z<|fL z<|ο z<|θ z<|fL z<|ο z<|θ z<|ia z<|ο z<|θ z<|ia z<|ο z<|Ρ z<|m'<|g'<|a' (Ó hr z z)
  refine θ z<|sk z z z<|ο z<|θ z<|sk z z z<|ο z<|θ z<|sk z z z<|ο z<|θ z<|sk z z z<|ο z<|θ z<|fL z<|ο z<|θ z<|fL z<|ο z<|θ z<|ia z<|ο z<|θ z<|ia z<|ο z<|Ρ z<|m'<|g'<|a' (Ó hr z z)
 refine sr<|Δ (eA z z)<|Ρ z<|I' hr z (λbb hr=>?_) (λbb hr=>?_)
 .refine sr<|dQ hr z (k' z) z (λal hr=>?_) (λal hr=>?_)
  .refine θ z<|dQ hr (C' z z) (k' z) z (λab hr=>?_) (λab hr=>?_)
   .refine Ι z<|θ z<|dQ hr (C' z z) (k' z) z (λah hr=>?_) (λah hr=>?_)
    .refine Ι z<|θ z<|dQ hr (C' z z) (k' z) z (λaT hr=>?_) (λaT hr=>?_)
     .refine Ι z<|θ z<|dQ hr (C' z z) (nz (k' z) (đ Value.bool (om _))) z (λau hr=>?_) (λau hr=>?_)
      .refine Ι z<|θ z<|gy z z (zj z) z<|gy z z (n' 3 qR z z z) z<|gy z z (ri z) z<|gy z z (n' 2 eK z z z) z<|oE hr λbD aX hr=>H' (C' z z) z (x' zM z) (ll.h aX) z ((C.mono (mx (mx e g) f)))<|Ι z<|Ρ z<|m'<|g'<|a' (Ó hr z z)
      refine Ι z<|θ z<|ia z<|ο z<|Ρ z<|m'<|g'<|a' (Ó hr z z)
     refine Ι z<|θ z<|sk z z z<|ο z<|θ z<|ia z<|ο z<|Ρ z<|m'<|g'<|a' (Ó hr z z)
    refine Ι z<|θ z<|sk z z z<|ο z<|θ z<|sk z z z<|ο z<|θ z<|ia z<|ο z<|Ρ z<|m'<|g'<|a' (Ó hr z z)
   refine Ι z<|θ z<|sk z z z<|ο z<|θ z<|sk z z z<|ο z<|θ z<|sk z z z<|ο z<|θ z<|ia z<|ο z<|Ρ z<|m'<|g'<|a' (Ó hr z z)
  refine θ z<|sk z z z<|ο z<|θ z<|sk z z z<|ο z<|θ z<|sk z z z<|ο z<|θ z<|sk z z z<|ο z<|θ z<|ia z<|ο z<|Ρ z<|m'<|g'<|a' (Ó hr z z)
 refine sr<|Δ (eA z z)<|Ρ z<|I' hr z (λbj hr=>?_) (λbj hr=>?_)
 .refine sr<|dQ hr z (nz (k' z) (đ Value.bool (om _))) z (λay hr=>?_) (λay hr=>?_)
  .refine θ z<|dQ hr (C' z z) (k' z) z (λao hr=>?_) (λao hr=>?_)
   .refine Ι z<|θ z<|dQ hr (C' z z) (k' z) z (λaP hr=>?_) (λaP hr=>?_)
    .refine Ι z<|θ z<|dQ hr (C' z z) (nz (k' z) (đ Value.bool (om _))) z (λaw hr=>?_) (λaw hr=>?_)
     .refine Ι z<|θ z<|gy z z (zj z) z<|gy z z (n' 3 qR z z z) z<|gy z z (ri z) z<|gy z z (n' 2 eK z z z) z<|oE hr λa a7 hr=>H' (C' z z) z (x' zM z) (ll.h a7) z ((C.mono (mx (mx e g) f))) ?_
      cases a
      .refine Ι z<|θ z<|qT z<|ο z<|θ z<|fL z<|ο z<|Ρ z<|m'<|g'<|a' (Ó hr z z)
      refine Ι z<|θ z<|gy z z (BE z) z<|gy z z (n' 3 sQ z z z) z<|gy z z (P' ra (E.mono (mx (mx e g) f)) z) z<|gy z z (zj z) z<|gy z z (n' 3 qR z z z) z<|gy z z (P' uk (C.mono (mx (mx e g) f)) z) z<|dQ hr (C' z z) (eA z z) z (λZ hr=>?_) (λZ hr=>?_)
      .refine Ι z<|θ z<|gy z z (BE z) z<|gy z z (n' 3 sQ z z z) z<|oE hr λbC ax hr=>H' (C' z z) z (x' H7 z) (iS'.h ax) z ((E.mono (mx (mx e g) f)))<|Ι z<|Ρ z<|m'<|g'<|a' (Ó hr z z)
      refine Ι z<|θ z<|fL z<|ο z<|Ρ z<|m'<|g'<|a' (Ó hr z z)
     refine Ι z<|θ z<|ia z<|ο z<|θ z<|qT z<|ο z<|θ z<|fL z<|ο z<|Ρ z<|m'<|g'<|a' (Ó hr z z)
    refine Ι z<|θ z<|sk z z z<|ο z<|θ z<|ia z<|ο z<|θ z<|qT z<|ο z<|θ z<|fL z<|ο z<|Ρ z<|m'<|g'<|a' (Ó hr z z)
   refine Ι z<|θ z<|sk z z z<|ο z<|θ z<|sk z z z<|ο z<|θ z<|ia z<|ο z<|θ z<|qT z<|ο z<|θ z<|fL z<|ο z<|Ρ z<|m'<|g'<|a' (Ó hr z z)
  refine θ z<|sk z z z<|ο z<|θ z<|sk z z z<|ο z<|θ z<|sk z z z<|ο z<|θ z<|ia z<|ο z<|θ z<|qT z<|ο z<|θ z<|fL z<|ο z<|Ρ z<|m'<|g'<|a' (Ó hr z z)
 refine sr<|Δ (eA z z)<|Ρ z<|I' hr z (λbf hr=>?_) (λbf hr=>?_)
 .refine sr<|dQ hr z (k' z) z (λaZ hr=>?_) (λaZ hr=>?_)
  .refine θ z<|dQ hr (C' z z) (k' z) z (λaN hr=>?_) (λaN hr=>?_)
   .refine Ι z<|θ z<|dQ hr (C' z z) (k' z) z (λam hr=>?_) (λam hr=>?_)
    .refine Ι z<|θ z<|dQ hr (C' z z) (k' z) z (λaK hr=>?_) (λaK hr=>?_)
     .refine Ι z<|θ z<|dQ hr (C' z z) (nz (k' z) (đ Value.bool (om _))) z (λa6 hr=>?_) (λa6 hr=>?_)
      .refine Ι z<|θ z<|gy z z (BL z) z<|gy z z (n' 3 jQ z z z) z<|gy z z (P' jL (B.mono (mx (mx e g) f)) z) z<|dQ hr (C' z z) (BB z z) z (λaU hr=>?_) (λaU hr=>?_)
       .refine Ι z<|θ z<|gy z z (BL z) z<|gy z z (n' 3 jQ z z z) z<|gy z z (ri z) z<|gy z z (n' 2 eK z z z) z<|oE hr λbw W hr=>H' (C' z z) z (x' zL z) (Wo.h W) z ((B.mono (mx (mx e g) f)))<|Ι z<|Ρ z<|m'<|g'<|a' (Ó hr z z)
       refine Ι z<|θ z<|ia z<|ο z<|Ρ z<|m'<|g'<|a' (Ó hr z z)
      refine Ι z<|θ z<|nJ z<|ο z<|θ z<|ia z<|ο z<|Ρ z<|m'<|g'<|a' (Ó hr z z)
     refine Ι z<|θ z<|sk z z z<|ο z<|θ z<|nJ z<|ο z<|θ z<|ia z<|ο z<|Ρ z<|m'<|g'<|a' (Ó hr z z)
    refine Ι z<|θ z<|sk z z z<|ο z<|θ z<|sk z z z<|ο z<|θ z<|nJ z<|ο z<|θ z<|ia z<|ο z<|Ρ z<|m'<|g'<|a' (Ó hr z z)
   refine Ι z<|θ z<|sk z z z<|ο z<|θ z<|sk z z z<|ο z<|θ z<|sk z z z<|ο z<|θ z<|nJ z<|ο z<|θ z<|ia z<|ο z<|Ρ z<|m'<|g'<|a' (Ó hr z z)
  refine θ z<|sk z z z<|ο z<|θ z<|sk z z z<|ο z<|θ z<|sk z z z<|ο z<|θ z<|sk z z z<|ο z<|θ z<|nJ z<|ο z<|θ z<|ia z<|ο z<|Ρ z<|m'<|g'<|a' (Ó hr z z)
 refine WC.nD hr [3,5,6,7,8,9] [3] (λ(D:Bool)=>⟨[(283,.bool D)],Er c D,tr,[]⟩) ?_ ?_
 .refine sr<|Δ (eA z z)<|Ρ z<|I' hr z (λaq hr=>?_) (λaq hr=>?_)
  .refine q'<|pD ⟨H,decide (c.kind=12)⟩ ⟨hr,mr,trivial⟩ (Å z) (w1 z)
  refine w'<|Δ (eA z z)<|Ï z<|t'<|pD ⟨H,decide (c.kind=13)⟩ ⟨hr,mr,trivial⟩ (Å z) (w1 z)
 intro U D hr bu _;refine kc hr z (λaM hr=>?_) (λaM hr=>?_)
 .refine sr<|dQ hr z (k' z) z (λaE hr=>?_) (λaE hr=>?_)
  .refine θ z<|dQ hr (C' z z) (k' z) z (λaJ hr=>?_) (λaJ hr=>?_)
   .refine Ι z<|θ z<|dQ hr (C' z z) (k' z) z (λaF hr=>?_) (λaF hr=>?_)
    .refine Ι z<|θ z<|dQ hr (C' z z) (k' z) z (λad hr=>?_) (λad hr=>?_)
     .refine Ι z<|θ z<|dQ hr (C' z z) (k' z) z (λai hr=>?_) (λai hr=>?_)
      .refine Ι z<|θ z<|gy z z (xG z) z<|gy z z (n' 3 eK z z z) z<|dQ hr (C' z z) (eA z z) z (λa8 hr=>?_) (λa8 hr=>?_)
       .refine Ι z<|θ z<|gy z z (zo z) z<|gy z z (n' 3 eK z z z) z<|dQ hr (C' z z) (eA z z) z (λaS hr=>?_) (λaS hr=>?_)
        .refine Ι z<|θ z<|gy z z (zg z) z<|gy z z (n' 3 eK z z z) z<|oE hr λbx V hr=>H' (C' z z) z (x' wC z) (M4.h V) z (trivial)<|Ι z<|Ρ z<|m'<|g'<|a' (Ó hr z z)
        refine Ι z<|θ z<|fL z<|ο z<|Ρ z<|m'<|g'<|a' (Ó hr z z)
       refine Ι z<|θ z<|fL z<|ο z<|θ z<|fL z<|ο z<|Ρ z<|m'<|g'<|a' (Ó hr z z)
      refine Ι z<|θ z<|fL z<|ο z<|θ z<|fL z<|ο z<|θ z<|fL z<|ο z<|Ρ z<|m'<|g'<|a' (Ó hr z z)
     refine Ι z<|θ z<|sk z z z<|ο z<|θ z<|fL z<|ο z<|θ z<|fL z<|ο z<|θ z<|fL z<|ο z<|Ρ z<|m'<|g'<|a' (Ó hr z z)
    refine Ι z<|θ z<|sk z z z<|ο z<|θ z<|sk z z z<|ο z<|θ z<|fL z<|ο z<|θ z<|fL z<|ο z<|θ z<|fL z<|ο z<|Ρ z<|m'<|g'<|a' (Ó hr z z)
   refine Ι z<|θ z<|sk z z z<|ο z<|θ z<|sk z z z<|ο z<|θ z<|sk z z z<|ο z<|θ z<|fL z<|ο z<|θ z<|fL z<|ο z<|θ z<|fL z<|ο z<|Ρ z<|m'<|g'<|a' (Ó hr z z)
  refine θ z<|sk z z z<|ο z<|θ z<|sk z z z<|ο z<|θ z<|sk z z z<|ο z<|θ z<|sk z z z<|ο z<|θ z<|fL z<|ο z<|θ z<|fL z<|ο z<|θ z<|fL z<|ο z<|Ρ z<|m'<|g'<|a' (Ó hr z z)
 refine q'<|E'<|b'<|sr<|Ρ z<|m' (Ó hr z z)
instance iK'{p d r}:SpcM ((Ko p d)) r (∀{J M L O n m i o h k l g j f},Cr 166 #[.agg ([i' p.kind,δ J p.p M,δ L p.o O]).toArray,.agg ((jR d n m i o h k l g j f)).toArray] (λG=>sl c' G J M p.p/\sv G L O p.o/\sl c' G n m d.p/\sv G i o d.o/\sq G h k d.l/\sl (Rp.int .i64) G l g d.s/\sl (Rp.arr iB 8) G j f d.b) (λG v=>v=.tuple #[i' r.1,i' r.2])):=.mk λhr {J M L O n m i o h k l g j f}=>by
 refine J' (args:=[_,_]) (N:=87) func166 z z z (λU E av W=>?_);obtain⟨Y,I,Q,V,Z,X,K⟩:=W;refine sr<|jM 2 z z z λb1=>jM 3 z z z λq=>Ï z<|Ρ z<|WC.nB hr [3] [3] (λ(⟨u,e⟩:Bool×Bool)=>⟨[(6,.bool u),(7,.bool e)],yq d u e,tr,[]⟩) ?_
 rintro A ⟨u,e⟩ hr P _;refine o'<|Y'<|WC.nB hr [3,6,7] [3] (λ(H:Bool)=>⟨[(19,.bool H)],Jr d u e H,tr,[]⟩) ?_
 intro t H hr T _;refine kc hr z (λa hr=>?_) (λa hr=>?_)
 .exact Η
 refine WC.nB hr [3,7] [3] (λ(D:Bool)=>⟨[(30,.bool D)],Eb d e D,tr,[]⟩) ?_;intro y D hr R _;refine kc hr z (λc hr=>?_) (λc hr=>?_)
 .exact Η
 refine WC.nB hr [3,7] [3] (λ(F:Bool)=>⟨[(42,.bool F)],Jq d e F,tr,[]⟩) ?_;intro s F hr S _;refine kc hr z (λB hr=>?_) (λB hr=>?_)
 .exact Η
 refine WC.nC hr [3,7] [3] (λ(C:Bool)=>⟨[(53,.bool C)],Ea d e C,tr,[]⟩) ?_;refine w'<|dQ hr z (nz (k' z) (đ Value.bool (om _))) z (λx hr=>?_) (λx hr=>?_)
 .exact Η
 exact θ z<|nJ z<|É (M' z z) z<|É (M' z z) z<|É (M' z z) z<|sk z z z<|Η
instance jc'{p n r}:SpcM ((FD p n)) r (∀{i l g k},Cr 239 #[δ i p l,δ g n k] (λG=>sv G i l p/\sv G g k n) (λG v=>v=.bool r)):=.mk λhr {i l g k}=>by refine Ξ ?_;intro x h _ _ _ _ hr _;refine WC.mA hr [0,1] [] [] [] (λ(o:Int)=>⟨o,[(5,i' o)],tr,[]⟩) (λ(_:Unit)=>⟨(.inr ()),[],tr,[]⟩) 0
instance iy'{t n i r}:SpcM ((J2 t n i)) r (∀{q s p o I H C K J A O L B y D M F P},Cr 167 #[.agg ((Ä t q s p o)).toArray,.agg ([i' n.kind,δ I n.p H,δ C n.o K]).toArray,.agg ((jR i J A O L B y D M F P)).toArray] (λG=>sq G q s t.eqs/\sq G p o t.ε/\sl c' G I H n.p/\sv G C K n.o/\sl c' G J A i.p/\sv G O L i.o/\sq G B y i.l/\sl (Rp.int .i64) G D M i.s/\sl (Rp.arr iB 8) G F P i.b) (λG v=>v=.bool r)):=.mk λhr {q s p o I H C K J A O L B y D M F P}=>by
 refine ê ?_;intro _ _ _ _ _ _ _ _ _ _ _ _ _ _ _ _ _ _ _ _ _ _ _ _ hr _;refine I' hr z (λS hr=>?_) (λS hr=>?_)
 .exact Η
 refine sr<|Δ (eA z z)<|Ρ z<|I' hr z (λaw hr=>?_) (λaw hr=>?_)
 .refine o'<|fC [ff,ff,ff,ff,ff,ff,ff,ff,ff,ff,ff,ff,ff,ff,ff,ff,ff,ff] eL İ λhb=>cn (λ_ c=>zf z)<|cn (λ_ c=>n' 5 eK z z z)<|xJ hr z (λ_ c=>eA z z) (λE hr=>?_) (λE hr=>?_)
  .refine Ξ ?_;intro _;refine É (M' z z) z ?_;exact Η
  refine Ξ ?_;intro _ _ hr;refine oE hr λV T hr=>pA (post:=ep V) (λ_=>(C' z z)) (λ_ _=>x' DP z) (Gy.h T) z (λG' c=>trivial) (λv a d c h=>?_) ?_
  .obtain⟨j,l,k,m,rfl,g,e⟩:=h;exact⟨_,_,_,_,z,g.mono c,e.mono c⟩
  refine oE hr λZ U hr=>ma (f:=133) (φ:=fO c' Z) (λ_=>(C' z z)) (λv a d c h=>?_) (λu G' c hu=>?_) ?_
  .obtain⟨ae,al,rfl,Q⟩:=h;exact⟨_,_,z,Q.mono c⟩
  .obtain⟨⟨j,l,k,m,X,g,e⟩,_⟩:=(show(ep V) G'.m (u 46)/\True from hu);exact⟨_,_,_,λ_=>x' HW z,gC'.h U,(by simp only[X]<;>rfl),⟨g,e⟩⟩
  exact Η
 refine sr<|Δ (eA z z)<|Ρ z<|I' hr z (λN hr=>?_) (λN hr=>?_)
 .exact Η
 refine sr<|Δ (eA z z)<|Ρ z<|I' hr z (λau hr=>?_) (λau hr=>?_)
 .exact Η
 refine sr<|Δ (eA z z)<|Ρ z<|I' hr z (λR hr=>?_) (λR hr=>?_)
 .exact Η
 refine sr<|Δ (eA z z)<|Ρ z<|I' hr z (λx hr=>?_) (λx hr=>?_)
 .exact Η
 refine sr<|Δ (eA z z)<|Ρ z<|I' hr z (λW hr=>?_) (λW hr=>?_)
 .exact Η
 refine sr<|Δ (eA z z)<|Ρ z<|I' hr z (λaz hr=>?_) (λaz hr=>?_)
 .refine sr<|Δ (zf z)<|Δ (n' 5 eK z z z)<|dQ hr z (eA z z) z (λY hr=>?_) (λY hr=>?_)
  .refine Ξ ?_;intro hr;refine É (M' z z) z<|É (M' z z) z<|É (M' z z) z<|sf z z z<|Ι z<|Ρ z<|m'<|g'<|a' (Ó hr z z)
  refine Ξ ?_;intro _ hr;refine É (M' z z) z<|É (M' z z) z<|É (M' z z) z<|sf z z z<|Ι z<|Ρ z<|m'<|g'<|a' (Ó hr z z)
 exact Η
instance iz'{c J r}:SpcM ((J5 c J)) r (∀{h g f e l n o m U X L M S Q W Y P R},Cr 93 #[.agg ((fq c h g f e l n o m)).toArray,.agg ((jR J U X L M S Q W Y P R)).toArray] (λG=>sq G h g c.k.eqs/\sq G f e c.k.ε/\sl c' G l n c.q.p/\sv G o m c.q.o/\sl c' G U X J.p/\sv G L M J.o/\sq G S Q J.l/\sl (Rp.int .i64) G W Y J.s/\sl (Rp.arr iB 8) G P R J.b) (DG r)):=.mk λhr {h g f e l n o m U X L M S Q W Y P R}=>by
 refine J' (args:=[_,_]) (N:=46) func93 z z z (λw0 G0 an a=>?_);obtain⟨E,B,H,F,O,Z,T,K,V⟩:=a;refine sr<|jM 2 z z z λb1=>jM 3 z z z λb2=>W' 4 z yo z λb3=>nr<|Δ (Gr z)<|Δ (R' ([i' c.q.kind,δ l c.q.p n,δ o c.q.o m]).toArray 2 rV z z z (mM ([i' c.id,i' c.k.n,δ h c.k.eqs g,δ f c.k.ε e]) ([i' c.q.kind,δ l c.q.p n,δ o c.q.o m]) ([i' c.χ,i' c.low,i' c.high,.bool c.done])))<|Δ (y' 3 nS z z z)<|oE hr λA ae hr=>H' z z (x' H8 z) (iK'.h ae) z (⟨H,F,O,Z,T,K,V⟩)<|θ z<|kM z<|kM z<|Ï z<|Ρ z<|WC.nB hr [2,4,5,6] [4] (λ(⟨d,q,p,k,j,v,u,t,x⟩:Ze×ŀ Addr×Nat×ŀ Addr×Nat×ŀ Addr×Nat×ŀ Addr×Nat)=>⟨[],Ef A d,λI=>sq I q p d.k.eqs/\sq I k j d.k.ε/\sl c' I v u d.q.p/\sv I t x d.q.o,[(2,ú b1 (fq d q p k j v u t x) 56)]⟩) ?_
 rintro I ⟨d,q,p,k,j,v,u,t,x⟩ hr al ⟨y,s,D,C⟩;refine sr<|Δ (BF z)<|Δ (n' 2 eK z z z)<|θ z<|Δ (Wa z z)<|Δ (BF z)<|rb 2 ([i' d.id,i' d.k.n,δ q d.k.eqs p,δ k d.k.ε j,i' d.q.kind,δ v d.q.p u,δ t d.q.o x,i' d.χ,i' (if d.low<A.1 then A.1 else d.low),i' d.high,.bool d.done]).toArray z jD z z z (show 8<11 by decide) z z<|nx<|o'<|sr<|θ z<|dQ hr z (vF z z) z (λai hr=>?_) (λai hr=>?_)
 .exact Η
 refine θ z<|nJ z<|É (M' z z) z<|É (M' z z) z<|É (M' z z) z<|É (M' z z) z<|sk z z z<|ο z<|nx<|tF z<|q'<|b'<|sr<|Δ (y' 2 r7 z z z)<|gl 4 rU z<|nx<|m' ?_
 obtain rfl:_=r:=hr;exact j' z (kB (i:=4) r7 z z z) ⟨_,_,_,_,_,_,_,_,z,y,s,D,C⟩
instance iU'{Q ak aa L r}:SpcM ((KQ Q ak aa L)) r (∀{M P V W},Cr 44 #[.agg ((fB Q M P)).toArray,i' ak,δ V aa W,i' L] (λG=>sl fQ G M P Q.t/\sl rW G V W aa) (jh r)):=.mk λhr {M P V W}=>by
 refine ê ?_;intro w0 G0 ax bQ _ _ b1 b2 o bS Y h g d f s q u t aD aA _ _ b3 hr _;refine o'<|sr<|θ z<|Δ (kG z)<|nx<|kc hr z (λcG hr=>?_) (λcG hr=>?_)
 .exact Η
 refine q'<|b'<|WC.nB hr [1,2,3,4,8,10] [4,10] (λ(⟨a,aR,aS⟩:Zd×ŀ Addr×Nat)=>⟨[],Qi Q ak aa L o a,λaY=>sl fQ aY aR aS a.t,[(8,ú b2 (fB a aR aS) 26)]⟩) ?_
 rintro aY ⟨a,aR,aS⟩ hr F bK;refine o'<|sr<|Ρ z<|WC.mB (hH:=by exact bK) hr [1,2,3,4,8,10] [4,10] [1,2,3,4,8,10] [4,10] (λ(⟨aN,a2,aI,aF⟩:Int×Zd×ŀ Addr×Nat)=>⟨(aN,a2),[(12,i' aN)],λa1=>sl fQ a1 aI aF a2.t,[(8,ú b2 (fB a2 aI aF) 26)]⟩) (λ(⟨aH,ah,af⟩:Zd×ŀ Addr×Nat)=>⟨(.inr aH),[],λaW=>sl fQ aW ah af aH.t,[(8,ú b2 (fB aH ah af) 26)]⟩) ⟨0,a,aR,aS⟩ ?_
 rintro aW ⟨aH,ah,af⟩ hr ad cH;refine Ξ ?_;intro b4 hr;refine WC.mC (hH:=by exact⟨(X' _ _),kH⟩) hr [1,2,3,4,8,10,13] [4,8,10] [8,13] [8] (λ(⟨X,R,ac,ab,Z,x⟩:Int×(Ŀ Ze)×ŀ Addr×Nat×ŀ Ow×Int)=>⟨(X,R,x),[(14,i' X)],λaL=>sl fQ aL ac ab R/\Tok 11 56 (δ ac R ab) R.length Z,[(13,ú b4 ([δ ac R ab,i' x]) 26),(310130,Z)]⟩) (λ(⟨i,aP,aO,aT,aJ⟩:(Ŀ Ze)×ŀ Addr×Nat×ŀ Ow×Int)=>⟨(i,aJ),[],λbl=>sl fQ bl aP aO i/\Tok 11 56 (δ aP i aO) i.length aT,[(13,ú b4 ([δ aP i aO,i' aJ]) 26),(310130,aT)]⟩) ⟨0,[],none,0,none,Q.next⟩ ?_;rintro _ aL ⟨X,R,ac,ab,Z,x⟩ U ⟨bm,a6⟩ hr;refine Ξ ?_;intro _ x1 _ _ bq _ bv _ bg _ bd _ bH _ bI _ bN _ bL _ _ _ _ bt _ bi bF b5 hr bM;refine WC.mD (hH:=by exact⟨bt,bi,bF,bM⟩) hr [1,2,3,4,8,10,13,14,15] [4,8,10,13,310130] [1,2,3,4,8,10,13,14,15] [4,8,10,13,310130] (λ(⟨aQ,O,I,H,E,C,am,ap,an,aq⟩:Int×Ze×ŀ Addr×Nat×ŀ Addr×Nat×ŀ Addr×Nat×ŀ Addr×Nat)=>⟨(aQ,O),[(16,i' aQ)],λe=>sq e I H O.k.eqs/\sq e E C O.k.ε/\sl c' e am ap O.q.p/\sv e an aq O.q.o,[(15,ú b5 (fq O I H E C am ap an aq) 56)]⟩) (λ(⟨p,S,T,J,K,au,al,ar,ao⟩:Ze×ŀ Addr×Nat×ŀ Addr×Nat×ŀ Addr×Nat×ŀ Addr×Nat)=>⟨p,[],λaz=>sq az S T p.k.eqs/\sq az J K p.k.ε/\sl c' az au al p.q.p/\sv az ar ao p.q.o,[(15,ú b5 (fq p S T J K au al ar ao) 56)]⟩) ⟨0,x1,bq,bv,bg,bd,bH,bI,bN,bL⟩ ?_ ?_
 .rintro _ e ⟨aQ,O,I,H,E,C,am,ap,an,aq⟩ ai ⟨av,aj,aX,aU⟩ hr;refine Ξ ?_;intro _ hr;obtain⟨c8,ca,hr⟩:=hr;have N1:=mx (mx (mx F ad) U) ai;refine H' (C' z z) z (x' IM z) (Jw _ _ _ _ _ _ _ _ _ _ _ ca) z (⟨av,aj,(aD.mono N1),(aA.mono N1)⟩)<|Ι z<|nx<|kc hr z (λct hr=>?_) (λct hr=>?_)
  .refine q'<|b'<|o'<|Y'<|fC [ff,ff,ff,ff,ff] eL İ λhb=>cn (λ_ ag=>y' 15 r7 z z z)<|fp z<|fp z<|oE hr λx2 bP hr=>cn (λ_ ag=>jV MK s9 ((ax.mono (mx (mx (mx (mx Y F) ad) U) ai)).mono ag) z z bP) ?_
   obtain⟨cQ,cN,cP,c0,cK,cJ,c3,cZ,cT,c2,cm,b6,b7,cg,bY,b8⟩:=Wf (T' (iD ax bP) (mx (mx (mx (mx Y F) ad) U) ai));refine cn (λ_ ag=>nw _ nS z z (λj v hv=>ag _ _ _ (cm j v hv)))<|oH hb<|oE hr λcv ci hr=>gJ z z (x' Yi z) (iz'.h ci) z (⟨av,aj,aX,aU,b6,b7,cg,bY,b8⟩) (λcL cD bG bu=>?_)
   obtain⟨bh,bj,a7,a5,bB,bC,bz,bE,rfl,bf,a3,bD,bx⟩:=bu;refine gl 15 rU z<|t'<|Θ<|E'<|b'<|w'<|θ z<|iC z<|Ï z<|t'<|N' ⟨cD,i64.wrap (aQ+1),cv,bh,bj,a7,a5,bB,bC,bz,bE⟩ hr ⟨(mx ai bG),bf,a3,bD,bx⟩ (f10 z z z z z z z z z z) (w6 z z z z z z)
  exact Η
 rintro az ⟨p,S,T,J,K,au,al,ar,ao⟩ hr bn ⟨aV,aM,a8,a4⟩;refine b'<|WC.nD hr [1,2,3,4,8,10,13,14,15] [4,8,10,13,310130] (λ(⟨c,m,n,l,k,B,A,D,y⟩:Ze×ŀ Addr×Nat×ŀ Addr×Nat×ŀ Addr×Nat×ŀ Addr×Nat)=>⟨[],Ev X R x c,λN=>sq N m n c.k.eqs/\sq N l k c.k.ε/\sl c' N B A c.q.p/\sv N D y c.q.o,[(15,ú b5 (fq c m n l k B A D y) 56)]⟩) ?_ ?_
 .refine sr<|Δ (Gw z)<|Δ (n' 15 eK z z z)<|θ z<|Δ (eA z z)<|nx<|I' hr z (λcB hr=>?_) (λcB hr=>?_)
  .exact Η
  exact Η
 rintro N ⟨c,m,n,l,k,B,A,D,y⟩ hr bp ⟨be,bc,bA,bw⟩;refine Ξ ?_;intro _ _ bo cx hr;refine oA hr λb0 hr=>jH (r:=fQ) 310130 z z uj qK z ĳ z z (bm.mono (mx (mx bn bp) bo)) z (by rw[bQ];rfl) a6 cx b0 λp2 bT ck cy bO cA cb=>Δ (Mw z)<|rb 13 ([.slice p2 (R++[c]).length bT,i' x]).toArray z Dj z z z (show 0<2 by decide) z z<|t'<|E'<|b'<|w'<|θ z<|iC z<|Ï z<|t'<|N' ⟨cy,i64.wrap (X+1),(R++[c]),p2,bT,ck,x⟩ hr ⟨(mx (mx (mx (mx U bn) bp) bo) bO),cA,cb⟩ (Å z) (w5 z z z z z)
instance hQ'{b1 a r}:SpcM ((Lx b1 a)) r (∀{ap ai U V H J T X ao ak},Cr 13 #[.agg ((fB b1 ap ai)).toArray,.agg ((tm a U V H J T X ao ak)).toArray] (λG=>sl fQ G ap ai b1.t/\sl vK G U V a.c.l/\sl (Rp.int .u8) G H J a.c.iR/\sl (gb .i8 5) G T X a.p.t/\sl BH G ao ak a.l) (û r)):=.mk λhr {ap ai U V H J T X ao ak}=>by
 refine ê ?_;intro w0 G0 _ _ _ K _ L _ s Q _ _ _ hr S;refine o' ?_;refine ê ?_;intro hr;refine I' hr z (λaU hr=>?_) (λaU hr=>?_)
 .refine sr<|Δ (y' 3 xC z z z)<|oE hr λa7 aE hr=>gJ z z (x' ON z) (Wg.h aE) z (⟨L,s,Q,S⟩) (λa4 a6 o Z=>?_)
  obtain⟨aM,aN,aA,aJ,rfl,I,D⟩:=Z;refine W' 7 z rA z λb5=>gl 7 tG z<|nx<|o'<|fC [ff,ff,ff,ff,ff,ff,ff] eL İ λN=>cn (λ_ d=>y' 2 lf z z z) ?_
  refine ê ?_;intro p hr _;refine oE hr λE aK hr=>ma (f:=43) (φ:=qv E) (λ_=>z) (λv G1 G2 d h=>?_) (λu B d O=>?_) ?_
  .obtain⟨m,l,rfl,C⟩:=h;exact⟨_,_,z,C.mono d⟩
  .obtain⟨⟨e,j,k,g,av,A,y⟩,_⟩:=(show(λG v=>∃e j k g,v=.agg ([i' p.kind,δ e p.p j,δ k p.o g]).toArray/\sl c' G e j p.p/\sv G k g p.o) B.m (u 21)/\True from O);exact⟨_,_,_,λ_=>x' OP z,Qw 5 _ _ _ _ _ _ _ _ _ _ _ _ _ _ aK,(by simp only[av]<;>rfl),⟨((K.mono o).mono d),(I.mono d),(D.mono d),A,y⟩⟩
  refine lg (λ_=>z) yn<|GI (λa8 aY a3 X1 aH an ad ae=>?_)
  obtain⟨b6,rfl,aC⟩:=an;obtain⟨m,l,rfl,C⟩:=ad;obtain⟨e,j,k,g,rfl,A,y⟩:=ae;refine pP aC (mi (show WL _ _ _ _ _ _ (St w0 G0 X1.m _)from ?_));refine gl 8 s6 z<|t'<|Θ<|b'<|o' ?_
  refine ê ?_;intro hr;refine I' hr z (λaP hr=>?_) (λaP hr=>?_)
  .refine o'<|BY [(8,ú b6 (oe E m l) 100)] (lc z ln) [ff,tt,tt] eL İ λN=>cn (λ_ d=>y' 2 lf z z z)<|ny z (Y0.UN z)<|ny z (n' 8 C5 z z z)<|xO N<|nV (λw q=>q.weaken (lc z ln))<|gl 4 rX z<|nT<|fz.y0 (λw q=>q.weaken (lc z ln)) z (rh z) z<|fz.y0 (λw q=>q.weaken (lc z ln)) z (rh z) z<|vR (λw q=>q.weaken (lc z ln))<|Θ<|b'<|m'<|a'<|a' ?_
   obtain rfl:_=r:=hr;exact MQ z (kB (i:=4) lf z z z) z z ⟨_,_,z,(K.mono (mx o aH))⟩
  refine q'<|b'<|o'<|BY [(8,ú b6 (oe E m l) 100)] (lc z ln) [ff,ff,tt,tt] eL İ λN=>?_
  refine ê ?_;intro hr;refine ny z (n' 8 eK z z z)<|xO N<|nV (λw q=>q.weaken (lc z ln))<|gl 4 rX z<|nT<|fz.y0 (λw q=>q.weaken (lc z ln)) z (rh z) z<|fz.y0 (λw q=>q.weaken (lc z ln)) z (rh z) z<|vR (λw q=>q.weaken (lc z ln))<|Θ<|b'<|m'<|a' ?_
  obtain rfl:_=r:=hr;exact MQ z (kB (i:=4) lf z z z) z z ⟨_,_,z,C⟩
 refine q'<|b'<|o'<|fC [ff,ff,ff,ff,ff,ff,ff,ff,ff,ff,tt,ff] eL İ λN=>?_
 refine ê ?_;intro ay hr _;refine oE hr λF aI hr=>ma (f:=44) (φ:=jh F) (λ_=>z) (λv G1 G2 d h=>?_) (λu B d O=>?_) ?_
 .obtain⟨x,t,rfl,n⟩:=h;exact⟨_,_,z,n.mono d⟩
 .obtain⟨⟨am,al,au,M⟩,_⟩:=(show(fO rW ay) B.m (u 38)/\True from O);exact⟨_,_,_,λ_=>x' XW z,iU'.h aI,(by simp only[au]<;>rfl),⟨(K.mono d),M⟩⟩
 refine jU (φ:=jh F) (λ_=>z) (λv G1 G2 d h=>?_) (λu B d O=>?_) ?_
 .obtain⟨p1,W,rfl,R⟩:=h;exact⟨_,_,z,R.mono d⟩
 .obtain⟨⟨x,t,aw,n⟩,_,_⟩:=(show(jh F) B.m (u 41)/\True/\True from O);simp only[ς,aw];exact⟨_,k' z,x,t,z,n⟩
 refine jU (φ:=kj F.1) (λ_=>z) (λv G1 G2 d h=>?_) (λu B d O=>?_) ?_
 .obtain⟨p2,aR,rfl,aj⟩:=h;exact⟨_,_,z,aj.mono d⟩
 .obtain⟨⟨p1,W,P,R⟩,_,_,_⟩:=(show(jh F) B.m (u 33)/\True/\True/\True from O);simp only[ς,P];exact⟨_,O' z z,p1,W,z,R⟩
 refine mf (c:=i' F.2) (λ_=>z) (λu B d O=>?_) ?_
 .obtain⟨_,⟨p1,W,P,R⟩,_,_,_⟩:=(show True/\(jh F) B.m (u 33)/\True/\True/\True from O);simp only[ς,P];exact O' z z
 refine lg (λ_=>z) z26<|xQ (λa9 a1 aW aX a2 X2 aG aq af Y ab aa=>?_)
 obtain⟨b7,rfl,aB⟩:=aq;obtain⟨p2,aR,rfl,aj⟩:=af;obtain⟨p1,W,rfl,R⟩:=Y;obtain⟨x,t,rfl,n⟩:=ab;obtain⟨am,al,rfl,M⟩:=aa;refine pP aB (mi (show WL _ _ _ _ _ _ (St w0 G0 X2.m _)from ?_));exact Η
instance pV{c r}:SpcM ((KR c)) r (∀{h i f d s t u q},Cr 61 #[.agg ((fq c h i f d s t u q)).toArray] (λG=>sq G h i c.k.eqs/\sq G f d c.k.ε/\sl c' G s t c.q.p/\sv G u q c.q.o) (fO tD r)):=.mk λhr {h i f d s t u q}=>by
 refine Ξ ?_;intro w0 G0 _ Y _ S _ L _ _ b1 p1 _ E X aF W I au ak M hr _;refine WC.mC (hH:=by exact⟨(X.mono I),kH⟩) hr [1,4] [1] [] [] (λ(⟨o,y,x,A,a⟩:(Ŀ Zc)×ŀ Addr×Nat×ŀ Ow×Int)=>⟨(o,a),[(3,δ y o x),(5,i' a)],λK=>sl tD K y x o/\Tok 3 54 (δ y o x) o.length A,[(1003,A)]⟩) (λ(⟨B,D,C,F⟩:(Ŀ Zc)×ŀ Addr×Nat×ŀ Ow)=>⟨B,[(3,δ D B C)],λR=>sl tD R D C B/\Tok 3 54 (δ D B C) B.length F,[(1003,F)]⟩) ⟨[],p1,0,none,0⟩ ?_;rintro _ K ⟨o,y,x,A,a⟩ k ⟨O,J⟩ hr;refine o' ?_;refine ê ?_;intro hr;refine I' hr z (λaJ hr=>?_) (λaJ hr=>?_)
 .refine q'<|b'<|o'<|Y'<|fC [tt,ff,ff,ff,ff,ff,ff] eL İ λhb=>um z (k' z)<|cn (λ_ H=>Bw z)<|cn (λ_ H=>R' ((Ä c.k h i f d)).toArray 1 mX z z z (mM ([i' c.id]) ((Ä c.k h i f d)) ([i' c.q.kind,δ s c.q.p t,δ u c.q.o q,i' c.χ,i' c.low,i' c.high,.bool c.done])))<|fp z<|fp z<|oE hr λx1 N hr=>cn (λ_ H=>jV MI oa ((M.mono k).mono H) z z N) ?_
  obtain⟨aO,aR,aP,aT,ay,ax,ao⟩:=dq' (T' (iD M N) k);refine cn (λ_ H=>nw _ rV z z (λj v hv=>H _ _ _ (ay j v hv)))<|oH hb<|oE hr λg ar hr=>gJ z z (x' XU z) (fL'.h ar) z (⟨(S.mono (mx (mx E I) k)),(L.mono (mx (mx E I) k)),ax,ao⟩) (λaN aW Q U=>?_)
  obtain⟨ap,al,ag,af,p,m,l,n,rfl,av,ah,V,Z⟩:=U;refine Δ (Y0.xR underlying94 z rV z z)<|mW (e:=54) (r:=tD) (vs:=#[(0,.agg ([i' g.q.kind,δ p g.q.p m,δ l g.q.o n]).toArray)]) (cs:=[i' g.q.kind,δ p g.q.p m,δ l g.q.o n]++([])) ([g.q]:Ŀ Zc) z z z z z ĳ (λ_=>İ) ⟨[i' g.q.kind,δ p g.q.p m,δ l g.q.o n],[],z,⟨[i' g.q.kind],[δ p g.q.p m,δ l g.q.o n],z,z,⟨[δ p g.q.p m],[δ l g.q.o n],z,⟨_,z,V⟩,⟨_,z,Z⟩⟩⟩,z⟩ (key:=999) z (by rw[Y];rfl) (λp2 aV P aE=>?_)
  refine oA hr λam hr=>jH (r:=tD) 1003 z z MI MY z ĳ z z (O.mono (mx Q P)) z (by rw[Y];rfl) J aE am λp3 T aj aH ab aD an=>Ï z<|t'<|Θ<|E'<|b'<|w'<|θ z<|iC z<|Ï z<|t'<|N' ⟨aH,(o++[g.q]),p3,T,aj,i64.wrap (a+1)⟩ hr ⟨(mx (mx (mx k Q) P) ab),aD,an⟩ (Å z) (w2 z z)
 exact Η
instance jd'{B i r}:SpcM ((Ly B i)) r (∀{u t g h d c k m n l},Cr 53 #[.agg ((fB B u t)).toArray,.agg ((fq i g h d c k m n l)).toArray] (λG=>sl fQ G u t B.t/\sq G g h i.k.eqs/\sq G d c i.k.ε/\sl c' G k m i.q.p/\sv G n l i.q.o) (λG v=>v=.bool r)):=.mk λhr {u t g h d c k m n l}=>by refine ê ?_;intro U E _ _ _ _ _ _ _ _ _ M J hr _;refine WC.nB hr [2,3] [2,3] (λ(_:Unit)=>⟨[],Q4 B i,tr,[]⟩) ?_;intro H _ hr f _;refine Ξ ?_;intro a D _ T R _ hr _;refine WC.mA hr [2,3,5] [2,3] [] [] (λ(I:Int)=>⟨I,[(6,i' I)],tr,[]⟩) (λ(_:Unit)=>⟨(.inr ()),[],tr,[]⟩) 0
instance iV'{O r}:SpcM ((KS O)) r (∀{B A},Cr 18 #[.agg ((fB O B A)).toArray] (λG=>sl fQ G B A O.t) (fO (Rp.int .i64) r)):=.mk λhr {B A}=>by
 refine Ξ ?_;intro w0 G0 v Q p1 ab _ e hr _;refine WC.mC (hH:=by exact⟨e,kH⟩) hr [1] [1] [] [] (λ(⟨n,s,p,o,R⟩:(Ŀ Int)×ŀ Addr×Nat×ŀ Ow×Int)=>⟨(n,R),[(3,δ s n p),(4,i' R)],λE=>sl (Rp.int .i64) E s p n/\Tok 1 3 (δ s n p) n.length o,[(1003,o)]⟩) (λ(⟨C,H,F,I⟩:(Ŀ Int)×ŀ Addr×Nat×ŀ Ow)=>⟨C,[(3,δ H C F)],λY=>sl (Rp.int .i64) Y H F C/\Tok 1 3 (δ H C F) C.length I,[(1003,I)]⟩) ⟨[],p1,0,none,0⟩ ?_;rintro _ E ⟨n,s,p,o,R⟩ f ⟨W,M⟩ hr;refine Ξ ?_;intro _ hr;refine WC.mC (hH:=by exact⟨W,M⟩) hr [1,4] [1] [1,4] [1] (λ(⟨g,k,l,i,S⟩:(Ŀ Int)×ŀ Addr×Nat×ŀ Ow×Int)=>⟨(g,S),[(3,δ k g l),(5,i' S)],λD=>sl (Rp.int .i64) D k l g/\Tok 1 3 (δ k g l) g.length i,[(1003,i)]⟩) (λ(⟨t,x,y,u⟩:(Ŀ Int)×ŀ Addr×Nat×ŀ Ow)=>⟨t,[(3,δ x t y)],λP=>sl (Rp.int .i64) P x y t/\Tok 1 3 (δ x t y) t.length u,[(1003,u)]⟩) ⟨n,s,p,o,0⟩ ?_;rintro _ D ⟨g,k,l,i,S⟩ d ⟨L,J⟩ hr;refine o' ?_;refine ê ?_;intro hr;refine I' hr z (λc hr=>?_) (λc hr=>?_)
 .refine q'<|b'<|o'<|Y'<|WC.nB hr [1,3,4,5] [1,1003] (λ(K:Bool)=>⟨[(34,.bool K)],JE O g S K,tr,[]⟩) ?_
  intro U K hr q _;refine Ξ ?_;intro _ x1 _ _ _ _ _ _ _ _ _ _ _ _ _ _ _ _ _ _ _ _ _ _ _ _ _ _ _ V m hr _;refine oA hr λX hr=>jH (r:=(Rp.int .i64)) 1003 z z ra GC z ĳ z z (L.mono (mx q V)) z (by rw[v];rfl) J m X λp3 a T h N j Z=>Ï z<|t'<|E'<|b'<|w'<|θ z<|iC z<|Ï z<|t'<|N' ⟨h,(g++[x1.id]),p3,a,T,i64.wrap (S+1)⟩ hr ⟨(mx (mx (mx d q) V) N),j,Z⟩ (Å z) (w2 z z)
 exact Η
instance iA'{p n r}:SpcM ((Kp p n)) r (∀{i l g k},Cr 16 #[δ i p l,δ g n k] (λG=>sl (Rp.int .i64) G i l p/\sl (Rp.int .i64) G g k n) (λG v=>v=.bool r)):=.mk λhr {i l g k}=>by
 refine J' (args:=[_,_]) (N:=26) func16 z z z (λx h E t=>?_);obtain⟨f,m⟩:=t;refine sr<|Ρ z<|o'<|sr<|θ z<|Δ (P' ra f z)<|θ z<|Δ (P' ra m z)<|Δ (nR z z)<|nx<|I' hr z (λA hr=>?_) (λA hr=>?_)
 .refine sr<|Ρ z<|m'<|a' (Ó hr z z)
 refine q'<|b'<|o'<|sr<|Ρ z<|WC.mD hr [0,1] [] [] [] (λ(o:Int)=>⟨o,[(5,i' o)],tr,[]⟩) (λ(_:Unit)=>⟨(.inr ()),[],tr,[]⟩) 0 ?_ ?_
 .intro _ e o c _ hr;refine o'<|sr<|θ z<|θ z<|Δ (P' ra (f.mono c) z)<|kl z<|nx<|I' hr z (λu hr=>?_) (λu hr=>?_)
  .refine q'<|b'<|o'<|Y'<|o'<|fC [ff,ff,ff,ff,ff,ff,ff,ff] eL İ λC=>fp z<|fp z<|oE hr λH s hr=>cn (λ_ d=>jV ra jD ((f.mono c).mono d) z z s)<|cn (λ_ d=>mH eK z (vy (T' (T' (iD f s) c) d)))<|fp z<|fp z<|oE hr λF q hr=>cn (λ_ d=>jV ra jD ((m.mono c).mono d) z z q)<|cn (λ_ d=>mH eK z (vy (T' (T' (iD m q) c) d)))<|oH C<|Δ (nR z z)<|t'<|Θ<|b'<|I' hr z (λy hr=>?_) (λy hr=>?_)
   .refine sr<|Ρ z<|m'<|g'<|a'<|a'<|g'<|mN<|a' (Ó hr z z)
   refine q'<|E'<|b'<|w'<|θ z<|iC z<|Ï z<|t'<|N' ⟨e,i64.wrap (o+1)⟩ hr ⟨c,trivial⟩ (Å z) (wk ln)
  refine na<|p'<|p'<|K'<|nP ⟨e,()⟩ ⟨hr,c,trivial⟩ fn (wk ln)
 intro j _ hr B _;refine b'<|sr<|Ρ z<|m' (Ó hr z z)
theorem O6(K:(Ŀ Zt))(V:Int)(Q:ŀ Addr)(T:Nat)(r:Bool)(hr:(I0 K V).Α r):Cr 3 #[δ Q K T,i' V] (λG=>sl V3 G Q T K) (λG v=>v=.bool r):=by
 refine Ξ ?_;intro w0 G0 _ _ aU _ _ b8 _ _ _ a7 a1 bm ca aT t a5 bl bd b1 b2 hr _;refine WC.mD hr [0,1,5,6,7] [] [1,5,6,7] [] (λ(⟨M,P,o,x,O,p,q⟩:Int×Zd×ŀ Addr×Nat×Zd×ŀ Addr×Nat)=>⟨(M,P,O),[(8,i' M)],λI=>sl fQ I o x P.t/\sl fQ I p q O.t,[(6,ú b1 (fB P o x) 26),(7,ú b2 (fB O p q) 26)]⟩) (λ(⟨S,aj,ak,X,ag,ae⟩:Zd×ŀ Addr×Nat×Zd×ŀ Addr×Nat)=>⟨(.inr (S,X)),[],λao=>sl fQ ao aj ak S.t/\sl fQ ao ag ae X.t,[(6,ú b1 (fB S aj ak) 26),(7,ú b2 (fB X ag ae) 26)]⟩) ⟨0,b8,a7,a1,ca,a5,bl⟩ ?_ ?_
 .rintro _ I ⟨M,P,o,x,O,p,q⟩ g ⟨af,ac⟩ hr;refine WC.nB hr [0,1,5,6,7,8] [6,7] (λ(_:Unit)=>⟨[],O5 K M P O,tr,[]⟩) ?_;intro aR _ hr l _;refine o'<|Y'<|sr<|Ï z<|Ï z<|Ï z<|Ρ z<|o'<|fC [ff,ff,ff,ff,ff,ff,ff,ff,tt,tt] eL İ λhb=>cn (λ_ e=>y' 6 lf z z z)<|fp z<|fp z ?_
  refine ê ?_;intro _ _ _ _ _ _ _ _ _ _ _ _ _ _ _ _ _ _ _ _ _ _ _ _ _ _ _ k hr _;refine jU (φ:=û k) (λ_=>z) (λv H N e h=>?_) (λu i e y=>?_) ?_
  .obtain⟨p1,F,rfl,Z⟩:=h;exact⟨_,_,z,Z.mono e⟩
  .obtain⟨⟨J,L,a2,s⟩,_⟩:=(show(û k) i.m (u 38)/\True from y);simp only[ς,a2];exact⟨_,k' z,J,L,z,s⟩
  refine jU (φ:=kj k.1) (λ_=>z) (λv H N e h=>?_) (λu i e y=>?_) ?_
  .obtain⟨p2,bu,rfl,j⟩:=h;exact⟨_,_,z,j.mono e⟩
  .obtain⟨⟨p1,F,E,Z⟩,_,_⟩:=(show(û k) i.m (u 32)/\True/\True from y);simp only[ς,E];exact⟨_,O' z z,p1,F,z,Z⟩
  refine mf (c:=i' k.2.1) (λ_=>z) (λu i e y=>?_) ?_
  .obtain⟨_,⟨p1,F,E,Z⟩,_,_⟩:=(show True/\(û k) i.m (u 32)/\True/\True from y);simp only[ς,E];exact O' z z
  refine mf (c:=i' k.2.2) (λ_=>z) (λu i e y=>?_) ?_
  .obtain⟨_,⟨p1,F,E,Z⟩,_,_⟩:=(show True/\(û k) i.m (u 32)/\True/\True from y);simp only[ς,E];exact O' z z
  refine xN (d:=39) (post:=kj k.1) (d':=32) (post':=û k) (d'':=38) (post'':=û k) (λcM cB cI cQ U aI aG aP=>?_);obtain⟨p2,bu,rfl,j⟩:=aI;obtain⟨p1,F,rfl,Z⟩:=aG;obtain⟨J,L,rfl,s⟩:=aP;refine gl 6 rX z<|Ï z<|Ï z<|t'<|Θ<|b'<|o'<|fC [ff,ff,ff,ff,ff,ff,ff,ff,tt,tt] eL İ λhb=>?_
  refine ê ?_;intro _ _ _ _ _ _ _ _ _ _ _ _ _ _ _ _ _ _ _ _ _ _ _ _ _ _ _ f hr _;refine jU (φ:=û f) (λ_=>z) (λv H N e h=>?_) (λu i e y=>?_) ?_
  .obtain⟨p3,D,rfl,a⟩:=h;exact⟨_,_,z,a.mono e⟩
  .obtain⟨⟨A,B,aS,m⟩,_⟩:=(show(û f) i.m (u 48)/\True from y);simp only[ς,aS];exact⟨_,k' z,A,B,z,m⟩
  refine jU (φ:=kj f.1) (λ_=>z) (λv H N e h=>?_) (λu i e y=>?_) ?_
  .obtain⟨p4,bt,rfl,al⟩:=h;exact⟨_,_,z,al.mono e⟩
  .obtain⟨⟨p3,D,n,a⟩,_,_⟩:=(show(û f) i.m (u 42)/\True/\True from y);simp only[ς,n];exact⟨_,O' z z,p3,D,z,a⟩
  refine mf (c:=i' f.2.1) (λ_=>z) (λu i e y=>?_) ?_
  .obtain⟨_,⟨p3,D,n,a⟩,_,_⟩:=(show True/\(û f) i.m (u 42)/\True/\True from y);simp only[ς,n];exact O' z z
  refine mf (c:=i' f.2.2) (λ_=>z) (λu i e y=>?_) ?_
  .obtain⟨_,⟨p3,D,n,a⟩,_,_⟩:=(show True/\(û f) i.m (u 42)/\True/\True from y);simp only[ς,n];exact O' z z
  refine xN (d:=49) (post:=kj f.1) (d':=42) (post':=û f) (d'':=48) (post'':=û f) (λcj cu cl cT C aq ar ap=>?_);obtain⟨p4,bt,rfl,al⟩:=aq;obtain⟨p3,D,rfl,a⟩:=ar;obtain⟨A,B,rfl,m⟩:=ap;refine gl 7 rX z<|Ï z<|Ï z<|t'<|Θ<|b'<|o'<|fC [ff,ff,ff,ff,ff,ff,ff,ff,ff,ff,ff,ff,ff,ff,ff,ff,ff,ff,ff,ff,ff,ff,ff] eL İ λhb=>fp z<|fp z<|xJ hr z (λ_ e=>nR z z) (λcb hr=>?_) (λcb hr=>?_)
  .exact Η
  refine fp z<|cy z z (λ_ e=>k' z)<|cy z z (λ_ e=>k' z)<|xJ hr (C' z z) (λ_ e=>nR z z) (λcc hr=>?_) (λcc hr=>?_)
  .exact Η
  refine cn (λ_ e=>f' z z)<|fp z<|cy z z (λ_ e=>y' 6 lf z z z)<|cy z z (λ_ e=>y' 7 lf z z z)<|oE hr λbC be hr=>rY (C' z z) (λ_=>x' OJ z) (V6.h be) z (λi e=>⟨((j.mono C).mono e),(al.mono e)⟩) ?_
  cases bC
  .exact Η
  refine cy z z (λ_ e=>kG z)<|cn (λ_ e=>f' z z)<|fp z<|cy z z (λ_ e=>y' 6 lf z z z)<|oE hr λbG bp hr=>rY (C' z z) (λ_=>x' OK z) (oO.h bp) z (λi e=>((j.mono C).mono e)) ?_
  cases bG
  .exact Η
  refine Ξ ?_;intro hr;refine oE hr λaV br hr=>pA (post:=fO (Rp.int .i64) aV) (λ_=>(C' z z)) (λ_ _=>x' OL z) (Wm.h br) z (λi e=>((j.mono C).mono e)) (λv H N e h=>?_) ?_
  .obtain⟨a3,bj,rfl,ah⟩:=h;exact⟨_,_,z,ah.mono e⟩
  refine ml (λ_=>(C' z z)) (λ_ _ e=>y' 7 lf z z z) ?_;exact Η
 rintro ao ⟨S,aj,ak,X,ag,ae⟩ hr cp ⟨bg,a4⟩;refine b'<|sr<|Δ (y' 6 lf z z z)<|θ z<|oE hr λcO bw hr=>gJ z z (x' OM z) (V0.h bw) z (bg) (λcJ cP bn aF=>?_)
 obtain⟨bh,a8,aX,aZ,bR,bz,bJ,bA,rfl,ad,W,ay,av⟩:=aF;refine θ z<|kM z<|kM z<|W' 13 z yo z λb3=>gl 13 rU z<|Ï z<|nr<|Δ (y' 7 lf z z z)<|θ z<|oE hr λcW bN hr=>gJ z z (x' XO z) (hN'.h bN) z ((a4.mono bn)) (λcE cV R aH=>?_)
 obtain⟨bi,ba,aY,a0,bD,bF,bL,bU,rfl,ai,Y,ax,az⟩:=aH;refine θ z<|kM z<|kM z<|W' 15 z yo z λb4=>gl 15 rU z<|Ï z<|nr<|θ z<|θ z<|dQ hr z (Y0.BS cr' z z) z (λcg hr=>?_) (λcg hr=>?_)
 .refine θ z<|gy z z (y' 13 r7 z z z) z<|gy z z (y' 15 r7 z z z) z<|oE hr λb5 bx hr=>H' (C' z z) z (x' XP z) (eY'.h bx) z (⟨(ad.mono R),(W.mono R),(ay.mono R),(av.mono R),ai,Y,ax,az⟩) ?_
  cases b5
  .exact Η
  exact Η
 exact Η
instance {K:(Ŀ Zt)}{V:Int}{r:Bool}:SpcM ((I0 K V)) r (∀{Q:ŀ Addr}{T:Nat},Cr 3 #[δ Q K T,i' V] (λG=>sl V3 G Q T K) (λG v=>v=.bool r)):=⟨λa {Q T}=>O6 _ _ Q T _ a⟩
end Go.Proofs.YtepbagkffgddlaaGreat

namespace Go.Proofs.YtepbagkffgddlaaGreat
open Go.IntKind (i8 i16 i32 i64 u8 u16 u32 u64)
open Go.Proofs.Tryz
open Go Go.EL Go.RowKit Go.Proofs
set_option maxHeartbeats 4000000
set_option maxRecDepth 20000
end Go.Proofs.YtepbagkffgddlaaGreat

namespace Go.EL
open Go.IntKind (i8 i16 i32 i64 u8 u16 u32 u64)
open Go Go.RowKit
def BV:Ù:=[⟨ü 1,ζ (λ_=>0) (0:Int).toNat 1⟩]
def zz:Zb:=⟨1,[BV],[]⟩
theorem ZAv:ω BV:=ω.of (by decide +kernel)
theorem q9:Þ zz where
 ok:={
  n:=ĳ
  eqs:=⟨ĳ,λp hp=>by
   rw[Ē.1 (show p∈[BV]from hp)];exact⟨ZAv,by decide +kernel,ĳ,by decide +kernel,by decide +kernel⟩,ũ _ _⟩
  ε:=⟨ĳ,λp hp=>absurd hp ĝ,List.Pairwise.nil⟩ }
 n3:=ĳ
theorem BW:(Mc 0).Α (BV,0):=⟨ĳ,_,(xB (n:=1) ĳ).1,rfl⟩
abbrev q4:Zc:=⟨4,[],[]⟩
abbrev q5:Zc:=⟨5,[],[]⟩
def jO:Zb:=(â zz).1
def gO:Zd:=⟨[⟨1,jO,q4,0,0,-1,false⟩],2⟩
def ux:Zd:=⟨[⟨1,jO,q4,0,0,-1,false⟩,⟨2,jO,q5,0,0,-1,false⟩],3⟩
theorem ZAw:hL q4≠hL q5:=by intro e;have:=đ ByteArray.toList e;revert this;decide +kernel
theorem F8:q4∈ò 5:=Ē.2 rfl
theorem Uz:q5∈ò 6:=Ē.2 rfl
theorem ZAx:gV jO q4≠gV jO q5:=λe=>ZAw (Vw q9.canon.ok q9.canon.ok e).2
theorem UM:ie gO jO q4=(gO,1):=by
 unfold ie;have:er gO.t (gV jO q4)=some ⟨1,jO,q4,0,0,-1,false⟩:=by unfold er gO;exact List.find?_cons_of_pos (ă rfl)
 rw[this]
theorem L3:gG hM zz q4=(gO,1,0):=by unfold gG;rw[ą (An F8 q9.ok),Am F8];rfl
theorem Zzw:gG gO zz q4=(gO,1,0):=by unfold gG;rw[ą (An F8 q9.ok),Am F8];show((ie gO jO q4).1,(ie gO jO q4).2,0)=_;rw[UM]
theorem L4:gG gO zz q5=(ux,2,0):=by
 unfold gG;rw[ą (An Uz q9.ok),Am Uz];have a:ib 4 gO jO q4=(gO,1):=UM;have e:ib 5 gO jO q5=ie (ib 4 gO jO q4).1 jO q5:=rfl;have c:ie gO jO q5=(ux,2):=by
  unfold ie;have:er gO.t (gV jO q5)=none:=by unfold er gO;exact(List.find?_cons_of_neg (by rw[Ě];exact ZAx)).trans rfl
  rw[this];rfl
 show((ib 5 gO jO q5).1,(ib 5 gO jO q5).2,0)=_;rw[e,a,c]
theorem Zzx:gG gO zz ⟨11,[],[]⟩=(⟨[],0⟩,0,1):=rfl
theorem vu:ç gO:=by have:=(KW yN q9 (eV.nil 4) (by rw[L3])).ok;rwa [L3]at this
theorem Zzv:ç ux:=by have:=(KW vu q9 (eV.nil 5) (by rw[L4])).ok;rwa [L4]at this
abbrev BU:Zj:=⟨5,[],1,0,0,[],[],[],[]⟩
abbrev sj(n:Int):Zj:=⟨12,[],n,0,0,[],[],[],[]⟩
theorem OY:jO.n=1:=q9.Um
theorem Zzy:hQ gO 1 [BU] 3=(⟨[⟨1,jO,q4,4,0,-1,true⟩],2⟩,0):=by
 rw[uE (rfl) ĳ (by
  show([BU].all (ä jO))=true;unfold ä;rw[OY];decide +kernel)]
 show(Zd.mk [stepT jO 1 [BU] 3 ⟨1,jO,q4,0,0,-1,false⟩] 2,(0:Int))=_;unfold stepT;rw[ą rfl];rfl
theorem Zzz:hQ gO 2 [] 3=(⟨[],0⟩,380):=xU rfl
theorem ZzA:hQ gO 1 [] 13=(⟨[],0⟩,1):=sC rfl ĳ
theorem ZzB:hQ ux 2 [sj 5,sj 7] 0=(⟨[⟨1,jO,q4,0,0,-1,false⟩,⟨2,jO,q5,1,0,5,false⟩],3⟩,0):=by
 rw[uE (rfl) ĳ (by
  show([sj 5,sj 7].all (ä jO))=true;unfold ä;rw[OY];decide +kernel)]
 show(Zd.mk [stepT jO 2 [sj 5,sj 7] 0 ⟨1,jO,q4,0,0,-1,false⟩,stepT jO 2 [sj 5,sj 7] 0 ⟨2,jO,q5,0,0,-1,false⟩] 3,(0:Int))=_;unfold stepT;rw[ą rfl,ą rfl];rfl
end Go.EL

namespace Go.EL
open Go.IntKind (i8 i16 i32 i64 u8 u16 u32 u64)
open Go Go.RowKit
theorem ZAu:Ê BU:=.BJ 1 0 ĳ ĳ
theorem Vy{n:Int}(h:0<=n/\n<=7):Ê (sj n):=.zr 12 n ĳ h
theorem Zn5:JB.Α true:=by
 have w1:=A0 yN ĳ q9 (eV.nil 4);rw[L3]at w1;have w2:=A0 vu ĳ q9 (eV.nil 4);rw[Zzw]at w2;have w3:=AH vu ĳ 1 (l:=[BU]) ĳ (λc a=>by rw[Ē.1 a];exact ZAu) 3;rw[Zzy]at w3;have w4:=A0 vu ĳ q9 (eV.nil 11);rw[Zzx]at w4;have w5:=AH vu ĳ 2 (l:=[]) ĳ (λc a=>absurd a ĝ) 3;rw[Zzz]at w5;have w6:=AH vu ĳ 1 (l:=[]) ĳ (λc a=>absurd a ĝ) 13;rw[ZzA]at w6;have m:=(AT (B:=⟨[⟨1,jO,q4,4,0,-1,true⟩],2⟩) ĳ 1).1;have w8:=Qk vu.od ĳ;have j:=A0 vu ĳ q9 (eV.nil 5);rw[L4]at j;have d:=AH Zzv ĳ 2 (l:=[sj 5,sj 7]) ĳ (λc a=>by
  rcases Ď.1 a with a|a
  .rw[a];exact Vy ĳ
  rw[Ē.1 a];exact Vy ĳ) 0
 rw[ZzB]at d;have f:=(AT (B:=⟨[⟨1,jO,q4,0,0,-1,false⟩,⟨2,jO,q5,1,0,5,false⟩],3⟩) ĳ 2).1;have g:(yE hM).Α true:=by
  rcases Mg (Su yN.wx)with h|h
  .exact h.2
  exact absurd (yN.valid ĳ) h.1
 have i:=RH yN ĳ;have k:(I8 (BV,0) (gO,1,0)).Α true:=by refine⟨_,rfl,_,j,Cq.wp.no (λe=>e rfl) ⟨_,d,_,f,Cq.wp.yes rfl (Cq.wp.yes rfl (Cq.wp.yes rfl (Cq.wp.yes rfl (Cq.wp.no ĳ ⟨hM,rfl,true,g,hM,rfl,_,i,?_⟩))))⟩⟩;rfl
 refine⟨_,BW,hM,rfl,_,rfl,_,w1,_,rfl,_,w2,_,w3,_,rfl,_,w4,_,w5,_,w6,_,m,?_⟩;exact Cq.wp.no (λe=>e rfl) (Cq.wp.no (λe=>e rfl) (Cq.wp.no (λe=>e rfl) (Cq.wp.no (λe=>e rfl) (Cq.wp.no (λe=>e rfl) (Cq.wp.no (λe=>e rfl) (Cq.wp.no (λe=>e rfl) ⟨true,w8,Cq.wp.yes rfl (Cq.wp.yes rfl (Cq.wp.no (λe=>e rfl) (Cq.wp.no (λe=>e rfl) k)))⟩))))))
theorem ZtD{a:Ŀ Int}(h:a.length<=1000):(Kp a a).Α true:=by
 refine Cq.wp.no (λe=>e rfl) ?_;have key:=y5 a.length h (λ_=>true) (step:=λc=>if c<(a.length:Int)then(Cq.Θ a c λf=>Cq.Θ a c λg=>if ¬f=g then(Cq.ret (.inr (.inl false)))else(Cq.ret (.inl (i64.wrap (c+1)))))else(Cq.ret (.inr (.inr ())))) (λk d=>by
  exact Cq.wp.yes ŉ ⟨_,Κ d,_,Κ d,Cq.wp.no (λe=>e rfl) rfl⟩) (Cq.wp.no ŉ rfl)
 have e:((List.range a.length).all λ_=>true)=true:=Ć.2 λ_ _=>rfl;rw[e]at key;exact Cq.eY key rfl
theorem ZtT{B:Zd}(h:ç B)(a:B.t.length<=100):(yE B).Α true:=by
 rcases Mg (Su h.wx)with h'|h'
 .exact h'.2
 exact absurd (h.valid a) h'.1
theorem Zxp(B:Zd):(nq B).length<=13*B.t.length:=by unfold nq;rw[ć];exact Ee B 13
theorem Zr1{l:Ŀ Zt}(h:∀x∈l,jZ x):∃C,(I2 l (0,hM,hM)).Α (.inr (C,C))/\ç C/\C.t.length<=24:=by
 have key:∀(m i:Nat),m+i=min l.length 6->∀B,ç B->B.t.length<=4*i->∃C,(I2 l ((i:Int),B,B)).Α (.inr (C,C))/\ç C/\C.t.length<=24:=by
  intro m;induction m with
  |zero=>
   intro i hi B d r;refine⟨B,Cq.Zr ?_,d,ŉ⟩;by_cases h:i<l.length
   .exact Cq.wp.yes ŉ (Cq.wp.no ŉ rfl)
   exact Cq.wp.no ŉ rfl
  |succ m s=>
   intro i hi B d r;have a:i<l.length:=ŉ;obtain⟨k,q,c,hp⟩:=Zys (h _ (Ă a));obtain⟨d1,d2,d3⟩:=Zwn d hp;obtain⟨C,f,g,j⟩:=s (i+1) ŉ _ d1 ŉ;obtain⟨n,p⟩:=Zwo d ŉ hp;refine⟨C,Cq.Zr (Cq.wp.yes ŉ (Cq.wp.yes ŉ ⟨_,Κ a,_,n,_,Κ a,_,p,Cq.wp.no (λe=>e rfl) (Cq.wp.no (λe=>e rfl) ⟨true,Qk d1.od ŉ,true,ZtT d1 ŉ,_,RH d1 ŉ,_,Zva d1 ŉ,true,ZtD (by have:=Zxp (kW B (l[i]) k q c).1;omega),Cq.wp.no ĳ ?_⟩)⟩)),g,j⟩;show(Cq.loop _ _).wp _;rw[ψ ŉ];exact f
 exact key (min l.length 6) 0 ŉ hM yN (Ċ _)
theorem SO{B:Zd}(h:ç B)(id:Int):kV (fv B.t id).1:=by
 unfold fv;cases a:B.t.find? λt=>decide (t.id=id)with
 |some t=>exact h.od t (dV a)
 |none=>exact⟨jq.zero,(eV.nil 0).w⟩
theorem Zf4{l:Ŀ Zt}(h:∀x∈l,jZ x)(id:Int):(I0 l id).Α true:=by obtain⟨C,c,a,d⟩:=Zr1 h;obtain⟨f1,f2⟩:=AT (B:=C) ŉ id;refine⟨true,Zn5,Cq.wp.no ĳ ⟨hM,rfl,hM,rfl,Cq.eY c ?_⟩⟩;exact⟨_,f1,_,f2,Cq.wp.yes rfl ⟨true,Ss (SO a id) (SO a id) (mF.refl _),rfl⟩⟩
end Go.EL

